/- Lemmas of Sx22, Sx24, Ty, Sx20, Bk1, Bk2. No condition. -/
import Derived.Test.YtlkccdlgnpkjpaaGreatMO4
import Derived.IntWalk
import Derived.Test.YtlkccdlgnpkjpaaGreatRows
import Derived.Shelf.Bits.Mul64
set_option linter.unusedVariables false
set_option linter.unusedSimpArgs false
set_option linter.unusedSectionVars false
set_option maxHeartbeats 80000000
set_option maxRecDepth 100000
namespace Go.Proofs.YtlkccdlgnpkjpaaGreat
open Go.RowKit
theorem Sat.rehp{O:Org}{E:Env}{nt:NT}{nx:Nat}{fr:List (Nat×SV)}{hp hp':List (Nat×Option Blk)}{a:Act}{w:World}(h:Sat O E ⟨nt,nx,fr,hp⟩ a w)
  (hx:∀k b',lkh hp' k=some b'→∃b,lkh hp k=some b∧(∀κ,b'.real κ→b.real κ)∧(BS E nx w k b→BS E nx w k b')):Sat O E ⟨nt,nx,fr,hp'⟩ a w:=by
 refine⟨h.fr,h.nt,h.df,fun l b hb=>?_,fun l b hb=>?_,fun l l' b b' hb hb' hr hr' hne=>?_,fun b hb=>⟨(h.im b hb).1,(h.im b hb).2.1,fun l x hl hr=>?_⟩,fun l b hb hr=>?_,h.kq,h.lab,h.nl,h.imo⟩
 ·obtain⟨b0,h1,_,h3⟩:=hx l b hb;exact h3 (h.hp l b0 h1)
 ·obtain⟨b0,h1,_,_⟩:=hx l b hb;exact h.nx l b0 h1
 ·obtain⟨b0,h1,h2,_⟩:=hx l b hb
  obtain⟨b1,h3,h4,_⟩:=hx l' b' hb'
  exact h.inj l l' b0 b1 h1 h3 (h2 _ hr) (h4 _ hr') hne
 ·obtain⟨b0,h1,h2,_⟩:=hx l x hl;exact(h.im b hb).2.2 l b0 h1 (h2 _ hr)
 ·obtain⟨b0,h1,h2,_⟩:=hx l b hb;exact h.own l b0 h1 (h2 _ hr)
def pm(l nx k:Nat):Nat:=bif Nat.beq k l then nx else k
def mvH(l nx:Nat):List (Nat×Option Blk)→List (Nat×Option Blk)
 | []=>[]
 | (k,none)::r=>(k,none)::mvH l nx r
 | (k,some b)::r=>(k,some (oO (pm l nx) b))::mvH l nx r
theorem gS{l nx:Nat}:∀(hp:List (Nat×Option Blk)) (k:Nat),lkh (mvH l nx hp) k=(lkh hp k).map (oO (pm l nx))
 | [],k=>rfl
 | (j,none)::r,k=>by
  simp only[mvH,ah,gS r k];split<;>rfl
 | (j,some b)::r,k=>by
  simp only[mvH,ah,gS r k];split<;>rfl
theorem Sat.mv{O:Org}{E:Env}{nt:NT}{nx:Nat}{fr:List (Nat×SV)}{hp:List (Nat×Option Blk)}{a:Act}{w:World}(h:Sat O E ⟨nt,nx,fr,hp⟩ a w){l e z n:Nat}{f:Nat→List D}(hl:lkh hp l=some (.row e z n f)) :
  Sat O (E.newrow nx (E.ρ l) (E.κ l)) ⟨nt,nx+1,fr,(nx,some (.row e z n f))::(l,none)::mvH l nx hp⟩ a w:=by
 have hlx:l<nx:=h.nx l _ hl
 have h0:=h.hp l _ hl
 have h1:=h.rename (w':=w) (b':=.row e z n f) hl (fun h=>h) (fun _ _ _=>rfl) rfl ⟨rfl,rfl,rfl⟩ (by
  have:=ld (E:=E) (E':=E.newrow nx (E.ρ l) (E.κ l)) (nx:=nx) (nx':=nx+1) (w:=w) (π:=pm l nx) (fun j hj=>?_) (fun j hj=>?_) (fun _ h=>h) (l:=l) (b:=.row e z n f) hlx h0
  ·have e1:pm l nx l=nx:=by simp[pm]
   rw[e1]at this;exact this
  ·unfold pm
   cases hb:Nat.beq j l with
   | true=>obtain rfl:=Q2 hb;simp[Env.newrow]
   | false=>simp only[cond_false,Env.newrow];rw[if_neg (by omega),if_neg (by omega)];exact⟨rfl,rfl⟩
  ·unfold pm
   cases hb:Nat.beq j l with
   | true=>simp
   | false=>simp only[cond_false];omega)
 refine h1.rehp fun k b' hb'=>?_
 rw[ah]at hb'
 by_cases e1:nx=k
 ·rw[if_pos e1]at hb';cases hb'
  exact⟨_,by rw[ah,if_pos e1],fun _ h=>h,fun h=>h⟩
 ·rw [if_neg e1,ah]at hb'
  by_cases e2:l=k
  ·rw[if_pos e2]at hb';cases hb'
  ·rw [if_neg e2,gS]at hb'
   cases hq:lkh hp k with
   | none=>rw[hq]at hb';cases hb'
   | some b =>
    rw[hq]at hb';cases hb'
    have hkx:k<nx:=h.nx k b hq
    refine⟨b,by rw[ah,if_neg e1,ah,if_neg e2];exact hq,fun κ hr=>(bp _ _ _).1 hr,fun hb=>?_⟩
    have:=ld (E:=E.newrow nx (E.ρ l) (E.κ l)) (E':=E.newrow nx (E.ρ l) (E.κ l)) (nx:=nx+1) (nx':=nx+1) (w:=w) (π:=pm l nx) (fun j hj=>?_) (fun j hj=>?_) (fun _ h=>h) (l:=k) (b:=b) (by omega) hb
    ·have e3:pm l nx k=k:=by
      unfold pm
      cases hb:Nat.beq k l with
      | true=>exact absurd (Q2 hb).symm e2
      | false=>rfl
     rw[e3]at this;exact this
    ·unfold pm
     cases hb:Nat.beq j l with
     | true =>
      obtain rfl:=Q2 hb
      have e4:¬j=nx:=by omega
      simp[Env.newrow,e4]
     | false=>exact⟨rfl,rfl⟩
    ·unfold pm
     cases hb:Nat.beq j l with
     | true=>simp
     | false=>simp only[cond_false];omega
theorem HB.sub{E E1:Env}{hp hp1:List (Nat×Option Blk)}(h:∀k b,lkh hp1 k=some b→b.real (E1.κ k)→∃l b',lkh hp l=some b'∧b'.real (E.κ l)∧E.ρ l=E1.ρ k):∀b,HB E1 hp1 b→HB E hp b:=by
 rintro b ⟨k,x,hk,hr,rfl⟩
 obtain⟨l,b',h1,h2,h3⟩:=h k x hk hr
 exact⟨l,b',h1,h2,h3⟩
theorem af.via{m m' nx nx1:Nat}{nt:NT}{fr fr1:List (Nat×SV)}{hp hp1:List (Nat×Option Blk)}{x r:SV}{H':List (Nat×Option Blk)}(hm:m≤nx)(hn:nx≤nx1)
  (hs:∀O E a w,Sat O E ⟨nt,nx,fr,hp⟩ a w→∃E1,Sat O E1 ⟨nt,nx1,fr1,hp1⟩ a w∧(∀l,l<nx→E1.ρ l=E.ρ l∧E1.κ l=E.κ l)∧E1.Im=E.Im∧∀b,HB E1 hp1 b→HB E hp b)
  (h:af m ⟨nt,nx1,fr1,hp1⟩ x m' r H'):af m ⟨nt,nx,fr,hp⟩ x m' r H':=by
 refine⟨fun O E a w v hO hs0 hv=>?_⟩
 obtain⟨E1,h1,h2,h3,h4⟩:=hs O E a w hs0
 obtain⟨E',k1,k2,k3,k4,k5,k6⟩:=h.out O E1 a w v hO h1 (RS.mono (E:=E) h2 hn (fun b hb=>by rw[h3];exact hb) (fun _ _=>rfl) hv)
 refine⟨E',k1,fun l hl=>?_,fun b hb=>h4 b (k3 b hb),fun b hb=>?_,fun b hb=>k5 b (by rw[h3];exact hb),k6⟩
 ·obtain⟨p1,p2⟩:=k2 l hl
  obtain⟨p3,p4⟩:=h2 l (by omega)
  exact⟨p1.trans p3,p2.trans p4⟩
 ·rcases k4 b hb with hb|hb
  ·exact Or.inl (by rw[← h3];exact hb)
  ·exact Or.inr (h4 b hb)
theorem dL{E:Env}{nx b c:Nat}:∀l,l<nx→(E.newrow nx b c).ρ l=E.ρ l∧(E.newrow nx b c).κ l=E.κ l:=fun l hl=>⟨by simp only[Env.newrow];rw[if_neg (by omega)],by simp only[Env.newrow];rw[if_neg (by omega)]⟩
theorem af.mv{m m' nx:Nat}{nt:NT}{fr:List (Nat×SV)}{hp:List (Nat×Option Blk)}{x r:SV}{H':List (Nat×Option Blk)}(l:Nat){e z n:Nat}{f:Nat→List D}(hl:lkh hp l=some (.row e z n f))(hm:m≤nx)
  (h:af m ⟨nt,nx+1,fr,(nx,some (.row e z n f))::(l,none)::mvH l nx hp⟩ x m' r H'):af m ⟨nt,nx,fr,hp⟩ x m' r H':=by
 refine af.via hm (by omega) (fun O E a w hs=>⟨_,hs.mv hl,dL,rfl,HB.sub fun k b hk hr=>?_⟩) h
 rw[ah]at hk
 by_cases e1:nx=k
 ·subst e1;rw[if_pos rfl]at hk;cases hk
  exact⟨l,_,hl,by simpa[Env.newrow]using hr,by simp[Env.newrow]⟩
 ·rw[if_neg e1,ah]at hk
  by_cases e2:l=k
  ·rw[if_pos e2]at hk;cases hk
  ·rw[if_neg e2,gS]at hk
   cases hq:lkh hp k with
   | none=>rw[hq]at hk;cases hk
   | some b0 =>
    rw[hq]at hk;cases hk
    have hkx:=hs.nx k b0 hq
    obtain⟨p1,p2⟩:=dL (E:=E) (nx:=nx) (b:=E.ρ l) (c:=E.κ l) k hkx
    rw[p2]at hr
    exact⟨k,b0,hq,(bp _ _ _).1 hr,p1.symm⟩
theorem Sat.virtC{O:Org}{E:Env}{nt:NT}{nx:Nat}{fr:List (Nat×SV)}{hp:List (Nat×Option Blk)}{a:Act}{w:World}(h:Sat O E ⟨nt,nx,fr,hp⟩ a w)(k j:Nat){cs:List SV}(e z:Nat)(f:Nat→List D)(hz:0<z)(hk:lkh hp k=some (.cells cs))(hj:cs[j]?=some (.d (.val (.slice none 0 0)))) :
  Sat O (E.newrow nx 0 0) ⟨nt,nx+1,fr,(k,some (.cells (cs.set j (.sl nx z 0 0))))::(nx,some (.row e z 0 f))::hp⟩ a w:=by
 have hkx:k<nx:=h.nx k _ hk
 have h1:=h.virt (e:=e) (f:=f) hz
 refine h1.rehp fun q b' hb'=>?_
 rw[ah]at hb'
 by_cases e1:k=q
 ·subst e1
  rw[if_pos rfl]at hb';cases hb'
  refine⟨.cells cs,by rw[ah,if_neg (show ¬nx=k by omega)];exact hk,fun _ h=>h,fun hb=>?_⟩
  obtain⟨vs,T,g1,g2,g3⟩:=hb
  refine⟨vs,T,g1,by simpa using g2,fun i hi=>?_⟩
  have hi':i<cs.length:=by simpa using hi
  by_cases e2:j=i
  ·subst e2
   have:=(g3 j hi').1
   have e3:cs[j]=.d (.val (.slice none 0 0)):=by rw[Q0 hi']at hj;exact Option.some.inj hj
   rw[e3]at this
   have hv:=this.val_inv
   refine⟨?_,(g3 j hi').2⟩
   rw[List.getElem_set_self,hv]
   exact .sl _ _ _ _ _ _ (by show nx<nx+1;omega) (Q4 _) (by unfold maxLen;omega) (fun h=>by omega) (fun _=>⟨by simp[Env.newrow],fun h=>by omega⟩)
  ·rw[List.getElem_set_ne e2];exact g3 i hi'
 ·rw[if_neg e1]at hb'
  exact⟨b',hb',fun _ h=>h,fun h=>h⟩
theorem af.virtC{m m' nx:Nat}{nt:NT}{fr:List (Nat×SV)}{hp:List (Nat×Option Blk)}{x r:SV}{H':List (Nat×Option Blk)}(k j e z:Nat)(f:Nat→List D){cs:List SV}(hz:0<z)(hk:lkh hp k=some (.cells cs))(hj:cs[j]?=some (.d (.val (.slice none 0 0))))(hm:m≤nx)
  (h:af m ⟨nt,nx+1,fr,(k,some (.cells (cs.set j (.sl nx z 0 0))))::(nx,some (.row e z 0 f))::hp⟩ x m' r H'):af m ⟨nt,nx,fr,hp⟩ x m' r H':=by
 refine af.via hm (by omega) (fun O E a w hs=>⟨_,hs.virtC k j e z f hz hk hj,dL,rfl,HB.sub fun q b hq hr=>?_⟩) h
 have hkx:k<nx:=hs.nx k _ hk
 rw[ah]at hq
 by_cases e1:k=q
 ·subst e1;rw[if_pos rfl]at hq;cases hq
  exact⟨k,_,hk,trivial,(dL (E:=E) k hkx).1.symm⟩
 ·rw[if_neg e1,ah]at hq
  by_cases e2:nx=q
  ·subst e2;rw[if_pos rfl]at hq;cases hq
   simp[Blk.real,Env.newrow]at hr
  ·rw[if_neg e2]at hq
   have hqx:=hs.nx q b hq
   obtain⟨p1,p2⟩:=dL (E:=E) (nx:=nx) (b:=0) (c:=0) q hqx
   rw[p2]at hr
   exact⟨q,b,hq,hr,p1.symm⟩
theorem Le.virtC{nx:Nat}{nt:NT}{fr:List (Nat×SV)}{hp:List (Nat×Option Blk)}(k j e z:Nat)(f:Nat→List D){cs:List SV}(hz:0<z)(hk:lkh hp k=some (.cells cs))(hj:cs[j]?=some (.d (.val (.slice none 0 0)))) :
  Le ⟨nt,nx,fr,hp⟩ ⟨nt,nx+1,fr,(k,some (.cells (cs.set j (.sl nx z 0 0))))::(nx,some (.row e z 0 f))::hp⟩ :=
 ⟨fun _ _ _ _ hs=>⟨_,hs.virtC k j e z f hz hk hj⟩⟩
theorem ae.fn{L:List Nat}{f:Fn}{cs cs0:List SV}(h:bn L cs cs0):ae L (.fn f cs) (.fn f cs0):=by
 obtain⟨h1,h2⟩:=h.out
 refine⟨fun E nx w v hv=>?_⟩
 cases hv with
 | fn _ _ us hs hh =>
  refine .fn _ _ _ (by omega) fun j hj=>?_
  obtain⟨x,g1,g2⟩:=h2 j _ (Q0 hj)
  obtain⟨q1,q2⟩:=Q3 g1
  have:=hh j q1
  rw[q2]at this
  exact g2.out _ _ _ _ this
theorem af.mv2{nx:Nat}{nt:NT}{fr:List (Nat×SV)}{hp:List (Nat×Option Blk)}{x r:SV}{H':List (Nat×Option Blk)}{e z n:Nat}{f:Nat→List D}(hl:lkh hp 1=some (.row e z n f))(hm:Nat.ble 2 nx=true)
  (hx:rs2 ⟨nt,nx+1,fr,(nx,some (.row e z n f))::(1,none)::mvH 1 nx hp⟩ [0,1,nx] x fun y=>SV.Le y r) (hH:qv ⟨nt,nx+1,fr,(nx,some (.row e z n f))::(1,none)::mvH 1 nx hp⟩ [0,1,nx] H'):af 2 ⟨nt,nx,fr,hp⟩ x 3 r H':=by
 have h2:2≤nx:=zzb hm
 refine af.mv 1 hl h2 (af.of [0,1,nx] rfl (fun i hi=>by have:i=0∨i=1:=(by omega);rcases this with h|h<;>subst h<;>rfl) ?_ hx hH)
 have e1:Nat.beq 0 nx=false:=by cases h:Nat.beq 0 nx with|true=>have:=Q2 h;omega|false=>rfl
 have e2:Nat.beq 1 nx=false:=by cases h:Nat.beq 1 nx with|true=>have:=Q2 h;omega|false=>rfl
 have e3:Nat.beq 0 1=false:=rfl
 simp[bq,e1,e2,e3]
section
structure aj(S:St)(L:List Nat)(x y:SV):Prop where
 out:∀O E a w v,Sat O E S a w→RS E S.nx w x v→RS (E.end S L) L.length w y v
def fO(S:St)(L:List Nat):List SV→List SV→Prop
 | [],[]=>True
 | x::xs,y::ys=>aj S L x y∧fO S L xs ys
 | _,_=>False
theorem fO.out{S:St}{L:List Nat}:∀{xs ys:List SV},fO S L xs ys→xs.length=ys.length∧∀(j:Nat) (y:SV),ys[j]?=some y→∃x,xs[j]?=some x∧aj S L x y
 | [],[],_=>⟨rfl,fun j y h=>by simp at h⟩
 | x::xs,y::ys,⟨h1,h2⟩=>by
  obtain⟨g1,g2⟩:=fO.out h2
  refine⟨by simp[g1],fun j z hz=>?_⟩
  cases j with
  | zero=>simp at hz;subst hz;exact⟨x,rfl,h1⟩
  | succ j=>simp at hz;exact g2 j z hz
 | [],_::_,h=>h.elim
 | _::_,[],h=>h.elim
theorem fO.at{S:St}{L:List Nat}{xs ys:List SV}(h:fO S L xs ys){j:Nat}(hj:j<ys.length):∃hj':j<xs.length,aj S L xs[j] ys[j]:=by
 obtain⟨h1,h2⟩:=h.out
 obtain⟨x,g1,g2⟩:=h2 j _ (Q0 hj)
 obtain⟨q1,q2⟩:=Q3 g1
 exact⟨q1,by rw[q2];exact g2⟩
variable{S:St}{L:List Nat}
theorem aj.any{x:SV}:aj S L x .any:=⟨fun _ _ _ _ _ _ _=>.any _⟩
theorem aj.d{x:D}:aj S L (.d x) (.d x):=⟨fun O E a w v hs hv=>by cases hv with|d _ _ hv=>exact .d _ _ (hv.mono (fun _ hb=>Or.inl hb) fun _ _=>rfl)⟩
theorem aj.le{x y z:SV}(h:aj S L x y)(hl:SV.Le y z):aj S L x z:=⟨fun O E a w v hs hv=>hl.out _ _ _ _ (h.out O E a w v hs hv)⟩
theorem aj.ptrL{l o i:Nat}(hi:kf L l=some i):aj S L (.ptr l o) (.ptr i o):=by
 obtain⟨h1,h2⟩:=bD hi
 refine⟨fun O E a w v hs hv=>?_⟩
 cases hv with
 | ptr _ _ hl =>
  have:=RS.ptr (E:=E.end S L) (nx:=L.length) (w:=w) i o h1
  simp only[Env.end,h2]at this;exact this
theorem aj.slL{l z o n i:Nat}(hi:kf L l=some i):aj S L (.sl l z o n) (.sl i z o n):=by
 obtain⟨h1,h2⟩:=bD hi
 refine⟨fun O E a w v hs hv=>?_⟩
 cases hv with
 | sl _ _ _ _ ad cap hl hc hm ha h0=>exact .sl i z o n ad cap h1 hc hm (by simp only[Env.end,h2];exact ha) (by simp only[Env.end,h2];exact h0)
theorem aj.ptr{l o:Nat}{cs ds:List SV}(hi:kf L l=none)(hl:lkh S.hp l=some (.cells cs))(h:fO S L cs ds):aj S L (.ptr l o) (.iref ds o):=by
 refine⟨fun O E a w v hs hv=>?_⟩
 cases hv with
 | ptr _ _ hlx =>
  obtain⟨vs,T,g1,g2,g3⟩:=hs.hp l _ hl
  have hlen:=h.out.1
  have:=RS.iref (E:=E.end S L) (nx:=L.length) (w:=w) ds o (E.ρ l) 0 (fun j=>vs.getD j undef) (Or.inr ⟨l,_,hl,trivial,rfl,fk hi⟩) (fun j hj=>by
    have hj':j<vs.size:=by omega
    simp[World.cell?,g1,Array.getD,hj']) (fun j hj=>(g3 j (by omega)).2) (fun j hj=>by
    obtain⟨q1,q2⟩:=h.at hj
    exact q2.out O E a w _ hs (g3 j q1).1)
  rwa [Q19]at this
theorem aj.sl{l e z o n m:Nat}{f:Nat→List D}(hi:kf L l=none)(hl:lkh S.hp l=some (.row e z m f))(hn:o+n≤m):aj S L (.sl l z o n) (.d (.sl z n fun i=>f (o+i))):=by
 refine⟨fun O E a w v hs hv=>?_⟩
 have hI:∀b,E.Im b→(E.end S L).Im b:=fun b hb=>Or.inl hb
 obtain⟨y,h1,h2⟩:=jQ (ρ':=(E.end S L).ρ) (κ':=(E.end S L).κ) (m':=L.length) (k:=fun y=>y=.d (.sl z n fun i=>f (o+i))) hs hI hv (fun l' b hl' hb hr=>by
   have:SV.lab (.sl l z o n)=some l:=rfl
   rw[this]at hl';cases hl';exact Or.inr ⟨l,b,hb,hr,rfl,fk hi⟩) (by simp only[iv,hl];simp[hn])
 rw[h1]at h2;exact h2
theorem aj.fn{f:Fn}{cs ds:List SV}(h:fO S L cs ds):aj S L (.fn f cs) (.fn f ds):=by
 refine⟨fun O E a w v hs hv=>?_⟩
 cases hv with
 | fn _ _ us hsz hh=>exact .fn _ _ us (by have:=h.out.1;omega) fun j hj=>by obtain⟨q1,q2⟩:=h.at hj;exact q2.out O E a w _ hs (hh j q1)
theorem aj.agg{cs ds:List SV}(h:fO S L cs ds):aj S L (.agg cs) (.agg ds):=by
 refine⟨fun O E a w v hs hv=>?_⟩
 cases hv with
 | agg _ us hsz h1 hh=>exact .agg _ us (by have:=h.out.1;omega) h1 fun j hj=>by obtain⟨q1,q2⟩:=h.at hj;exact q2.out O E a w _ hs (hh j q1)
theorem aj.tup{cs ds:List SV}(h:fO S L cs ds):aj S L (.tup cs) (.tup ds):=by
 refine⟨fun O E a w v hs hv=>?_⟩
 cases hv with
 | tup _ us hsz hh=>exact .tup _ us (by have:=h.out.1;omega) fun j hj=>by obtain⟨q1,q2⟩:=h.at hj;exact q2.out O E a w _ hs (hh j q1)
theorem aj.iref{cs ds:List SV}{o:Nat}(h:fO S L cs ds):aj S L (.iref cs o) (.iref ds o):=by
 refine⟨fun O E a w v hs hv=>?_⟩
 have hlen:=h.out.1
 cases hv with
 | iref _ _ b p g hb hcell h1 hh=>exact .iref _ _ b p g (Or.inl hb) (fun j hj=>hcell j (by omega)) (fun j hj=>h1 j (by omega)) fun j hj=>by obtain⟨q1,q2⟩:=h.at hj;exact q2.out O E a w _ hs (hh j q1)
theorem aj.lt0{x:SV}(h:SV.Lt 0 x):aj S L x x:=⟨fun O E a w v hs hv=>RS.congr (E:=E) (m:=0) (fun l hl=>by omega) (Nat.zero_le _) (fun _ hb=>Or.inl hb) h hv⟩
theorem aj.same{x:SV}{m:Nat}(h:SV.Lt m x)(hm:m≤L.length)(hid:∀i,i<m→L.getD i 0=i):aj S L x x :=
 ⟨fun O E a w v hs hv=>RS.congr (E:=E) (m:=m) (fun l hl=>by simp only[Env.end];rw[hid l hl];exact⟨rfl,rfl⟩) hm (fun _ hb=>Or.inl hb) h hv⟩
structure DLe(x y:D):Prop where
 out:∀w Im v,RD w Im x v→RD w Im y v
theorem DLe.refl(x:D):DLe x x:=⟨fun _ _ _ h=>h⟩
theorem DLe.nil{z:Nat}{f:Nat→List D}:DLe (.val (.slice none 0 0)) (.sl z 0 f):=⟨fun w Im v h=>by
 cases h with|val _ _=>exact .sl z 0 f none 0 (fun _ _=>undef) (Q4 _) (by unfold maxLen;omega) (fun i hi=>by omega) (fun h=>by omega) (fun i j hi=>by omega)⟩
def gy:List D→List D→Prop
 | [],[]=>True
 | x::xs,y::ys=>DLe x y∧gy xs ys
 | _,_=>False
theorem gy.refl:∀xs:List D,gy xs xs
 | []=>trivial
 | x::xs=>⟨.refl x,gy.refl xs⟩
theorem gy.of{xs ys:List D}(h:xs=ys):gy xs ys:=by subst h;exact .refl _
theorem gy.out:∀{xs ys:List D},gy xs ys→xs.length=ys.length∧∀(j:Nat) (hx:j<xs.length) (hy:j<ys.length),DLe xs[j] ys[j]
 | [],[],_=>⟨rfl,fun j hx=>by simp at hx⟩
 | x::xs,y::ys,⟨h1,h2⟩=>by
  obtain⟨g1,g2⟩:=gy.out h2
  refine⟨by simp[g1],fun j hx hy=>?_⟩
  cases j with
  | zero=>exact h1
  | succ j=>exact g2 j (by simpa using hx) (by simpa using hy)
 | [],_::_,h=>h.elim
 | _::_,[],h=>h.elim
def blkS(S:St)(L:List Nat):Option Blk→Blk→Prop
 | some (.cells cs),.cells cs'=>fO S L cs cs'
 | some (.row e z n f),.row e' z' n' f'=>(e=e'∧z=z'∧n=n')∧∀i,i<n→gy (f i) (f' i)
 | some (.cf _ n g),.cf m' n' g'=>(n=n'∧m'≤L.length)∧∀j,j<n'→aj S L (g j) (g' j)∧SV.Lt m' (g' j)
 | some (.cells cs),.cf m' n' g'=>m'≤L.length∧fO S L cs ((List.range n').map g')∧∀j,j<n'→SV.Lt m' (g' j)
 | _,_=>False
def n8(S:St)(L:List Nat):List (Nat×Option Blk)→Prop
 | []=>True
 | (_,none)::r=>n8 S L r
 | (i,some b)::r=>bif Nat.blt i L.length then blkS S L (lkh S.hp (L.getD i 0)) b∧n8 S L r else False
theorem iV:∀{H:List (Nat×Option Blk)},n8 S L H→∀i b,lkh H i=some b→i<L.length∧blkS S L (lkh S.hp (L.getD i 0)) b
 | [],_,i,b,h=>by simp[lkh]at h
 | (j,none)::r,hk,i,b,h=>iV (H:=r) hk i b (aG h).2
 | (j,some b')::r,hk,i,b,h=>by
  unfold n8 at hk
  cases hb:Nat.blt j L.length with
  | false=>simp[hb]at hk
  | true =>
   simp only[hb,cond_true]at hk
   rw[ah]at h
   by_cases e:j=i
   ·subst e;rw[if_pos rfl]at h;cases h;exact⟨by simpa using hb,hk.1⟩
   ·rw[if_neg e]at h;exact iV hk.2 i b h
theorem af.laid{m m':Nat}{S:St}{x r:SV}{H':List (Nat×Option Blk)}(L:List Nat)(hlen:L.length=m')(hm:∀i,i<m→L.getD i 0=i)(hd:bq L=true)(hx:aj S L x r)(hH:n8 S L H'):af m S x m' r H':=by
 refine⟨fun O E a w v hO hs hv=>?_⟩
 subst hlen
 have hblk:∀i b,lkh H' i=some b→i<L.length∧(∃b0,lkh S.hp (L.getD i 0)=some b0∧(b.real (E.κ (L.getD i 0))→b0.real (E.κ (L.getD i 0))))∧BS (E.end S L) L.length w i b:=by
  intro i b hb
  obtain⟨g1,g2⟩:=iV hH i b hb
  unfold blkS at g2
  split at g2
  ·rename_i cs cs' hl
   refine⟨g1,⟨_,hl,fun _=>trivial⟩,?_⟩
   obtain⟨vs,T,k1,k2,k3⟩:=hs.hp _ _ hl
   have hlen:=g2.out.1
   refine⟨vs,T,k1,by omega,fun j hj=>?_⟩
   obtain⟨q1,q2⟩:=g2.at hj
   exact⟨q2.out O E a w _ hs (k3 j q1).1,(k3 j q1).2⟩
  ·rename_i e z n f e' z' n' f' hl
   obtain⟨⟨rfl,rfl,rfl⟩,g3⟩:=g2
   refine⟨g1,⟨_,hl,fun h=>h⟩,?_⟩
   obtain⟨k1,k2,k3,k4,k5⟩:=hs.hp _ _ hl
   refine⟨k1,k2,k3,fun i hi=>by rw[← (g3 i hi).out.1];exact k4 i hi,fun hk=>?_⟩
   obtain⟨vs,q1,q2,q3,q4⟩:=k5 hk
   refine⟨vs,q1,q2,q3,fun i j hi hj=>?_⟩
   obtain⟨p1,p2⟩:=(g3 i hi).out
   exact((p2 j (by omega) hj).out _ _ _ (q4 i j hi (by omega))).mono (fun b hb=>Or.inl hb) fun _ _=>rfl
  ·rename_i m n g m' n' g' hl
   obtain⟨⟨rfl,hm'⟩,g3⟩:=g2
   refine⟨g1,⟨_,hl,fun h=>h⟩,?_⟩
   obtain⟨k0,hh⟩:=hs.hp _ _ hl
   refine⟨hm',fun hp=>?_⟩
   obtain⟨vs,T,k1,k2,k3⟩:=hh hp
   exact⟨vs,T,k1,k2,fun j hj=>⟨(g3 j hj).2,(g3 j hj).1.out O E a w _ hs (k3 j hj).2.1,(k3 j hj).2.2⟩⟩
  ·rename_i cs m' n' g' hl
   obtain⟨hm',g3,g4⟩:=g2
   refine⟨g1,⟨_,hl,fun _=>trivial⟩,?_⟩
   obtain⟨vs,T,k1,k2,k3⟩:=hs.hp _ _ hl
   have hlen:=g3.out.1
   refine⟨hm',fun _=>⟨vs,T,k1,by simp at hlen;omega,fun j hj=>?_⟩⟩
   obtain⟨q1,q2⟩:=g3.at (j:=j) (by simpa using hj)
   simp only[List.getElem_map,List.getElem_range]at q2
   exact⟨g4 j hj,q2.out O E a w _ hs (k3 j q1).1,(k3 j q1).2⟩
  ·exact g2.elim
 have hmem:∀i,i<L.length→L.getD i 0∈L:=fun i hi=>by simp[List.getD,Q0 hi]
 refine⟨E.end S L,⟨fun i b hb=>(hblk i b hb).2.2,fun i b hb=>(hblk i b hb).1,?_,?_⟩,fun l hl=>by simp only[Env.end];rw[hm l hl];exact⟨rfl,rfl⟩,?_,?_,fun b hb=>Or.inl hb,hx.out O E a w v hs hv⟩
 ·intro i j b b' hi hj hr hr' hne
  obtain⟨g1,⟨b0,g2,g3⟩,_⟩:=hblk i b hi
  obtain⟨g4,⟨b1,g5,g6⟩,_⟩:=hblk j b' hj
  exact hs.inj _ _ _ _ g2 g5 (g3 hr) (g6 hr') (ca hd g1 g4 hne)
 ·intro b hb
  rcases hb with hb|⟨l,y,hl,hr,rfl,hn⟩
  ·obtain⟨k1,_,k3⟩:=hs.im b hb
   refine⟨k1,fun i z hz hzr=>?_⟩
   obtain⟨g1,⟨b0,g2,g3⟩,_⟩:=hblk i z hz
   exact k3 _ _ g2 (g3 hzr)
  ·refine⟨(hs.hp _ _ hl).lt hr,fun i z hz hzr=>?_⟩
   obtain⟨g1,⟨b0,g2,g3⟩,_⟩:=hblk i z hz
   exact hs.inj _ _ _ _ g2 hl (g3 hzr) hr (fun e=>hn (e▸hmem i g1))
 ·rintro b ⟨i,z,hz,hzr,rfl⟩
  obtain⟨g1,⟨b0,g2,g3⟩,_⟩:=hblk i z hz
  exact⟨_,_,g2,g3 hzr,rfl⟩
 ·rintro b (hb|⟨l,y,hl,hr,rfl,hn⟩)
  ·exact Or.inl hb
  ·exact Or.inr ⟨l,y,hl,hr,rfl⟩
theorem af.sealB{m m':Nat}{S:St}{x r:SV}{H':List (Nat×Option Blk)}(L:List Nat)(hlen:L.length=m')(hm:idP L m=true)(hd:bq L=true)(hx:aj S L x r)(hH:n8 S L H'):af m S x m' r H' :=
 af.laid L hlen (fun i hi=>by unfold idP at hm;rw[Q23]at hm;exact Q2 (hm i (by simpa using hi))) hd hx hH
theorem d5{m i:Nat}(h:i<m):(List.range m).getD i 0=i:=by simp[List.getD,h]
theorem lG{m l:Nat}(h:l<m):kf (List.range m) l=some l:=by
 cases e:kf (List.range m) l with
 | none=>exact absurd (List.mem_range.2 h) (fk e)
 | some j =>
  obtain⟨h1,h2⟩:=bD e
  rw[d5 (by simpa using h1)]at h2
  rw[h2]
theorem lH{m l:Nat}(h:m≤l):kf (List.range m) l=none:=by
 cases e:kf (List.range m) l with
 | none=>rfl
 | some j =>
  obtain⟨h1,h2⟩:=bD e
  have h1:j<m:=by simpa using h1
  rw[d5 h1]at h2
  omega
theorem oZ:∀{L:List Nat},L.Nodup→bq L=true
 | [],_=>rfl
 | x::r,h=>by
  rw[List.nodup_cons]at h
  unfold bq
  have:r.any (Nat.beq x)=false:=by
   rw[List.any_eq_false];intro y hy hb
   exact h.1 (Q2 hb▸hy)
  rw[this];exact oZ h.2
theorem af.sealM{m:Nat}{S:St}{x r:SV}(hx:aj S (List.range m) x r):af m S x m r [] :=
 af.laid (List.range m) (by simp) (fun i hi=>d5 hi) (oZ List.nodup_range) hx trivial
theorem aj.ptrM{S:St}{m l o:Nat}(h:Nat.blt l m=true):aj S (List.range m) (.ptr l o) (.ptr l o):=.ptrL (lG (by simpa using h))
theorem aj.ptrN{S:St}{m l o:Nat}{cs ds:List SV}(h:Nat.ble m l=true)(hl:lkh S.hp l=some (.cells cs))(hs:fO S (List.range m) cs ds):aj S (List.range m) (.ptr l o) (.iref ds o):=.ptr (lH (zzb h)) hl hs
theorem aj.sameM{S:St}{m:Nat}{x:SV}(h:SV.Lt m x):aj S (List.range m) x x:=.same h (by simp) fun i hi=>d5 hi
theorem ae.iref{L:List Nat}{cs cs0:List SV}{o:Nat}(h:bn L cs cs0):ae L (.iref cs o) (.iref cs0 o):=by
 obtain⟨h1,h2⟩:=h.out
 refine⟨fun E nx w v hv=>?_⟩
 cases hv with
 | iref _ _ b p g hb hcell h3 hh =>
  refine .iref _ _ b p g hb (fun j hj=>hcell j (by omega)) (fun j hj=>h3 j (by omega)) fun j hj=>?_
  obtain⟨x,g1,g2⟩:=h2 j _ (Q0 hj)
  obtain⟨q1,q2⟩:=Q3 g1
  have:=hh j q1
  rw[q2]at this
  exact g2.out _ _ _ _ this
theorem ae.same{L:List Nat}{x:SV}{m:Nat}(h:SV.Lt m x)(hm:m≤L.length)(hid:∀i,i<m→L.getD i 0=i):ae L x x :=
 ⟨fun E nx w v hv=>RS.congr (E:=E) (m:=m) (fun l hl=>by simp only;rw[hid l hl];exact⟨_root_.rfl,_root_.rfl⟩) hm (fun _ hb=>hb) h hv⟩
theorem zA{p:Prop}(h:p:=by first|((((conv=>whnf);repeat' (first|exact trivial|exact ae.rfl rfl|exact ae.ptr rfl|exact ae.sl rfl|((with_reducible refine ae.fn ?_);(conv=>whnf))|((refine ae.iref ?_);(conv=>whnf))|exact ae.free SV.Le.nil rfl|((with_reducible refine And.intro ?_ ?_)<;>(conv=>whnf))|((refine ae.free ?_ rfl);(repeat' (first|exact SV.Le.rfl _|exact SV.Le.nil|exact SV.Le.sl (fun i hi=>by(rcases i with _|_|_|_|i)<;>first|rfl|(exfalso;omega))|with_reducible refine SV.Le.agg ?_|exact Les.nil|with_reducible refine Les.cons ?_ ?_))))));done)|fail "no"):p:=h
theorem zH{p:Prop}(h:p:=by first|((((conv=>whnf);repeat' (first|exact trivial|exact ae.rfl rfl|exact ae.ptr rfl|exact ae.sl rfl|((with_reducible refine ae.fn ?_);(conv=>whnf))|((refine ae.iref ?_);(conv=>whnf))|exact ae.free SV.Le.nil rfl|exact⟨rfl,rfl,rfl⟩|exact fun i hi=>rfl|exact(fun i hi=>by(rcases i with _|i)<;>first|rfl|(exfalso;omega))|((with_reducible refine And.intro ?_ ?_)<;>(conv=>whnf)))));done)|fail "no"):p:=h
theorem zK{p:Prop}(h:p:=by first|(((conv=>whnf);repeat' (first|exact trivial|((refine And.intro rfl ?_);(conv=>whnf))));done)|fail "no"):p:=h
theorem zB{p:Prop}(h:p:=by first|((first|exact pR (zzb rfl) (by omega)|omega);done)|fail "no"):p:=h
theorem zO{p:Prop}(h:p:=by first|((first|exact IntWalk.i64_in _ (by omega)|exact IntWalk.u64_in _ (by omega)|exact IntWalk.u8_in _ (by omega)|exact IntWalk.u32_in _ (by omega)|exact IntWalk.i32_in _ (by omega)|exact IntWalk.u16_in _ (by omega));done)|fail "no"):p:=h
theorem zC{p:Prop}(h:p:=by first|((first|omega|exact zzb rfl);done)|fail "no"):p:=h
theorem zE{p:Prop}(h:p:=by first|((first|exact trivial|exact aj.any|exact aj.d|exact aj.ptrL rfl|exact aj.slL rfl|exact aj.lt0 (SV.Lt.of rfl)|exact aj.same (by assumption) (zzb rfl) (fun i hi=>id5 hi)|exact aj.le aj.d (SV.Le.i (by omega))|exact⟨rfl,rfl,rfl⟩|exact⟨rfl,zzb rfl⟩|exact dir_seal (by assumption)|exact dir_sealR (by assumption) (fun l hl=>by rcases l with _|_|_|_|_|l<;>first|rfl|omega)|exact fun i hi=>gy.refl _|exact aj.le aj.d SV.Le.nil|exact aj.le (aj.sl rfl rfl (by omega)) (SV.Le.sl fun i hi=>by simp only[Q19]));done)|fail "no"):p:=h
theorem zA9{p:Prop}(h:p:=by first|((first|exact Les.nil|exact SV.Le.rfl _|exact SV.Le.sl (fun i hi=>by(rcases i with _|_|_|_|i)<;>first|rfl|(exfalso;omega)));done)|fail "no"):p:=h
theorem zB9{p:Prop}(h:p:=by first|((first|exact trivial|exact SV.Le.rfl _|exact⟨rfl,rfl,rfl⟩|exact fun i hi=>rfl);done)|fail "no"):p:=h
theorem zC9{p:Prop}(h:p:=by first|((first|exact trivial|exact ae.rfl rfl|exact ae.sl rfl|exact⟨rfl,rfl,rfl⟩|exact fun i hi=>rfl|exact fun i hi=>ite_row);done)|fail "no"):p:=h
theorem zD9{p:Prop}(h:p:=by first|((first|exact trivial|exact aj.any|exact aj.d|exact aj.sl14|exact aj.ptrL rfl|exact aj.slL rfl|exact aj.lt0 (SV.Lt.of rfl)|exact aj.same (by assumption) (zzb rfl) (fun i hi=>id13 (Nat.lt_of_lt_of_le hi (zzb rfl)))|exact aj.le aj.d (SV.Le.i (by omega))|exact⟨rfl,rfl,rfl⟩|exact⟨rfl,zzb rfl⟩|exact nk (by assumption)|exact qH (by assumption) (fun l hl=>by rcases l with _|_|_|_|_|_|_|_|_|_|_|_|_|l<;>first|rfl|omega)|exact a7 (cN _ _)|exact ax (cN _ _) rfl|exact rj _ _|exact fun i hi=>gy.refl _|exact aj.le (aj.sl rfl rfl (by omega)) (SV.Le.sl fun i hi=>by simp only[Q19]));done)|fail "no"):p:=h
theorem zE9{p:Prop}(h:p:=by first|((first|exact trivial|exact aj.d|exact aj.ptrM rfl|exact aj.sameM (by assumption)|exact aj.lt0 (SV.Lt.of rfl)|exact aj.sameM (SV.Lt.of rfl));done)|fail "no"):p:=h
theorem zF9{p:Prop}(h:p:=by first|((first|exact trivial|exact ae.rfl rfl|exact ae.sl13|exact ae.sl rfl|exact⟨rfl,rfl,rfl⟩|exact⟨rfl,zzb rfl⟩|exact em (by assumption)|exact c7 (by assumption) (fun l hl=>by rcases l with _|_|_|_|_|_|_|_|_|_|_|_|_|l<;>first|rfl|omega)|exact eY (cN _ _)|exact uy _ _ (by first|rfl|omega)|exact cn (cN _ _) rfl|exact fun i hi=>rfl);done)|fail "no"):p:=h
theorem zG9{p:Prop}(h:p:=by first|((first|exact trivial|exact ae.rfl rfl|exact ae.ptr rfl|exact ae.sl rfl);done)|fail "no"):p:=h
theorem zH9{p:Prop}(h:p:=by first|((first|exact trivial|exact SV.Le.rfl _|exact⟨rfl,rfl,rfl⟩|exact⟨rfl,zzb rfl⟩|exact em (by assumption)|exact c7 (by assumption) (fun l hl=>by rcases l with _|_|_|_|_|_|_|_|_|_|_|_|_|l<;>first|rfl|omega)|exact eY (cN _ _)|exact cn (cN _ _) rfl|exact fun i hi=>rfl);done)|fail "no"):p:=h
theorem zI9{p:Prop}(h:p:=by first|((first|exact trivial|exact SV.Lt.mono (zzb rfl) hlt);done)|fail "no"):p:=h
theorem zJ9{p:Prop}(h:p:=by first|((first|exact trivial|exact ae.rfl rfl|exact ae.sl rfl|exact⟨rfl,rfl,rfl⟩|exact⟨rfl,zzb rfl⟩|exact eY (cN _ _)|exact fun i hi=>rfl);done)|fail "no"):p:=h
theorem zK9{p:Prop}(h:p:=by first|((first|exact trivial|exact aj.d|exact aj.sl14|exact aj.slL rfl|exact⟨rfl,rfl,rfl⟩|exact⟨rfl,zzb rfl⟩|exact ax (cN _ _) rfl|exact fun i hi=>gy.refl _);done)|fail "no"):p:=h
theorem zL9{p:Prop}(h:p:=by first|((first|exact trivial|exact ae.rfl rfl|exact ae.ptr rfl|exact ae.sl rfl|exact⟨rfl,rfl,rfl⟩|exact⟨rfl,zzb rfl⟩|exact zzb rfl|exact(fun j _=>cN _ _ j)|exact fun i hi=>rfl);done)|fail "no"):p:=h
theorem zM9{p:Prop}(h:p:=by first|((first|exact trivial|exact aj.d|exact aj.slX (zzb rfl) rfl|exact⟨rfl,rfl,rfl⟩|exact⟨rfl,zzb rfl⟩|exact ax (cN _ _) rfl|exact fun i hi=>gy.refl _);done)|fail "no"):p:=h
theorem zN9{p:Prop}(h:p:=by first|((first|exact trivial|exact bT (by decide) (fun l hl=>by rcases l with _|_|_|_|l<;>first|exact⟨zzb rfl,rfl⟩|exact⟨zzb rfl,rfl,rfl⟩|omega) (fun q hq=>by rcases q with _|_|_|_|_|_|_|_|_|q<;>first|exact⟨zzb rfl,rfl⟩|omega)|exact cF (by decide) (by decide) (fun l hl=>by rcases l with _|_|_|_|l<;>first|exact⟨zzb rfl,rfl⟩|exact⟨zzb rfl,rfl,rfl⟩|omega) (fun q hq=>by rcases q with _|_|_|_|_|_|_|_|_|q<;>first|exact⟨zzb rfl,rfl⟩|omega)|exact ae.rfl rfl|exact ae.ptr rfl|exact ae.sl rfl|exact⟨rfl,rfl,rfl⟩|exact⟨rfl,zzb rfl⟩|exact dI (by assumption) rfl|exact gz (by assumption)|exact fun i hi=>rfl);done)|fail "no"):p:=h
theorem zO9{p:Prop}(h:p:=by first|((first|exact trivial|exact aj.d|exact iP (by decide) (fun l hl=>by rcases l with _|_|_|_|l<;>first|exact⟨zzb rfl,rfl⟩|exact⟨zzb rfl,rfl,rfl⟩|omega) (fun q hq=>by rcases q with _|_|_|_|_|_|_|_|_|q<;>first|exact⟨zzb rfl,rfl⟩|omega)|exact aj.slX (zzb rfl) rfl|exact aj.ptrL rfl|exact⟨rfl,rfl,rfl⟩|exact⟨rfl,zzb rfl⟩|exact oF (by assumption) rfl|exact fun i hi=>gy.refl _);done)|fail "no"):p:=h
theorem wz9:(∀{p:Prop} [Decidable p],(decide p=true)=p)∧(∀{p:Prop} [Decidable p],decide p=false↔¬p)∧(∀{a b:Bool},((a&&b)=true)=(a=true∧b=true))∧(∀{a b:Bool},((a||b)=true)=(a=true∨b=true))∧(∀(x y:Bool),((x&&y)=false)=(x=false∨y=false))∧(∀(x y:Bool),((x||y)=false)=(x=false∧y=false))∧(∀{b:Bool},((!b)=true)=(b=false))∧(∀{b:Bool},((!b)=false)=(b=true))∧(∀{α:Type} [BEq α] [LawfulBEq α] {a b:α},(a==b)=true↔a=b)∧(∀{α:Type} [BEq α] [LawfulBEq α] {a b:α},(a != b)=true↔a≠b)∧(∀{α:Type} (a b:α),(a≠b)=¬(a=b))∧(∀{α:Type} [BEq α] [LawfulBEq α] {a b:α},(a==b)=false↔a≠b)∧(∀{α:Type} [BEq α] [LawfulBEq α] {a b:α},(a != b)=false↔a=b)∧(∀(b:Bool),(¬(b=true))=(b=false))∧(∀(b:Bool),(¬(b=false))=(b=true)):=⟨by intros;first|(simp;done)|(rename_i x y;cases x<;>cases y<;>simp),by intros;first|(simp;done)|(rename_i x y;cases x<;>cases y<;>simp),by intros;first|(simp;done)|(rename_i x y;cases x<;>cases y<;>simp),by intros;first|(simp;done)|(rename_i x y;cases x<;>cases y<;>simp),by intros;first|(simp;done)|(rename_i x y;cases x<;>cases y<;>simp),by intros;first|(simp;done)|(rename_i x y;cases x<;>cases y<;>simp),by intros;first|(simp;done)|(rename_i x y;cases x<;>cases y<;>simp),by intros;first|(simp;done)|(rename_i x y;cases x<;>cases y<;>simp),by intros;first|(simp;done)|(rename_i x y;cases x<;>cases y<;>simp),by intros;first|(simp;done)|(rename_i x y;cases x<;>cases y<;>simp),by intros;first|(simp;done)|(rename_i x y;cases x<;>cases y<;>simp),by intros;first|(simp;done)|(rename_i x y;cases x<;>cases y<;>simp),by intros;first|(simp;done)|(rename_i x y;cases x<;>cases y<;>simp),by intros;first|(simp;done)|(rename_i x y;cases x<;>cases y<;>simp),by intros;first|(simp;done)|(rename_i x y;cases x<;>cases y<;>simp)⟩
def wpCan:Code→Bool
 | .seq _ _=>true
 | .block _ _=>true
 | .skip=>true
 | .ret=>true
 | .exit _=>true
 | .region _ _ _=>true
 | .cond _ _ _=>true
 | _=>false
def wpA(C:Cx)(c:Code)(S:St)(Q:Exit→St→Prop):Prop :=
 match c with
 | .seq x y=>Wp C x S (thenQ C y Q)
 | .block id c=>Wp C c S (pW id Q)
 | .skip=>Q .normal S
 | .ret=>Q .ret S
 | .exit id=>Q (.exit id) S
 | .region _ ⟨l⟩ false=>ow C l l S (Q .normal)
 | .region _ ⟨l⟩ true=>match S with
  | ⟨nt,nx,fr,hp⟩=>cntK l nx fun m=>cQ C l nx l 0 ⟨nt,m,fr,hp⟩ fun efs Sn=>dU l efs nx ⟨nt,m,fr,hp⟩=true∧Q .normal Sn
 | .cond x c d=>condK C (ev S x) S c d Q
 | _=>False
theorem Wp.any{C:Cx}{c:Code}{S:St}{Q:Exit→St→Prop}(hm:C.P.follows .mixedOrders=true)(hc:wpCan c=true)(h:wpA C c S Q):Wp C c S Q:=by
 cases c with
 | seq x y=>exact .seq h
 | block id c=>exact .block h
 | skip=>exact .skip h
 | ret=>exact .ret h
 | exit id=>exact .exit h
 | region id a b =>
  obtain⟨l⟩:=a
  cases b with
  | false=>exact .region h
  | true=>obtain⟨nt,nx,fr,hp⟩:=S;exact .drawL hm h
 | cond x c d=>exact .cond h
 | _=>exact h.elim
theorem zN{a b:Nat}(h:Nat.ble a b=true:=by exact rfl):a≤b:=zzb h
theorem zV{a b c d}{q:Prop}(h2:q)(h:dU a b c d=true:=by kernel_rfl):dU a b c d=true∧q:=⟨h,h2⟩
theorem zz0{p:Prop}(h:p:=by first|(((conv=>whnf);(repeat' (first|exact zD9|((refine aj.fn ?_);(conv=>whnf))|((refine aj.tup ?_);(conv=>whnf))|((refine aj.iref ?_);(conv=>whnf))|((refine And.intro ?_ ?_)<;>(conv=>whnf)))));done)|fail "no"):p:=h
theorem zz1{p:Prop}(h:p:=by first|((((conv=>whnf);repeat' (first|exact zF9|exact eY (qo _)|((with_reducible refine And.intro ?_ ?_)<;>(conv=>whnf)))));done)|fail "no"):p:=h
theorem zz2{p:Prop}(h:p:=by first|(((conv=>whnf);(repeat' (first|exact zD9|exact a7 (qo _)|((refine And.intro ?_ ?_)<;>(conv=>whnf)))));done)|fail "no"):p:=h
theorem zz3{p:Prop}(h:p:=by first|((((conv=>whnf);repeat' (first|exact zN9|((with_reducible refine And.intro ?_ ?_)<;>(conv=>whnf)))));done)|fail "no"):p:=h
theorem zz4{p:Prop}(h:p:=by first|(((conv=>whnf);(repeat' (first|exact zD9|exact ax (qo _) rfl|((refine And.intro ?_ ?_)<;>(conv=>whnf)))));done)|fail "no"):p:=h
theorem zz5{p:Prop}(h:p:=by first|(((conv=>whnf);(repeat' (first|exact zD9|exact a7 (qo _)|((refine And.intro ?_ ?_)<;>(conv=>whnf))|(intro i hi;refine gy.of ?_;dsimp only;first|(rw[if_neg (by assumption)];done)|(rw[if_pos (by assumption)];rfl)))));done)|fail "no"):p:=h
theorem zz6{p:Prop}(h:p:=by first|((exact pR zN (by omega));done)|fail "no"):p:=h
theorem zz7{p:Prop}(h:p:=by first|(((conv=>whnf);(repeat' (first|exact zD9|((refine aj.ptr rfl rfl ?_);(conv=>whnf))|((refine aj.fn ?_);(conv=>whnf))|((refine aj.tup ?_);(conv=>whnf))|((refine aj.iref ?_);(conv=>whnf))|((refine And.intro ?_ ?_)<;>(conv=>whnf)))));done)|fail "no"):p:=h
theorem zz8{p:Prop}(h:p:=by first|((((conv=>whnf);repeat' (first|exact zI9|((with_reducible refine And.intro ?_ ?_)<;>(conv=>whnf)))));done)|fail "no"):p:=h
theorem zz9{p:Prop}(h:p:=by first|((((conv=>whnf);repeat' (first|exact trivial|((with_reducible refine And.intro ?_ ?_)<;>(conv=>whnf)))));done)|fail "no"):p:=h
theorem ux{p:Prop}(h:p:=by first|((((conv=>whnf);repeat' (first|exact zI9|exact SV.Lt.mono zN (aZ lt2 (fun l hl=>by rcases l with _|_|_|_|_|l<;>first|exact zN|omega) rfl)|((with_reducible refine And.intro ?_ ?_)<;>(conv=>whnf)))));done)|fail "no"):p:=h
theorem uw{p:Prop}(h:p:=by first|((exact tZ (fun l hl=>by rcases l with _|_|_|_|_|l<;>first|exact⟨by decide,rfl⟩|rfl|omega) (lt_caps hlt5));done)|fail "no"):p:=h
theorem uv{p:Prop}(h:p:=by first|((((conv=>whnf);repeat' (first|exact zJ9|exact tG q5 (fun l hl=>bw hl) (fun l hl=>by rcases l with _|_|_|_|_|_|_|_|_|_|_|_|_|l<;>first|exact⟨by decide,rfl⟩|rfl|omega) zN|exact eY (qo _)|((with_reducible refine And.intro ?_ ?_)<;>(conv=>whnf)))));done)|fail "no"):p:=h
theorem ut{p:Prop}(h:p:=by first|((((conv=>whnf);repeat' (first|exact trivial|exact renL_z lt2 (fun l hl=>by rcases l with _|_|_|_|_|l<;>first|exact .inl zN|exact .inr rfl|omega)|((with_reducible refine And.intro ?_ ?_)<;>(conv=>whnf)))));done)|fail "no"):p:=h
theorem ur{p:Prop}(h:p:=by first|((exact⟨ae.ptr rfl,trivial⟩);done)|fail "no"):p:=h
theorem uq{p:Prop}(h:p:=by first|((((conv=>whnf);repeat' (first|exact zL9|exact g1_arg (by decide) hn hne (fun l hl=>by rcases l with _|_|_|_|l<;>first|exact⟨zzb rfl,rfl,rfl⟩|exact⟨zzb rfl,rfl⟩|omega) (fun k hk hne'=>by rcases k with _|_|_|_|_|_|_|_|_|k<;>first|exact⟨zzb rfl,rfl⟩|exact absurd rfl hne'|omega)|exact eY (qo _)|((with_reducible refine And.intro ?_ ?_)<;>(conv=>whnf)))));done)|fail "no"):p:=h
theorem zz16{p:Prop}(h:p:=by first|(((conv=>whnf);(repeat' (first|exact zD9)));done)|fail "no"):p:=h
theorem zz17{p:Prop}(h:p:=by first|((((conv=>whnf);repeat' (first|exact zF9|exact cn (qo _) rfl|((with_reducible refine And.intro ?_ ?_)<;>(conv=>whnf)))));done)|fail "no"):p:=h
theorem zz18{p:Prop}(h:p:=by first|((((conv=>whnf);repeat' (first|exact zG9|((refine ae.iref ?_);(conv=>whnf))|((with_reducible refine And.intro ?_ ?_)<;>(conv=>whnf)))));done)|fail "no"):p:=h
theorem zz19{p:Prop}(h:p:=by first|((((conv=>whnf);repeat' (first|exact zG9|((refine ae.fn ?_);(conv=>whnf))|((refine ae.iref ?_);(conv=>whnf))|((with_reducible refine And.intro ?_ ?_)<;>(conv=>whnf)))));done)|fail "no"):p:=h
theorem zz20{p:Prop}(h:p:=by first|(((conv=>whnf);(repeat' (first|exact aj.d)));done)|fail "no"):p:=h
theorem zz21{p:Prop}(h:p:=by first|(((conv=>whnf);(repeat' (first|exact zD9|((refine aj.tup ?_);(conv=>whnf))|((refine And.intro ?_ ?_)<;>(conv=>whnf)))));done)|fail "no"):p:=h
theorem zz22{p:Prop}(h:p:=by first|((((conv=>whnf);repeat' (first|exact zG9|((with_reducible refine And.intro ?_ ?_)<;>(conv=>whnf)))));done)|fail "no"):p:=h
theorem zz23{p:Prop}(h:p:=by first|((((conv=>whnf);(refine And.intro (qI rfl rfl q5 (fun l hl=>by rcases l with _|_|_|_|_|_|_|_|_|_|_|_|_|l<;>first|rfl|omega) rfl) ?_);(conv=>whnf);(refine And.intro rfl ?_);(conv=>whnf);(refine And.intro rfl ?_);(conv=>whnf);(refine And.intro (de (n:=9) (f:=xF who x) rfl rfl (cN who x) rfl rfl) ?_);(conv=>whnf);(refine And.intro (de (n:=(o 0).n) (f:=(o 0).f) rfl rfl (qo 0) rfl rfl) ?_);(conv=>whnf);(refine And.intro (de (n:=(o 1).n) (f:=(o 1).f) rfl rfl (qo 1) rfl rfl) ?_);(conv=>whnf);(refine And.intro (de (n:=(o 2).n) (f:=(o 2).f) rfl rfl (qo 2) rfl rfl) ?_);(conv=>whnf);(refine And.intro (de (n:=(o 3).n) (f:=(o 3).f) rfl rfl (qo 3) rfl rfl) ?_);(conv=>whnf);(refine And.intro (de (n:=(o 4).n) (f:=(o 4).f) rfl rfl (qo 4) rfl rfl) ?_);(conv=>whnf);(refine And.intro (de (n:=(o 5).n) (f:=(o 5).f) rfl rfl (qo 5) rfl rfl) ?_);(conv=>whnf);(refine And.intro (de (n:=(o 6).n) (f:=(o 6).f) rfl rfl (qo 6) rfl rfl) ?_);(conv=>whnf);(refine And.intro (de (n:=(o 7).n) (f:=(o 7).f) rfl rfl (qo 7) rfl rfl) ?_);(conv=>whnf);exact trivial));done)|fail "no"):p:=h
theorem zz24{p:Prop}(h:p:=by first|((((conv=>whnf);repeat' (first|exact zC9|((with_reducible refine And.intro ?_ ?_)<;>(conv=>whnf)))));done)|fail "no"):p:=h
end
abbrev zP:=eV Tryz.prog
theorem zT{P:Program}{t:Nat}{i:TI}(h:eV P t i:=by exact⟨by kernel_rfl,by kernel_rfl,fun h=>by cases h⟩):eV P t i:=h
def ti1:TI:=⟨.func,1,8,[.nilFunc],false⟩
theorem ti1_ok:zP 1 ti1:=zT
def ti2:TI:=⟨.int .i64,1,8,[.int .i64 0],false⟩
theorem ti2_ok:zP 2 ti2:=zT
def ti3:TI:=⟨.int .i64,1,8,[.int .i64 0],false⟩
theorem ti3_ok:zP 3 ti3:=zT
def ti4:TI:=⟨.bool,1,1,[.bool false],false⟩
theorem ti4_ok:zP 4 ti4:=zT
def ti5:TI:=⟨.int .u8,1,1,[.int .u8 0],false⟩
theorem ti5_ok:zP 5 ti5:=zT
def ti6:TI:=⟨.int .u8,1,1,[.int .u8 0],false⟩
theorem ti6_ok:zP 6 ti6:=zT
def ti7:TI:=⟨.struct [(0,2),(1,3),(2,4),(3,6)],4,24,[.int .i64 0,.int .i64 0,.bool false,.int .u8 0],false⟩
theorem ti7_ok:zP 7 ti7:=zT
def ti8:TI:=⟨.struct [(0,2),(1,3),(2,4),(3,6)],4,24,[.int .i64 0,.int .i64 0,.bool false,.int .u8 0],false⟩
theorem ti8_ok:zP 8 ti8:=zT
def ti9:TI:=⟨.str,1,16,[.string ⟨#[]⟩],false⟩
theorem ti9_ok:zP 9 ti9:=zT
def ti10:TI:=⟨.str,1,16,[.string ⟨#[]⟩],false⟩
theorem ti10_ok:zP 10 ti10:=zT
def ti11:TI:=⟨.str,1,16,[.string ⟨#[]⟩],false⟩
theorem ti11_ok:zP 11 ti11:=zT
def ti12:TI:=⟨.int .u64,1,8,[.int .u64 0],false⟩
theorem ti12_ok:zP 12 ti12:=zT
def ti13:TI:=⟨.struct [(0,9),(1,12)],2,24,[.string ⟨#[]⟩,.int .u64 0],false⟩
theorem ti13_ok:zP 13 ti13:=zT
def ti14:TI:=⟨.struct [(0,9),(1,12)],2,24,[.string ⟨#[]⟩,.int .u64 0],false⟩
theorem ti14_ok:zP 14 ti14:=zT
def ti15:TI:=⟨.ptr 260,1,8,[.pointer none],false⟩
theorem ti15_ok:zP 15 ti15:=zT
def ti16:TI:=⟨.ptr 263,1,8,[.pointer none],false⟩
theorem ti16_ok:zP 16 ti16:=zT
def ti17:TI:=⟨.ptr 271,1,8,[.pointer none],false⟩
theorem ti17_ok:zP 17 ti17:=zT
def ti18:TI:=⟨.struct [(0,17)],1,8,[.pointer none],false⟩
theorem ti18_ok:zP 18 ti18:=zT
def ti19:TI:=⟨.struct [(0,17)],1,8,[.pointer none],false⟩
theorem ti19_ok:zP 19 ti19:=zT
def ti20:TI:=⟨.other,1,16,[.nilIface],false⟩
theorem ti20_ok:zP 20 ti20:=zT
def ti21:TI:=⟨.int .i32,1,4,[.int .i32 0],false⟩
theorem ti21_ok:zP 21 ti21:=zT
def ti22:TI:=⟨.slice 82,1,24,[.slice none 0 0],false⟩
theorem ti22_ok:zP 22 ti22:=zT
def ti23:TI:=⟨.slice 32,1,24,[.slice none 0 0],false⟩
theorem ti23_ok:zP 23 ti23:=zT
def ti24:TI:=⟨.slice 59,1,24,[.slice none 0 0],false⟩
theorem ti24_ok:zP 24 ti24:=zT
def ti25:TI:=⟨.struct [(0,22),(1,3),(2,23),(3,24),(4,4)],5,88,[.slice none 0 0,.int .i64 0,.slice none 0 0,.slice none 0 0,.bool false],false⟩
theorem ti25_ok:zP 25 ti25:=zT
def ti26:TI:=⟨.struct [(0,22),(1,3),(2,23),(3,24),(4,4)],5,88,[.slice none 0 0,.int .i64 0,.slice none 0 0,.slice none 0 0,.bool false],false⟩
theorem ti26_ok:zP 26 ti26:=zT
def ti27:TI:=⟨.func,1,8,[.nilFunc],false⟩
theorem ti27_ok:zP 27 ti27:=zT
def ti28:TI:=⟨.slice 61,1,24,[.slice none 0 0],false⟩
theorem ti28_ok:zP 28 ti28:=zT
def ti29:TI:=⟨.struct [(0,22),(1,3),(2,23),(3,28),(4,4)],5,88,[.slice none 0 0,.int .i64 0,.slice none 0 0,.slice none 0 0,.bool false],false⟩
theorem ti29_ok:zP 29 ti29:=zT
def ti30:TI:=⟨.struct [(0,22),(1,3),(2,23),(3,28),(4,4)],5,88,[.slice none 0 0,.int .i64 0,.slice none 0 0,.slice none 0 0,.bool false],false⟩
theorem ti30_ok:zP 30 ti30:=zT
def ti31:TI:=⟨.func,1,8,[.nilFunc],false⟩
theorem ti31_ok:zP 31 ti31:=zT
def ti32:TI:=⟨.slice 46,1,24,[.slice none 0 0],false⟩
theorem ti32_ok:zP 32 ti32:=zT
def ti33:TI:=⟨.slice 50,1,24,[.slice none 0 0],false⟩
theorem ti33_ok:zP 33 ti33:=zT
def ti34:TI:=⟨.slice 89,1,24,[.slice none 0 0],false⟩
theorem ti34_ok:zP 34 ti34:=zT
def ti35:TI:=⟨.struct [(0,33),(1,34),(2,2),(3,3),(4,2),(5,3)],6,80,[.slice none 0 0,.slice none 0 0,.int .i64 0,.int .i64 0,.int .i64 0,.int .i64 0],false⟩
theorem ti35_ok:zP 35 ti35:=zT
def ti36:TI:=⟨.struct [(0,33),(1,34),(2,2),(3,3),(4,2),(5,3)],6,80,[.slice none 0 0,.slice none 0 0,.int .i64 0,.int .i64 0,.int .i64 0,.int .i64 0],false⟩
theorem ti36_ok:zP 36 ti36:=zT
def ti37:TI:=⟨.int .i64,1,8,[.int .i64 0],false⟩
theorem ti37_ok:zP 37 ti37:=zT
def ti39:TI:=⟨.func,1,8,[.nilFunc],false⟩
theorem ti39_ok:zP 39 ti39:=zT
def ti40:TI:=⟨.ptr 84,1,8,[.pointer none],false⟩
theorem ti40_ok:zP 40 ti40:=zT
def ti42:TI:=⟨.func,1,8,[.nilFunc],false⟩
theorem ti42_ok:zP 42 ti42:=zT
def ti43:TI:=⟨.func,1,8,[.nilFunc],false⟩
theorem ti43_ok:zP 43 ti43:=zT
def ti44:TI:=⟨.slice 5,1,24,[.slice none 0 0],false⟩
theorem ti44_ok:zP 44 ti44:=zT
def ti45:TI:=⟨.struct [(0,5),(1,3),(2,44),(3,2)],4,48,[.int .u8 0,.int .i64 0,.slice none 0 0,.int .i64 0],false⟩
theorem ti45_ok:zP 45 ti45:=zT
def ti46:TI:=⟨.struct [(0,5),(1,3),(2,44),(3,2)],4,48,[.int .u8 0,.int .i64 0,.slice none 0 0,.int .i64 0],false⟩
theorem ti46_ok:zP 46 ti46:=zT
def ti47:TI:=⟨.struct [(0,37),(1,4),(2,2),(3,2),(4,2),(5,2)],6,48,[.int .i64 0,.bool false,.int .i64 0,.int .i64 0,.int .i64 0,.int .i64 0],true⟩
theorem ti47_ok:zP 47 ti47:=⟨by kernel_rfl,by kernel_rfl,fun _=>⟨by kernel_rfl,by kernel_rfl,by kernel_rfl⟩⟩
def ti48:TI:=⟨.struct [(0,37),(1,4),(2,2),(3,2),(4,2),(5,2)],6,48,[.int .i64 0,.bool false,.int .i64 0,.int .i64 0,.int .i64 0,.int .i64 0],true⟩
theorem ti48_ok:zP 48 ti48:=⟨by kernel_rfl,by kernel_rfl,fun _=>⟨by kernel_rfl,by kernel_rfl,by kernel_rfl⟩⟩
def ti49:TI:=⟨.struct [(0,3),(1,46),(5,3),(6,3),(7,48)],13,120,[.int .i64 0,.int .u8 0,.int .i64 0,.slice none 0 0,.int .i64 0,.int .i64 0,.int .i64 0,.int .i64 0,.bool false,.int .i64 0,.int .i64 0,.int .i64 0,.int .i64 0],false⟩
theorem ti49_ok:zP 49 ti49:=zT
def ti50:TI:=⟨.struct [(0,3),(1,46),(5,3),(6,3),(7,48)],13,120,[.int .i64 0,.int .u8 0,.int .i64 0,.slice none 0 0,.int .i64 0,.int .i64 0,.int .i64 0,.int .i64 0,.bool false,.int .i64 0,.int .i64 0,.int .i64 0,.int .i64 0],false⟩
theorem ti50_ok:zP 50 ti50:=zT
def ti51:TI:=⟨.func,1,8,[.nilFunc],false⟩
theorem ti51_ok:zP 51 ti51:=zT
def ti52:TI:=⟨.func,1,8,[.nilFunc],false⟩
theorem ti52_ok:zP 52 ti52:=zT
def ti53:TI:=⟨.func,1,8,[.nilFunc],false⟩
theorem ti53_ok:zP 53 ti53:=zT
def ti54:TI:=⟨.func,1,8,[.nilFunc],false⟩
theorem ti54_ok:zP 54 ti54:=zT
def ti55:TI:=⟨.int .u64,1,8,[.int .u64 0],false⟩
theorem ti55_ok:zP 55 ti55:=zT
def ti56:TI:=⟨.func,1,8,[.nilFunc],false⟩
theorem ti56_ok:zP 56 ti56:=zT
def ti57:TI:=⟨.func,1,8,[.nilFunc],false⟩
theorem ti57_ok:zP 57 ti57:=zT
def ti58:TI:=⟨.struct [(0,3),(1,2)],2,16,[.int .i64 0,.int .i64 0],true⟩
theorem ti58_ok:zP 58 ti58:=⟨by kernel_rfl,by kernel_rfl,fun _=>⟨by kernel_rfl,by kernel_rfl,by kernel_rfl⟩⟩
def ti59:TI:=⟨.struct [(0,3),(1,2)],2,16,[.int .i64 0,.int .i64 0],true⟩
theorem ti59_ok:zP 59 ti59:=⟨by kernel_rfl,by kernel_rfl,fun _=>⟨by kernel_rfl,by kernel_rfl,by kernel_rfl⟩⟩
def ti60:TI:=⟨.int .u64,1,8,[.int .u64 0],false⟩
theorem ti60_ok:zP 60 ti60:=zT
def ti61:TI:=⟨.struct [(0,3),(1,2)],2,16,[.int .i64 0,.int .i64 0],true⟩
theorem ti61_ok:zP 61 ti61:=⟨by kernel_rfl,by kernel_rfl,fun _=>⟨by kernel_rfl,by kernel_rfl,by kernel_rfl⟩⟩
def ti62:TI:=⟨.func,1,8,[.nilFunc],false⟩
theorem ti62_ok:zP 62 ti62:=zT
def ti63:TI:=⟨.ptr 116,1,8,[.pointer none],false⟩
theorem ti63_ok:zP 63 ti63:=zT
def ti65:TI:=⟨.func,1,8,[.nilFunc],false⟩
theorem ti65_ok:zP 65 ti65:=zT
def ti66:TI:=⟨.ptr 69,1,8,[.pointer none],false⟩
theorem ti66_ok:zP 66 ti66:=zT
def ti67:TI:=⟨.slice 71,1,24,[.slice none 0 0],false⟩
theorem ti67_ok:zP 67 ti67:=zT
def ti68:TI:=⟨.struct [(0,63),(1,67),(2,36)],8,112,[.pointer none,.slice none 0 0,.slice none 0 0,.slice none 0 0,.int .i64 0,.int .i64 0,.int .i64 0,.int .i64 0],false⟩
theorem ti68_ok:zP 68 ti68:=zT
def ti69:TI:=⟨.struct [(0,63),(1,67),(2,36)],8,112,[.pointer none,.slice none 0 0,.slice none 0 0,.slice none 0 0,.int .i64 0,.int .i64 0,.int .i64 0,.int .i64 0],false⟩
theorem ti69_ok:zP 69 ti69:=zT
def ti70:TI:=⟨.struct [(0,32),(1,46),(5,3)],6,80,[.slice none 0 0,.int .u8 0,.int .i64 0,.slice none 0 0,.int .i64 0,.int .i64 0],false⟩
theorem ti70_ok:zP 70 ti70:=zT
def ti71:TI:=⟨.struct [(0,32),(1,46),(5,3)],6,80,[.slice none 0 0,.int .u8 0,.int .i64 0,.slice none 0 0,.int .i64 0,.int .i64 0],false⟩
theorem ti71_ok:zP 71 ti71:=zT
def ti73:TI:=⟨.func,1,8,[.nilFunc],false⟩
theorem ti73_ok:zP 73 ti73:=zT
def ti74:TI:=⟨.func,1,8,[.nilFunc],false⟩
theorem ti74_ok:zP 74 ti74:=zT
def ti75:TI:=⟨.func,1,8,[.nilFunc],false⟩
theorem ti75_ok:zP 75 ti75:=zT
def ti76:TI:=⟨.func,1,8,[.nilFunc],false⟩
theorem ti76_ok:zP 76 ti76:=zT
def ti77:TI:=⟨.func,1,8,[.nilFunc],false⟩
theorem ti77_ok:zP 77 ti77:=zT
def ti78:TI:=⟨.func,1,8,[.nilFunc],false⟩
theorem ti78_ok:zP 78 ti78:=zT
def ti79:TI:=⟨.struct [(0,2),(1,2)],2,16,[.int .i64 0,.int .i64 0],true⟩
theorem ti79_ok:zP 79 ti79:=⟨by kernel_rfl,by kernel_rfl,fun _=>⟨by kernel_rfl,by kernel_rfl,by kernel_rfl⟩⟩
def ti80:TI:=⟨.struct [(0,2),(1,2)],2,16,[.int .i64 0,.int .i64 0],true⟩
theorem ti80_ok:zP 80 ti80:=⟨by kernel_rfl,by kernel_rfl,fun _=>⟨by kernel_rfl,by kernel_rfl,by kernel_rfl⟩⟩
def ti81:TI:=⟨.struct [(0,5),(1,80),(3,3)],4,32,[.int .u8 0,.int .i64 0,.int .i64 0,.int .i64 0],true⟩
theorem ti81_ok:zP 81 ti81:=⟨by kernel_rfl,by kernel_rfl,fun _=>⟨by kernel_rfl,by kernel_rfl,by kernel_rfl⟩⟩
def ti82:TI:=⟨.struct [(0,5),(1,80),(3,3)],4,32,[.int .u8 0,.int .i64 0,.int .i64 0,.int .i64 0],true⟩
theorem ti82_ok:zP 82 ti82:=⟨by kernel_rfl,by kernel_rfl,fun _=>⟨by kernel_rfl,by kernel_rfl,by kernel_rfl⟩⟩
def ti83:TI:=⟨.struct [(0,22),(1,3),(2,34)],3,56,[.slice none 0 0,.int .i64 0,.slice none 0 0],false⟩
theorem ti83_ok:zP 83 ti83:=zT
def ti84:TI:=⟨.struct [(0,22),(1,3),(2,34)],3,56,[.slice none 0 0,.int .i64 0,.slice none 0 0],false⟩
theorem ti84_ok:zP 84 ti84:=zT
def ti85:TI:=⟨.func,1,8,[.nilFunc],false⟩
theorem ti85_ok:zP 85 ti85:=zT
def ti86:TI:=⟨.func,1,8,[.nilFunc],false⟩
theorem ti86_ok:zP 86 ti86:=zT
def ti87:TI:=⟨.slice 2,1,24,[.slice none 0 0],false⟩
theorem ti87_ok:zP 87 ti87:=zT
def ti88:TI:=⟨.struct [(0,3),(1,44),(2,2),(3,87)],4,64,[.int .i64 0,.slice none 0 0,.int .i64 0,.slice none 0 0],false⟩
theorem ti88_ok:zP 88 ti88:=zT
def ti89:TI:=⟨.struct [(0,3),(1,44),(2,2),(3,87)],4,64,[.int .i64 0,.slice none 0 0,.int .i64 0,.slice none 0 0],false⟩
theorem ti89_ok:zP 89 ti89:=zT
def ti90:TI:=⟨.func,1,8,[.nilFunc],false⟩
theorem ti90_ok:zP 90 ti90:=zT
def ti91:TI:=⟨.func,1,8,[.nilFunc],false⟩
theorem ti91_ok:zP 91 ti91:=zT
def ti93:TI:=⟨.func,1,8,[.nilFunc],false⟩
theorem ti93_ok:zP 93 ti93:=zT
def ti94:TI:=⟨.func,1,8,[.nilFunc],false⟩
theorem ti94_ok:zP 94 ti94:=zT
def ti96:TI:=⟨.func,1,8,[.nilFunc],false⟩
theorem ti96_ok:zP 96 ti96:=zT
def ti97:TI:=⟨.func,1,8,[.nilFunc],false⟩
theorem ti97_ok:zP 97 ti97:=zT
def ti98:TI:=⟨.func,1,8,[.nilFunc],false⟩
theorem ti98_ok:zP 98 ti98:=zT
def ti99:TI:=⟨.func,1,8,[.nilFunc],false⟩
theorem ti99_ok:zP 99 ti99:=zT
def ti100:TI:=⟨.func,1,8,[.nilFunc],false⟩
theorem xG:zP 100 ti100:=zT
def ti101:TI:=⟨.func,1,8,[.nilFunc],false⟩
theorem xE:zP 101 ti101:=zT
def ti102:TI:=⟨.func,1,8,[.nilFunc],false⟩
theorem xD:zP 102 ti102:=zT
def ti103:TI:=⟨.slice 60,1,24,[.slice none 0 0],false⟩
theorem xC:zP 103 ti103:=zT
def ti104:TI:=⟨.func,1,8,[.nilFunc],false⟩
theorem xA:zP 104 ti104:=zT
def ti105:TI:=⟨.func,1,8,[.nilFunc],false⟩
theorem xy:zP 105 ti105:=zT
def ti106:TI:=⟨.func,1,8,[.nilFunc],false⟩
theorem xx:zP 106 ti106:=zT
def ti107:TI:=⟨.func,1,8,[.nilFunc],false⟩
theorem xw:zP 107 ti107:=zT
def ti108:TI:=⟨.ptr 123,1,8,[.pointer none],false⟩
theorem xv:zP 108 ti108:=zT
def ti109:TI:=⟨.func,1,8,[.nilFunc],false⟩
theorem xu:zP 109 ti109:=zT
def ti110:TI:=⟨.func,1,8,[.nilFunc],false⟩
theorem xt:zP 110 ti110:=zT
def ti111:TI:=⟨.func,1,8,[.nilFunc],false⟩
theorem xr:zP 111 ti111:=zT
def ti112:TI:=⟨.func,1,8,[.nilFunc],false⟩
theorem xq:zP 112 ti112:=zT
def ti113:TI:=⟨.array 64 112,64,512,(.replicate 64 (.nilFunc)),false⟩
theorem xp:zP 113 ti113:=zT
def ti114:TI:=⟨.array 64 112,64,512,(.replicate 64 (.nilFunc)),false⟩
theorem xo:zP 114 ti114:=zT
def ti115:TI:=⟨.struct [(0,22),(1,60),(2,108),(3,114)],67,552,[.slice none 0 0,.int .u64 0,.pointer none,.nilFunc,.nilFunc,.nilFunc,.nilFunc,.nilFunc,.nilFunc,.nilFunc,.nilFunc,.nilFunc,.nilFunc,.nilFunc,.nilFunc,.nilFunc,.nilFunc,.nilFunc,.nilFunc,.nilFunc,.nilFunc,.nilFunc,.nilFunc,.nilFunc,.nilFunc,.nilFunc,.nilFunc,.nilFunc,.nilFunc,.nilFunc,.nilFunc,.nilFunc,.nilFunc,.nilFunc,.nilFunc,.nilFunc,.nilFunc,.nilFunc,.nilFunc,.nilFunc,.nilFunc,.nilFunc,.nilFunc,.nilFunc,.nilFunc,.nilFunc,.nilFunc,.nilFunc,.nilFunc,.nilFunc,.nilFunc,.nilFunc,.nilFunc,.nilFunc,.nilFunc,.nilFunc,.nilFunc,.nilFunc,.nilFunc,.nilFunc,.nilFunc,.nilFunc,.nilFunc,.nilFunc,.nilFunc,.nilFunc,.nilFunc],false⟩
theorem xn:zP 115 ti115:=zT
def ti116:TI:=⟨.struct [(0,22),(1,60),(2,108),(3,114)],67,552,[.slice none 0 0,.int .u64 0,.pointer none,.nilFunc,.nilFunc,.nilFunc,.nilFunc,.nilFunc,.nilFunc,.nilFunc,.nilFunc,.nilFunc,.nilFunc,.nilFunc,.nilFunc,.nilFunc,.nilFunc,.nilFunc,.nilFunc,.nilFunc,.nilFunc,.nilFunc,.nilFunc,.nilFunc,.nilFunc,.nilFunc,.nilFunc,.nilFunc,.nilFunc,.nilFunc,.nilFunc,.nilFunc,.nilFunc,.nilFunc,.nilFunc,.nilFunc,.nilFunc,.nilFunc,.nilFunc,.nilFunc,.nilFunc,.nilFunc,.nilFunc,.nilFunc,.nilFunc,.nilFunc,.nilFunc,.nilFunc,.nilFunc,.nilFunc,.nilFunc,.nilFunc,.nilFunc,.nilFunc,.nilFunc,.nilFunc,.nilFunc,.nilFunc,.nilFunc,.nilFunc,.nilFunc,.nilFunc,.nilFunc,.nilFunc,.nilFunc,.nilFunc,.nilFunc],false⟩
theorem xm:zP 116 ti116:=zT
def ti117:TI:=⟨.ptr 164,1,8,[.pointer none],false⟩
theorem xk:zP 117 ti117:=zT
def ti118:TI:=⟨.slice 34,1,24,[.slice none 0 0],false⟩
theorem xj:zP 118 ti118:=zT
def ti119:TI:=⟨.struct [(0,117),(1,118)],2,32,[.pointer none,.slice none 0 0],false⟩
theorem xi:zP 119 ti119:=zT
def ti120:TI:=⟨.struct [(0,117),(1,118)],2,32,[.pointer none,.slice none 0 0],false⟩
theorem xh:zP 120 ti120:=zT
def ti121:TI:=⟨.ptr 120,1,8,[.pointer none],false⟩
theorem xg:zP 121 ti121:=zT
def ti122:TI:=⟨.struct [(0,121),(1,110)],2,16,[.pointer none,.nilFunc],false⟩
theorem xf:zP 122 ti122:=zT
def ti123:TI:=⟨.struct [(0,121),(1,110)],2,16,[.pointer none,.nilFunc],false⟩
theorem xd:zP 123 ti123:=zT
def ti124:TI:=⟨.ptr 71,1,8,[.pointer none],false⟩
theorem xb:zP 124 ti124:=zT
def ti125:TI:=⟨.func,1,8,[.nilFunc],false⟩
theorem xa:zP 125 ti125:=zT
def ti126:TI:=⟨.struct [(0,4),(1,48)],7,56,[.bool false,.int .i64 0,.bool false,.int .i64 0,.int .i64 0,.int .i64 0,.int .i64 0],true⟩
theorem w9:zP 126 ti126:=⟨by kernel_rfl,by kernel_rfl,fun _=>⟨by kernel_rfl,by kernel_rfl,by kernel_rfl⟩⟩
def ti127:TI:=⟨.struct [(0,4),(1,48)],7,56,[.bool false,.int .i64 0,.bool false,.int .i64 0,.int .i64 0,.int .i64 0,.int .i64 0],true⟩
theorem w7:zP 127 ti127:=⟨by kernel_rfl,by kernel_rfl,fun _=>⟨by kernel_rfl,by kernel_rfl,by kernel_rfl⟩⟩
def ti129:TI:=⟨.func,1,8,[.nilFunc],false⟩
theorem w6:zP 129 ti129:=zT
def ti130:TI:=⟨.func,1,8,[.nilFunc],false⟩
theorem w5:zP 130 ti130:=zT
def ti131:TI:=⟨.func,1,8,[.nilFunc],false⟩
theorem w4:zP 131 ti131:=zT
def ti132:TI:=⟨.func,1,8,[.nilFunc],false⟩
theorem wZ:zP 132 ti132:=zT
def ti134:TI:=⟨.func,1,8,[.nilFunc],false⟩
theorem wY:zP 134 ti134:=zT
def ti135:TI:=⟨.func,1,8,[.nilFunc],false⟩
theorem wX:zP 135 ti135:=zT
def ti136:TI:=⟨.func,1,8,[.nilFunc],false⟩
theorem wW:zP 136 ti136:=zT
def ti138:TI:=⟨.func,1,8,[.nilFunc],false⟩
theorem wV:zP 138 ti138:=zT
def ti139:TI:=⟨.func,1,8,[.nilFunc],false⟩
theorem wU:zP 139 ti139:=zT
def ti140:TI:=⟨.func,1,8,[.nilFunc],false⟩
theorem wT:zP 140 ti140:=zT
def ti141:TI:=⟨.struct [(0,4),(1,2),(2,2),(3,2)],4,32,[.bool false,.int .i64 0,.int .i64 0,.int .i64 0],true⟩
theorem wS:zP 141 ti141:=⟨by kernel_rfl,by kernel_rfl,fun _=>⟨by kernel_rfl,by kernel_rfl,by kernel_rfl⟩⟩
def ti142:TI:=⟨.struct [(0,4),(1,2),(2,2),(3,2)],4,32,[.bool false,.int .i64 0,.int .i64 0,.int .i64 0],true⟩
theorem wR:zP 142 ti142:=⟨by kernel_rfl,by kernel_rfl,fun _=>⟨by kernel_rfl,by kernel_rfl,by kernel_rfl⟩⟩
def ti144:TI:=⟨.func,1,8,[.nilFunc],false⟩
theorem wQ:zP 144 ti144:=zT
def ti145:TI:=⟨.struct [(0,3),(1,87)],2,32,[.int .i64 0,.slice none 0 0],false⟩
theorem wP:zP 145 ti145:=zT
def ti146:TI:=⟨.struct [(0,3),(1,87)],2,32,[.int .i64 0,.slice none 0 0],false⟩
theorem wO:zP 146 ti146:=zT
def ti148:TI:=⟨.func,1,8,[.nilFunc],false⟩
theorem wN:zP 148 ti148:=zT
def ti149:TI:=⟨.func,1,8,[.nilFunc],false⟩
theorem wM:zP 149 ti149:=zT
def ti150:TI:=⟨.func,1,8,[.nilFunc],false⟩
theorem wL:zP 150 ti150:=zT
def ti152:TI:=⟨.func,1,8,[.nilFunc],false⟩
theorem wK:zP 152 ti152:=zT
def ti153:TI:=⟨.func,1,8,[.nilFunc],false⟩
theorem wJ:zP 153 ti153:=zT
def ti154:TI:=⟨.func,1,8,[.nilFunc],false⟩
theorem wI:zP 154 ti154:=zT
def ti155:TI:=⟨.func,1,8,[.nilFunc],false⟩
theorem wH:zP 155 ti155:=zT
def ti156:TI:=⟨.func,1,8,[.nilFunc],false⟩
theorem wG:zP 156 ti156:=zT
def ti157:TI:=⟨.func,1,8,[.nilFunc],false⟩
theorem wF:zP 157 ti157:=zT
def ti159:TI:=⟨.func,1,8,[.nilFunc],false⟩
theorem wE:zP 159 ti159:=zT
def ti161:TI:=⟨.func,1,8,[.nilFunc],false⟩
theorem wD:zP 161 ti161:=zT
def ti162:TI:=⟨.slice 216,1,24,[.slice none 0 0],false⟩
theorem wC:zP 162 ti162:=zT
def ti163:TI:=⟨.struct [(0,103),(1,2),(2,3),(3,162)],4,64,[.slice none 0 0,.int .i64 0,.int .i64 0,.slice none 0 0],false⟩
theorem wB:zP 163 ti163:=zT
def ti164:TI:=⟨.struct [(0,103),(1,2),(2,3),(3,162)],4,64,[.slice none 0 0,.int .i64 0,.int .i64 0,.slice none 0 0],false⟩
theorem wA:zP 164 ti164:=zT
def ti165:TI:=⟨.ptr 168,1,8,[.pointer none],false⟩
theorem wz:zP 165 ti165:=zT
def ti166:TI:=⟨.func,1,8,[.nilFunc],false⟩
theorem wy:zP 166 ti166:=zT
def ti167:TI:=⟨.struct [(0,46),(4,63),(5,3),(6,60),(7,4),(8,2)],9,88,[.int .u8 0,.int .i64 0,.slice none 0 0,.int .i64 0,.pointer none,.int .i64 0,.int .u64 0,.bool false,.int .i64 0],false⟩
theorem wx:zP 167 ti167:=zT
def ti168:TI:=⟨.struct [(0,46),(4,63),(5,3),(6,60),(7,4),(8,2)],9,88,[.int .u8 0,.int .i64 0,.slice none 0 0,.int .i64 0,.pointer none,.int .i64 0,.int .u64 0,.bool false,.int .i64 0],false⟩
theorem ww:zP 168 ti168:=zT
def ti169:TI:=⟨.func,1,8,[.nilFunc],false⟩
theorem wv:zP 169 ti169:=zT
def ti170:TI:=⟨.func,1,8,[.nilFunc],false⟩
theorem wu:zP 170 ti170:=zT
def ti171:TI:=⟨.func,1,8,[.nilFunc],false⟩
theorem wr:zP 171 ti171:=zT
def ti172:TI:=⟨.slice 3,1,24,[.slice none 0 0],false⟩
theorem wq:zP 172 ti172:=zT
def ti173:TI:=⟨.func,1,8,[.nilFunc],false⟩
theorem wo:zP 173 ti173:=zT
def ti174:TI:=⟨.func,1,8,[.nilFunc],false⟩
theorem wn:zP 174 ti174:=zT
def ti175:TI:=⟨.func,1,8,[.nilFunc],false⟩
theorem wm:zP 175 ti175:=zT
def ti177:TI:=⟨.func,1,8,[.nilFunc],false⟩
theorem wl:zP 177 ti177:=zT
def ti178:TI:=⟨.func,1,8,[.nilFunc],false⟩
theorem wk:zP 178 ti178:=zT
def ti179:TI:=⟨.func,1,8,[.nilFunc],false⟩
theorem wj:zP 179 ti179:=zT
def ti180:TI:=⟨.func,1,8,[.nilFunc],false⟩
theorem wi:zP 180 ti180:=zT
def ti181:TI:=⟨.func,1,8,[.nilFunc],false⟩
theorem wh:zP 181 ti181:=zT
def ti182:TI:=⟨.func,1,8,[.nilFunc],false⟩
theorem wg:zP 182 ti182:=zT
def ti183:TI:=⟨.func,1,8,[.nilFunc],false⟩
theorem we:zP 183 ti183:=zT
def ti184:TI:=⟨.func,1,8,[.nilFunc],false⟩
theorem wd:zP 184 ti184:=zT
def ti185:TI:=⟨.func,1,8,[.nilFunc],false⟩
theorem wc:zP 185 ti185:=zT
def ti186:TI:=⟨.func,1,8,[.nilFunc],false⟩
theorem wb:zP 186 ti186:=zT
def ti187:TI:=⟨.func,1,8,[.nilFunc],false⟩
theorem wa:zP 187 ti187:=zT
def ti189:TI:=⟨.func,1,8,[.nilFunc],false⟩
theorem v9:zP 189 ti189:=zT
def ti191:TI:=⟨.func,1,8,[.nilFunc],false⟩
theorem v8:zP 191 ti191:=zT
def ti192:TI:=⟨.func,1,8,[.nilFunc],false⟩
theorem v7:zP 192 ti192:=zT
def ti193:TI:=⟨.func,1,8,[.nilFunc],false⟩
theorem v6:zP 193 ti193:=zT
def ti194:TI:=⟨.func,1,8,[.nilFunc],false⟩
theorem v5:zP 194 ti194:=zT
def ti195:TI:=⟨.func,1,8,[.nilFunc],false⟩
theorem v4:zP 195 ti195:=zT
def ti197:TI:=⟨.func,1,8,[.nilFunc],false⟩
theorem v3:zP 197 ti197:=zT
def ti198:TI:=⟨.func,1,8,[.nilFunc],false⟩
theorem vZ:zP 198 ti198:=zT
def ti199:TI:=⟨.ptr 114,1,8,[.pointer none],false⟩
theorem vY:zP 199 ti199:=zT
def ti200:TI:=⟨.func,1,8,[.nilFunc],false⟩
theorem vX:zP 200 ti200:=zT
def ti201:TI:=⟨.int .i64,1,8,[.int .i64 0],false⟩
theorem vW:zP 201 ti201:=zT
def ti203:TI:=⟨.func,1,8,[.nilFunc],false⟩
theorem vV:zP 203 ti203:=zT
def ti204:TI:=⟨.func,1,8,[.nilFunc],false⟩
theorem vU:zP 204 ti204:=zT
def ti205:TI:=⟨.func,1,8,[.nilFunc],false⟩
theorem vT:zP 205 ti205:=zT
def ti206:TI:=⟨.func,1,8,[.nilFunc],false⟩
theorem vS:zP 206 ti206:=zT
def ti207:TI:=⟨.func,1,8,[.nilFunc],false⟩
theorem vR:zP 207 ti207:=zT
def ti208:TI:=⟨.int .u32,1,4,[.int .u32 0],false⟩
theorem vQ:zP 208 ti208:=zT
def ti209:TI:=⟨.func,1,8,[.nilFunc],false⟩
theorem vP:zP 209 ti209:=zT
def ti210:TI:=⟨.func,1,8,[.nilFunc],false⟩
theorem vO:zP 210 ti210:=zT
def ti211:TI:=⟨.func,1,8,[.nilFunc],false⟩
theorem vN:zP 211 ti211:=zT
def ti212:TI:=⟨.func,1,8,[.nilFunc],false⟩
theorem vM:zP 212 ti212:=zT
def ti213:TI:=⟨.func,1,8,[.nilFunc],false⟩
theorem vL:zP 213 ti213:=zT
def ti214:TI:=⟨.func,1,8,[.nilFunc],false⟩
theorem vK:zP 214 ti214:=zT
def ti215:TI:=⟨.struct [(0,3),(1,5),(2,3),(3,60),(4,60),(5,4)],6,48,[.int .i64 0,.int .u8 0,.int .i64 0,.int .u64 0,.int .u64 0,.bool false],true⟩
theorem vJ:zP 215 ti215:=⟨by kernel_rfl,by kernel_rfl,fun _=>⟨by kernel_rfl,by kernel_rfl,by kernel_rfl⟩⟩
def ti216:TI:=⟨.struct [(0,3),(1,5),(2,3),(3,60),(4,60),(5,4)],6,48,[.int .i64 0,.int .u8 0,.int .i64 0,.int .u64 0,.int .u64 0,.bool false],true⟩
theorem vI:zP 216 ti216:=⟨by kernel_rfl,by kernel_rfl,fun _=>⟨by kernel_rfl,by kernel_rfl,by kernel_rfl⟩⟩
def ti217:TI:=⟨.func,1,8,[.nilFunc],false⟩
theorem vH:zP 217 ti217:=zT
def ti218:TI:=⟨.func,1,8,[.nilFunc],false⟩
theorem vG:zP 218 ti218:=zT
def ti219:TI:=⟨.func,1,8,[.nilFunc],false⟩
theorem vF:zP 219 ti219:=zT
def ti220:TI:=⟨.func,1,8,[.nilFunc],false⟩
theorem vE:zP 220 ti220:=zT
def ti221:TI:=⟨.func,1,8,[.nilFunc],false⟩
theorem vD:zP 221 ti221:=zT
def ti222:TI:=⟨.func,1,8,[.nilFunc],false⟩
theorem vC:zP 222 ti222:=zT
def ti223:TI:=⟨.func,1,8,[.nilFunc],false⟩
theorem vB:zP 223 ti223:=zT
def ti224:TI:=⟨.func,1,8,[.nilFunc],false⟩
theorem vA:zP 224 ti224:=zT
def ti225:TI:=⟨.struct [(0,3),(1,60),(2,34)],3,40,[.int .i64 0,.int .u64 0,.slice none 0 0],false⟩
theorem vz:zP 225 ti225:=zT
def ti226:TI:=⟨.struct [(0,3),(1,60),(2,34)],3,40,[.int .i64 0,.int .u64 0,.slice none 0 0],false⟩
theorem vw:zP 226 ti226:=zT
def ti227:TI:=⟨.func,1,8,[.nilFunc],false⟩
theorem vu:zP 227 ti227:=zT
def ti228:TI:=⟨.func,1,8,[.nilFunc],false⟩
theorem vt:zP 228 ti228:=zT
def ti229:TI:=⟨.func,1,8,[.nilFunc],false⟩
theorem vr:zP 229 ti229:=zT
def ti230:TI:=⟨.int .u64,1,8,[.int .u64 0],false⟩
theorem vq:zP 230 ti230:=zT
def ti231:TI:=⟨.func,1,8,[.nilFunc],false⟩
theorem vp:zP 231 ti231:=zT
def ti232:TI:=⟨.func,1,8,[.nilFunc],false⟩
theorem vo:zP 232 ti232:=zT
def ti233:TI:=⟨.func,1,8,[.nilFunc],false⟩
theorem vn:zP 233 ti233:=zT
def ti234:TI:=⟨.ptr 3,1,8,[.pointer none],false⟩
theorem vm:zP 234 ti234:=zT
def ti235:TI:=⟨.func,1,8,[.nilFunc],false⟩
theorem vl:zP 235 ti235:=zT
def ti237:TI:=⟨.func,1,8,[.nilFunc],false⟩
theorem vh:zP 237 ti237:=zT
def ti238:TI:=⟨.func,1,8,[.nilFunc],false⟩
theorem vg:zP 238 ti238:=zT
def ti239:TI:=⟨.func,1,8,[.nilFunc],false⟩
theorem vf:zP 239 ti239:=zT
def ti240:TI:=⟨.func,1,8,[.nilFunc],false⟩
theorem ve:zP 240 ti240:=zT
def ti241:TI:=⟨.func,1,8,[.nilFunc],false⟩
theorem vd:zP 241 ti241:=zT
def ti242:TI:=⟨.func,1,8,[.nilFunc],false⟩
theorem vc:zP 242 ti242:=zT
def ti243:TI:=⟨.func,1,8,[.nilFunc],false⟩
theorem u9:zP 243 ti243:=zT
def ti244:TI:=⟨.func,1,8,[.nilFunc],false⟩
theorem u7:zP 244 ti244:=zT
def ti245:TI:=⟨.func,1,8,[.nilFunc],false⟩
theorem u6:zP 245 ti245:=zT
def ti246:TI:=⟨.func,1,8,[.nilFunc],false⟩
theorem u5:zP 246 ti246:=zT
def ti247:TI:=⟨.func,1,8,[.nilFunc],false⟩
theorem u4:zP 247 ti247:=zT
def ti248:TI:=⟨.func,1,8,[.nilFunc],false⟩
theorem u3:zP 248 ti248:=zT
def ti249:TI:=⟨.func,1,8,[.nilFunc],false⟩
theorem uZ:zP 249 ti249:=zT
def ti250:TI:=⟨.ptr 230,1,8,[.pointer none],false⟩
theorem uY:zP 250 ti250:=zT
def ti252:TI:=⟨.func,1,8,[.nilFunc],false⟩
theorem uX:zP 252 ti252:=zT
def ti254:TI:=⟨.func,1,8,[.nilFunc],false⟩
theorem uW:zP 254 ti254:=zT
def ti255:TI:=⟨.func,1,8,[.nilFunc],false⟩
theorem uV:zP 255 ti255:=zT
def ti256:TI:=⟨.ptr 127,1,8,[.pointer none],false⟩
theorem uU:zP 256 ti256:=zT
def ti257:TI:=⟨.func,1,8,[.nilFunc],false⟩
theorem uT:zP 257 ti257:=zT
def ti259:TI:=⟨.struct [(0,17),(1,17),(2,17),(3,9)],4,40,[.pointer none,.pointer none,.pointer none,.string ⟨#[]⟩],false⟩
theorem uS:zP 259 ti259:=zT
def ti260:TI:=⟨.struct [(0,17),(1,17),(2,17),(3,9)],4,40,[.pointer none,.pointer none,.pointer none,.string ⟨#[]⟩],false⟩
theorem uR:zP 260 ti260:=zT
def ti261:TI:=⟨.array 0 16,0,0,[],false⟩
theorem uQ:zP 261 ti261:=zT
def ti262:TI:=⟨.struct [(0,261)],0,0,[],false⟩
theorem uP:zP 262 ti262:=zT
def ti263:TI:=⟨.struct [(0,261)],0,0,[],false⟩
theorem uO:zP 263 ti263:=zT
def ti264:TI:=⟨.int .u8,1,1,[.int .u8 0],false⟩
theorem uN:zP 264 ti264:=zT
def ti265:TI:=⟨.int .u8,1,1,[.int .u8 0],false⟩
theorem uM:zP 265 ti265:=zT
def ti266:TI:=⟨.func,1,8,[.nilFunc],false⟩
theorem uL:zP 266 ti266:=zT
def ti267:TI:=⟨.ptr 5,1,8,[.pointer none],false⟩
theorem uK:zP 267 ti267:=zT
def ti268:TI:=⟨.int .i32,1,4,[.int .i32 0],false⟩
theorem uJ:zP 268 ti268:=zT
def ti269:TI:=⟨.int .i32,1,4,[.int .i32 0],false⟩
theorem uI:zP 269 ti269:=zT
def ti270:TI:=⟨.struct [(0,12),(1,12),(2,208),(3,264),(4,5),(5,5),(6,265),(7,266),(8,267),(9,268),(10,269)],11,48,[.int .u64 0,.int .u64 0,.int .u32 0,.int .u8 0,.int .u8 0,.int .u8 0,.int .u8 0,.nilFunc,.pointer none,.int .i32 0,.int .i32 0],false⟩
theorem uH:zP 270 ti270:=zT
def ti271:TI:=⟨.struct [(0,12),(1,12),(2,208),(3,264),(4,5),(5,5),(6,265),(7,266),(8,267),(9,268),(10,269)],11,48,[.int .u64 0,.int .u64 0,.int .u32 0,.int .u8 0,.int .u8 0,.int .u8 0,.int .u8 0,.nilFunc,.pointer none,.int .i32 0,.int .i32 0],false⟩
theorem uG:zP 271 ti271:=zT
def zc:cL:=.node (.node (.node (.node (.node (.node (.node (.node (.leaf) 1 ti1 (.leaf)) 2 ti2 (.node (.leaf) 3 ti3 (.leaf))) 4 ti4 (.node (.node (.leaf) 5 ti5 (.leaf)) 6 ti6 (.node (.leaf) 7 ti7 (.leaf)))) 8 ti8 (.node (.node (.node (.leaf) 9 ti9 (.leaf)) 10 ti10 (.node (.leaf) 11 ti11 (.leaf))) 12 ti12 (.node (.node (.leaf) 13 ti13 (.leaf)) 14 ti14 (.node (.leaf) 15 ti15 (.leaf))))) 16 ti16 (.node (.node (.node (.node (.leaf) 17 ti17 (.leaf)) 18 ti18 (.node (.leaf) 19 ti19 (.leaf))) 20 ti20 (.node (.node (.leaf) 21 ti21 (.leaf)) 22 ti22 (.node (.leaf) 23 ti23 (.leaf)))) 24 ti24 (.node (.node (.node (.leaf) 25 ti25 (.leaf)) 26 ti26 (.node (.leaf) 27 ti27 (.leaf))) 28 ti28 (.node (.node (.leaf) 29 ti29 (.leaf)) 30 ti30 (.node (.leaf) 31 ti31 (.leaf)))))) 32 ti32 (.node (.node (.node (.node (.node (.leaf) 33 ti33 (.leaf)) 34 ti34 (.node (.leaf) 35 ti35 (.leaf))) 36 ti36 (.node (.node (.leaf) 37 ti37 (.leaf)) 39 ti39 (.node (.leaf) 40 ti40 (.leaf)))) 42 ti42 (.node (.node (.node (.leaf) 43 ti43 (.leaf)) 44 ti44 (.node (.leaf) 45 ti45 (.leaf))) 46 ti46 (.node (.node (.leaf) 47 ti47 (.leaf)) 48 ti48 (.node (.leaf) 49 ti49 (.leaf))))) 50 ti50 (.node (.node (.node (.node (.leaf) 51 ti51 (.leaf)) 52 ti52 (.node (.leaf) 53 ti53 (.leaf))) 54 ti54 (.node (.node (.leaf) 55 ti55 (.leaf)) 56 ti56 (.node (.leaf) 57 ti57 (.leaf)))) 58 ti58 (.node (.node (.node (.leaf) 59 ti59 (.leaf)) 60 ti60 (.node (.leaf) 61 ti61 (.leaf))) 62 ti62 (.node (.node (.leaf) 63 ti63 (.leaf)) 65 ti65 (.leaf)))))) 66 ti66 (.node (.node (.node (.node (.node (.node (.leaf) 67 ti67 (.leaf)) 68 ti68 (.node (.leaf) 69 ti69 (.leaf))) 70 ti70 (.node (.node (.leaf) 71 ti71 (.leaf)) 73 ti73 (.node (.leaf) 74 ti74 (.leaf)))) 75 ti75 (.node (.node (.node (.leaf) 76 ti76 (.leaf)) 77 ti77 (.node (.leaf) 78 ti78 (.leaf))) 79 ti79 (.node (.node (.leaf) 80 ti80 (.leaf)) 81 ti81 (.node (.leaf) 82 ti82 (.leaf))))) 83 ti83 (.node (.node (.node (.node (.leaf) 84 ti84 (.leaf)) 85 ti85 (.node (.leaf) 86 ti86 (.leaf))) 87 ti87 (.node (.node (.leaf) 88 ti88 (.leaf)) 89 ti89 (.node (.leaf) 90 ti90 (.leaf)))) 91 ti91 (.node (.node (.node (.leaf) 93 ti93 (.leaf)) 94 ti94 (.node (.leaf) 96 ti96 (.leaf))) 97 ti97 (.node (.node (.leaf) 98 ti98 (.leaf)) 99 ti99 (.leaf))))) 100 ti100 (.node (.node (.node (.node (.node (.leaf) 101 ti101 (.leaf)) 102 ti102 (.node (.leaf) 103 ti103 (.leaf))) 104 ti104 (.node (.node (.leaf) 105 ti105 (.leaf)) 106 ti106 (.node (.leaf) 107 ti107 (.leaf)))) 108 ti108 (.node (.node (.node (.leaf) 109 ti109 (.leaf)) 110 ti110 (.node (.leaf) 111 ti111 (.leaf))) 112 ti112 (.node (.node (.leaf) 113 ti113 (.leaf)) 114 ti114 (.node (.leaf) 115 ti115 (.leaf))))) 116 ti116 (.node (.node (.node (.node (.leaf) 117 ti117 (.leaf)) 118 ti118 (.node (.leaf) 119 ti119 (.leaf))) 120 ti120 (.node (.node (.leaf) 121 ti121 (.leaf)) 122 ti122 (.node (.leaf) 123 ti123 (.leaf)))) 124 ti124 (.node (.node (.node (.leaf) 125 ti125 (.leaf)) 126 ti126 (.node (.leaf) 127 ti127 (.leaf))) 129 ti129 (.node (.node (.leaf) 130 ti130 (.leaf)) 131 ti131 (.leaf))))))) 132 ti132 (.node (.node (.node (.node (.node (.node (.node (.leaf) 134 ti134 (.leaf)) 135 ti135 (.node (.leaf) 136 ti136 (.leaf))) 138 ti138 (.node (.node (.leaf) 139 ti139 (.leaf)) 140 ti140 (.node (.leaf) 141 ti141 (.leaf)))) 142 ti142 (.node (.node (.node (.leaf) 144 ti144 (.leaf)) 145 ti145 (.node (.leaf) 146 ti146 (.leaf))) 148 ti148 (.node (.node (.leaf) 149 ti149 (.leaf)) 150 ti150 (.node (.leaf) 152 ti152 (.leaf))))) 153 ti153 (.node (.node (.node (.node (.leaf) 154 ti154 (.leaf)) 155 ti155 (.node (.leaf) 156 ti156 (.leaf))) 157 ti157 (.node (.node (.leaf) 159 ti159 (.leaf)) 161 ti161 (.node (.leaf) 162 ti162 (.leaf)))) 163 ti163 (.node (.node (.node (.leaf) 164 ti164 (.leaf)) 165 ti165 (.node (.leaf) 166 ti166 (.leaf))) 167 ti167 (.node (.node (.leaf) 168 ti168 (.leaf)) 169 ti169 (.leaf))))) 170 ti170 (.node (.node (.node (.node (.node (.leaf) 171 ti171 (.leaf)) 172 ti172 (.node (.leaf) 173 ti173 (.leaf))) 174 ti174 (.node (.node (.leaf) 175 ti175 (.leaf)) 177 ti177 (.node (.leaf) 178 ti178 (.leaf)))) 179 ti179 (.node (.node (.node (.leaf) 180 ti180 (.leaf)) 181 ti181 (.node (.leaf) 182 ti182 (.leaf))) 183 ti183 (.node (.node (.leaf) 184 ti184 (.leaf)) 185 ti185 (.node (.leaf) 186 ti186 (.leaf))))) 187 ti187 (.node (.node (.node (.node (.leaf) 189 ti189 (.leaf)) 191 ti191 (.node (.leaf) 192 ti192 (.leaf))) 193 ti193 (.node (.node (.leaf) 194 ti194 (.leaf)) 195 ti195 (.node (.leaf) 197 ti197 (.leaf)))) 198 ti198 (.node (.node (.node (.leaf) 199 ti199 (.leaf)) 200 ti200 (.node (.leaf) 201 ti201 (.leaf))) 203 ti203 (.node (.node (.leaf) 204 ti204 (.leaf)) 205 ti205 (.leaf)))))) 206 ti206 (.node (.node (.node (.node (.node (.node (.leaf) 207 ti207 (.leaf)) 208 ti208 (.node (.leaf) 209 ti209 (.leaf))) 210 ti210 (.node (.node (.leaf) 211 ti211 (.leaf)) 212 ti212 (.node (.leaf) 213 ti213 (.leaf)))) 214 ti214 (.node (.node (.node (.leaf) 215 ti215 (.leaf)) 216 ti216 (.node (.leaf) 217 ti217 (.leaf))) 218 ti218 (.node (.node (.leaf) 219 ti219 (.leaf)) 220 ti220 (.node (.leaf) 221 ti221 (.leaf))))) 222 ti222 (.node (.node (.node (.node (.leaf) 223 ti223 (.leaf)) 224 ti224 (.node (.leaf) 225 ti225 (.leaf))) 226 ti226 (.node (.node (.leaf) 227 ti227 (.leaf)) 228 ti228 (.node (.leaf) 229 ti229 (.leaf)))) 230 ti230 (.node (.node (.node (.leaf) 231 ti231 (.leaf)) 232 ti232 (.node (.leaf) 233 ti233 (.leaf))) 234 ti234 (.node (.node (.leaf) 235 ti235 (.leaf)) 237 ti237 (.leaf))))) 238 ti238 (.node (.node (.node (.node (.node (.leaf) 239 ti239 (.leaf)) 240 ti240 (.node (.leaf) 241 ti241 (.leaf))) 242 ti242 (.node (.node (.leaf) 243 ti243 (.leaf)) 244 ti244 (.node (.leaf) 245 ti245 (.leaf)))) 246 ti246 (.node (.node (.node (.leaf) 247 ti247 (.leaf)) 248 ti248 (.node (.leaf) 249 ti249 (.leaf))) 250 ti250 (.node (.node (.leaf) 252 ti252 (.leaf)) 254 ti254 (.node (.leaf) 255 ti255 (.leaf))))) 256 ti256 (.node (.node (.node (.node (.leaf) 257 ti257 (.leaf)) 259 ti259 (.node (.leaf) 260 ti260 (.leaf))) 261 ti261 (.node (.node (.leaf) 262 ti262 (.leaf)) 263 ti263 (.node (.leaf) 264 ti264 (.leaf)))) 265 ti265 (.node (.node (.node (.leaf) 266 ti266 (.leaf)) 267 ti267 (.node (.leaf) 268 ti268 (.leaf))) 269 ti269 (.node (.node (.leaf) 270 ti270 (.leaf)) 271 ti271 (.leaf)))))))
theorem ro:zc.allP (eV Tryz.prog):=⟨⟨⟨⟨⟨⟨⟨⟨trivial,ti1_ok,trivial⟩,ti2_ok,⟨trivial,ti3_ok,trivial⟩⟩,ti4_ok,⟨⟨trivial,ti5_ok,trivial⟩,ti6_ok,⟨trivial,ti7_ok,trivial⟩⟩⟩,ti8_ok,⟨⟨⟨trivial,ti9_ok,trivial⟩,ti10_ok,⟨trivial,ti11_ok,trivial⟩⟩,ti12_ok,⟨⟨trivial,ti13_ok,trivial⟩,ti14_ok,⟨trivial,ti15_ok,trivial⟩⟩⟩⟩,ti16_ok,⟨⟨⟨⟨trivial,ti17_ok,trivial⟩,ti18_ok,⟨trivial,ti19_ok,trivial⟩⟩,ti20_ok,⟨⟨trivial,ti21_ok,trivial⟩,ti22_ok,⟨trivial,ti23_ok,trivial⟩⟩⟩,ti24_ok,⟨⟨⟨trivial,ti25_ok,trivial⟩,ti26_ok,⟨trivial,ti27_ok,trivial⟩⟩,ti28_ok,⟨⟨trivial,ti29_ok,trivial⟩,ti30_ok,⟨trivial,ti31_ok,trivial⟩⟩⟩⟩⟩,ti32_ok,⟨⟨⟨⟨⟨trivial,ti33_ok,trivial⟩,ti34_ok,⟨trivial,ti35_ok,trivial⟩⟩,ti36_ok,⟨⟨trivial,ti37_ok,trivial⟩,ti39_ok,⟨trivial,ti40_ok,trivial⟩⟩⟩,ti42_ok,⟨⟨⟨trivial,ti43_ok,trivial⟩,ti44_ok,⟨trivial,ti45_ok,trivial⟩⟩,ti46_ok,⟨⟨trivial,ti47_ok,trivial⟩,ti48_ok,⟨trivial,ti49_ok,trivial⟩⟩⟩⟩,ti50_ok,⟨⟨⟨⟨trivial,ti51_ok,trivial⟩,ti52_ok,⟨trivial,ti53_ok,trivial⟩⟩,ti54_ok,⟨⟨trivial,ti55_ok,trivial⟩,ti56_ok,⟨trivial,ti57_ok,trivial⟩⟩⟩,ti58_ok,⟨⟨⟨trivial,ti59_ok,trivial⟩,ti60_ok,⟨trivial,ti61_ok,trivial⟩⟩,ti62_ok,⟨⟨trivial,ti63_ok,trivial⟩,ti65_ok,trivial⟩⟩⟩⟩⟩,ti66_ok,⟨⟨⟨⟨⟨⟨trivial,ti67_ok,trivial⟩,ti68_ok,⟨trivial,ti69_ok,trivial⟩⟩,ti70_ok,⟨⟨trivial,ti71_ok,trivial⟩,ti73_ok,⟨trivial,ti74_ok,trivial⟩⟩⟩,ti75_ok,⟨⟨⟨trivial,ti76_ok,trivial⟩,ti77_ok,⟨trivial,ti78_ok,trivial⟩⟩,ti79_ok,⟨⟨trivial,ti80_ok,trivial⟩,ti81_ok,⟨trivial,ti82_ok,trivial⟩⟩⟩⟩,ti83_ok,⟨⟨⟨⟨trivial,ti84_ok,trivial⟩,ti85_ok,⟨trivial,ti86_ok,trivial⟩⟩,ti87_ok,⟨⟨trivial,ti88_ok,trivial⟩,ti89_ok,⟨trivial,ti90_ok,trivial⟩⟩⟩,ti91_ok,⟨⟨⟨trivial,ti93_ok,trivial⟩,ti94_ok,⟨trivial,ti96_ok,trivial⟩⟩,ti97_ok,⟨⟨trivial,ti98_ok,trivial⟩,ti99_ok,trivial⟩⟩⟩⟩,xG,⟨⟨⟨⟨⟨trivial,xE,trivial⟩,xD,⟨trivial,xC,trivial⟩⟩,xA,⟨⟨trivial,xy,trivial⟩,xx,⟨trivial,xw,trivial⟩⟩⟩,xv,⟨⟨⟨trivial,xu,trivial⟩,xt,⟨trivial,xr,trivial⟩⟩,xq,⟨⟨trivial,xp,trivial⟩,xo,⟨trivial,xn,trivial⟩⟩⟩⟩,xm,⟨⟨⟨⟨trivial,xk,trivial⟩,xj,⟨trivial,xi,trivial⟩⟩,xh,⟨⟨trivial,xg,trivial⟩,xf,⟨trivial,xd,trivial⟩⟩⟩,xb,⟨⟨⟨trivial,xa,trivial⟩,w9,⟨trivial,w7,trivial⟩⟩,w6,⟨⟨trivial,w5,trivial⟩,w4,trivial⟩⟩⟩⟩⟩⟩,wZ,⟨⟨⟨⟨⟨⟨⟨trivial,wY,trivial⟩,wX,⟨trivial,wW,trivial⟩⟩,wV,⟨⟨trivial,wU,trivial⟩,wT,⟨trivial,wS,trivial⟩⟩⟩,wR,⟨⟨⟨trivial,wQ,trivial⟩,wP,⟨trivial,wO,trivial⟩⟩,wN,⟨⟨trivial,wM,trivial⟩,wL,⟨trivial,wK,trivial⟩⟩⟩⟩,wJ,⟨⟨⟨⟨trivial,wI,trivial⟩,wH,⟨trivial,wG,trivial⟩⟩,wF,⟨⟨trivial,wE,trivial⟩,wD,⟨trivial,wC,trivial⟩⟩⟩,wB,⟨⟨⟨trivial,wA,trivial⟩,wz,⟨trivial,wy,trivial⟩⟩,wx,⟨⟨trivial,ww,trivial⟩,wv,trivial⟩⟩⟩⟩,wu,⟨⟨⟨⟨⟨trivial,wr,trivial⟩,wq,⟨trivial,wo,trivial⟩⟩,wn,⟨⟨trivial,wm,trivial⟩,wl,⟨trivial,wk,trivial⟩⟩⟩,wj,⟨⟨⟨trivial,wi,trivial⟩,wh,⟨trivial,wg,trivial⟩⟩,we,⟨⟨trivial,wd,trivial⟩,wc,⟨trivial,wb,trivial⟩⟩⟩⟩,wa,⟨⟨⟨⟨trivial,v9,trivial⟩,v8,⟨trivial,v7,trivial⟩⟩,v6,⟨⟨trivial,v5,trivial⟩,v4,⟨trivial,v3,trivial⟩⟩⟩,vZ,⟨⟨⟨trivial,vY,trivial⟩,vX,⟨trivial,vW,trivial⟩⟩,vV,⟨⟨trivial,vU,trivial⟩,vT,trivial⟩⟩⟩⟩⟩,vS,⟨⟨⟨⟨⟨⟨trivial,vR,trivial⟩,vQ,⟨trivial,vP,trivial⟩⟩,vO,⟨⟨trivial,vN,trivial⟩,vM,⟨trivial,vL,trivial⟩⟩⟩,vK,⟨⟨⟨trivial,vJ,trivial⟩,vI,⟨trivial,vH,trivial⟩⟩,vG,⟨⟨trivial,vF,trivial⟩,vE,⟨trivial,vD,trivial⟩⟩⟩⟩,vC,⟨⟨⟨⟨trivial,vB,trivial⟩,vA,⟨trivial,vz,trivial⟩⟩,vw,⟨⟨trivial,vu,trivial⟩,vt,⟨trivial,vr,trivial⟩⟩⟩,vq,⟨⟨⟨trivial,vp,trivial⟩,vo,⟨trivial,vn,trivial⟩⟩,vm,⟨⟨trivial,vl,trivial⟩,vh,trivial⟩⟩⟩⟩,vg,⟨⟨⟨⟨⟨trivial,vf,trivial⟩,ve,⟨trivial,vd,trivial⟩⟩,vc,⟨⟨trivial,u9,trivial⟩,u7,⟨trivial,u6,trivial⟩⟩⟩,u5,⟨⟨⟨trivial,u4,trivial⟩,u3,⟨trivial,uZ,trivial⟩⟩,uY,⟨⟨trivial,uX,trivial⟩,uW,⟨trivial,uV,trivial⟩⟩⟩⟩,uU,⟨⟨⟨⟨trivial,uT,trivial⟩,uS,⟨trivial,uR,trivial⟩⟩,uQ,⟨⟨trivial,uP,trivial⟩,uO,⟨trivial,uN,trivial⟩⟩⟩,uM,⟨⟨⟨trivial,uL,trivial⟩,uK,⟨trivial,uJ,trivial⟩⟩,uI,⟨⟨trivial,uH,trivial⟩,uG,trivial⟩⟩⟩⟩⟩⟩⟩
noncomputable def TC:Cx:=⟨Tryz.prog,zc.look,cL.look_ok ro⟩
theorem ac:TC.P.follows .mixedOrders=true:=by kernel_rfl
section
open Go.Shelf
theorem Pure.val{C:Cx}{g:Nat}{xs:List Value}{r:Value}(ent:da C.P g)(hr:r.oneCell'=true)(h:∀w,Calls C.P g xs.toArray w fun e w'=>e=.returned r∧w'=w):Pure C g (xs.map fun v=>.d (.val v)) (.d (.val r)):=by
 refine⟨ent,fun E w vs hIm hsz hargs=>?_⟩
 have:vs=xs.toArray:=by
  apply Array.ext (by simpa using hsz)
  intro i h1 h2
  have h3:=hargs i (by simpa using h2)
  rw[List.getElem_map]at h3
  have:=h3.val_inv
  simpa[Array.getD,h1]using this
 subst this
 refine(h w).mono ?_
 rintro e w' ⟨rfl,rfl⟩
 exact⟨r,rfl,Kp.refl _,.d _ _ (.val _ hr)⟩
theorem Pure.val2{C:Cx}{g:Nat}{xs:List Value}{r s:Value}(ent:da C.P g)(hr:r.oneCell'=true)(hs:s.oneCell'=true)(h:∀w,Calls C.P g xs.toArray w fun e w'=>e=.returned (.tuple #[r,s])∧w'=w):Pure C g (xs.map fun v=>.d (.val v)) (.tup [.d (.val r),.d (.val s)]):=by
 refine⟨ent,fun E w vs hIm hsz hargs=>?_⟩
 have:vs=xs.toArray:=by
  apply Array.ext (by simpa using hsz)
  intro i h1 h2
  have h3:=hargs i (by simpa using h2)
  rw[List.getElem_map]at h3
  have:=h3.val_inv
  simpa[Array.getD,h1]using this
 subst this
 refine(h w).mono ?_
 rintro e w' ⟨rfl,rfl⟩
 refine⟨_,rfl,Kp.refl _,.tup _ _ rfl fun j hj=>?_⟩
 have:j=0∨j=1:=by simp at hj;omega
 rcases this with rfl|rfl
 ·exact .d _ _ (.val _ hr)
 ·exact .d _ _ (.val _ hs)
def mulRen:Go.Shelf.Ren:=⟨fun|264=>180|n=>n,fun|53=>60|46=>55|n=>n,fun|n=>n⟩
theorem mulLays:Go.Proofs.Lays.n264 Tryz.prog mulRen:={
 mixed:=by kernel_rfl
 f264:=Tryz.func180.trans (congrArg some (by kernel_rfl))
 t46:=Tryz.underlying55
 a46:=Tryz.isAgg55
 z46:=Tryz.sizeOf55
 v46:=Tryz.zeroValue55
 t53:=Tryz.underlying60
 a53:=Tryz.isAgg60
 z53:=Tryz.sizeOf60
 v53:=Tryz.zeroValue60 }
def hiI(x:Int):Int:=x/18446744073709551616
def loI(x:Int):Int:=x%18446744073709551616
theorem bits_Mul64(x y:Int)(hx:0≤x)(hx2:x<18446744073709551616)(hy:0≤y)(hy2:y<18446744073709551616):Pure TC 180 [.i .u64 x,.i .u64 y] (.tup [.i .u64 (hiI (x*y)),.i .u64 (loI (x*y))]):=by
 obtain⟨n,rfl⟩:=Int.eq_ofNat_of_zero_le hx
 obtain⟨m,rfl⟩:=Int.eq_ofNat_of_zero_le hy
 refine Pure.val2 (xs:=[.int .u64 n,.int .u64 m]) (.mk Tryz.func180 rfl rfl) rfl rfl fun w=>?_
 refine(Any.bits_Mul64 mulLays n m (by omega) (by omega) w).mono ?_
 rintro e w' ⟨rfl,rfl⟩
 refine⟨?_,rfl⟩
 simp[hiI,loI]
end
def am{α:Type}[Inhabited α](esz:Nat)(enc:α→List D)(xs:List α):D:=.sl esz xs.length fun i=>enc (xs.getD i default)
def aM(k:IntKind)(n:Int):List D:=[.val (.int k n)]
def cq(n:Int):Bool:=decide (0≤n)&&decide (n≤4611686018427387903)
theorem eZ(n:Int):cq n=true↔0≤n∧n≤4611686018427387903:=by simp[cq]
def limE(T tau:Int):Int:=if cq T=true∧1≤T∧cq tau=true then 0 else 1
theorem cp(n:Int):Pure TC 41 [.i .i64 n] (.b (cq n)):=by
 refine Pure.mk' Tryz.func41 rfl rfl zN ?_
 (repeat' (first|((first|refine Wp.any ac rfl ?_|(with_reducible first|refine Go.mk ?_|apply ai.of));conv=>whnf)|((refine aq (fun hc=>?_) (fun hc=>?_))<;>(try simp only[wz9]at hc)<;>(try (exfalso;omega))<;>(conv=>whnf))))
 all_goals exact .b (by simp[cq];omega)
theorem jW(T tau:Int):Pure TC 82 [.agg [.i .i64 T,.i .i64 tau]] (.i .i64 (limE T tau)):=by
 refine Pure.mk' Tryz.func82 rfl rfl zN ?_
 (repeat' (first|((first|refine Wp.any ac rfl ?_|(with_reducible first|refine Go.mk ?_|apply ai.of|refine ab.pure (cp _) rfl rfl ?_));conv=>whnf)|((refine aq (fun hc=>?_) (fun hc=>?_))<;>(try simp only[wz9]at hc)<;>(try (exfalso;omega))<;>(conv=>whnf))))
 all_goals exact .i (by simp[limE, *];try omega)
structure Pol where
 kind:Int
 T:Int
 tau:Int
 permits:Int
 deriving Inhabited
def Pol.D(p:Pol):List D:=[.val (.int .u8 p.kind),.val (.int .i64 p.T),.val (.int .i64 p.tau),.val (.int .i64 p.permits)]
def lP(k T tau m:Int):Bool:=if k=1 then limE T tau==0 else if k=2 then decide (1≤m)&&decide (m≤64)else false
theorem tU(k T tau m:Int):Pure TC 54 [.agg [.i .u8 k,.i .i64 T,.i .i64 tau,.i .i64 m]] (.b (lP k T tau m)):=by
 refine Pure.mk' Tryz.func54 rfl rfl zN ?_
 (repeat' (first|((first|refine Wp.any ac rfl ?_|(with_reducible first|refine Go.mk ?_|apply ai.of|refine ab.pure (jW _ _) rfl rfl ?_));conv=>whnf)|((refine aq (fun hc=>?_) (fun hc=>?_))<;>(try simp only[wz9]at hc)<;>(try (exfalso;omega))<;>(conv=>whnf))))
 all_goals exact .b (by simp[lP, *])
def cr(ps:List Pol):Int:=if 32<ps.length then 2 else if ps.all (fun p=>lP p.kind p.T p.tau p.permits)then 0 else 3
theorem mI{ps:List Pol}(h:¬32<ps.length):cr ps=if ps.all (fun p=>lP p.kind p.T p.tau p.permits)then 0 else 3:=by simp[cr,h]
theorem fL{α:Type}[Inhabited α]{f:α→Bool}{xs:List α}{k:Nat}(hk:k<xs.length)(h:(xs.take k).all f=true)(h2:f (xs.getD k default)=true):(xs.take (k+1)).all f=true:=by
 rw[List.take_succ_eq_append_getElem hk,List.all_append,h]
 simp only[List.getD,Q0 hk,Option.getD_some]at h2
 simp[h2]
theorem sn{α:Type}[Inhabited α]{f:α→Bool}{xs:List α}{k:Nat}(hk:k<xs.length)(h2:f (xs.getD k default)=false):xs.all f=false:=by
 simp only[List.getD,Q0 hk,Option.getD_some]at h2
 rw[List.all_eq_false]
 exact⟨_,Q14 hk,by simp[h2]⟩
theorem dy(ps:List Pol):Pure TC 22 [.d (am 4 Pol.D ps)] (.i .i64 (cr ps)):=by
 refine Pure.mk' Tryz.func22 rfl rfl zN ?_
 (repeat' (first|((first|refine Wp.any ac rfl ?_|(with_reducible first|refine Go.mk ?_|apply ai.of));conv=>whnf)|((refine aq (fun hc=>?_) (fun hc=>?_))<;>(try simp only[wz9]at hc)<;>(try (exfalso;omega))<;>(conv=>whnf))))
 ·exact .i (by simp[cr];omega)
 ·refine Wp.loopP (fun k=>k≤ps.length∧(ps.take k).all (fun p=>lP p.kind p.T p.tau p.permits)=true) (fun k=>⟨⟨Tryz.f22.ntmps,0⟩,0,[(8,.d (am 4 Pol.D ps)),(9,.i .i64 ps.length),(10,.i .i64 k)],[]⟩) (fun k=>ps.length-k) 0 ⟨by simp,by simp⟩ ?_ ?_
  ·(refine Le.by [] rfl rfl rfl rfl ?_ ?_<;>(conv=>whnf)<;>(repeat' (first|exact trivial|exact ae.rfl rfl|((with_reducible refine And.intro ?_ ?_)<;>(conv=>whnf)))))
  ·rintro k ⟨hk,hall⟩
   (repeat' (first|((first|refine Wp.any ac rfl ?_|(with_reducible first|refine Go.mk ?_|apply ai.of|refine Ov.ok zO ?_|refine And.intro zC ?_|refine ab.pure (tU _ _ _ _) rfl rfl ?_));conv=>whnf)|((refine aq (fun hc=>?_) (fun hc=>?_))<;>(try simp only[wz9]at hc)<;>(try (exfalso;omega))<;>(conv=>whnf))))
   ·exact .i (by rw[mI (by omega),sn (k:=k) (by omega) (by simpa using hc)];rfl)
   ·refine⟨k+1,⟨by omega,fL (by omega) hall (by simpa using hc)⟩,by dsimp only;omega,?_⟩
    (refine Le.by [] rfl rfl rfl rfl ?_ ?_<;>(conv=>whnf)<;>(repeat' (first|exact trivial|exact ae.rfl rfl|((with_reducible refine And.intro ?_ ?_)<;>(conv=>whnf)))))
   ·rw[Q21 (by omega)]at hall
    exact .i (by rw[mI (by omega),hall];rfl)
def jC(op:Int):Int:=if op=1 then 1 else if op=2∨op=3 then 2 else 0
theorem tT(op:Int):Pure TC 67 [.i .u8 op] (.i .u8 (jC op)):=by
 refine Pure.mk' Tryz.func67 rfl rfl zN ?_
 (repeat' (first|((first|refine Wp.any ac rfl ?_|(with_reducible first|refine Go.mk ?_|apply ai.of));conv=>whnf)|((refine aq (fun hc=>?_) (fun hc=>?_))<;>(try simp only[wz9]at hc)<;>(try (exfalso;omega))<;>(conv=>whnf))))
 all_goals exact .i (by simp[jC, *])
def bsF(lt:Nat→Bool):Nat→Nat→Nat→Nat
 | 0,i,_=>i
 | n+1,i,j=>if i<j then(if lt ((i+j)/2)then bsF lt n ((i+j)/2+1) j else bsF lt n i ((i+j)/2))else i
def bs(lt:Nat→Bool)(n:Nat):Nat:=bsF lt (n+1) 0 n
theorem oB{lt:Nat→Bool}{q i j:Nat}(h:¬i<j):bsF lt q i j=i:=by cases q<;>simp[bsF,h]
def l7(ps:List Pol)(op pol:Int)(key:List Int)(n:Int):Int :=
 if op<1∨6<op∨(op=1∧cq n=false)then 1
 else if op≤4∧255<key.length then 2
 else if cr ps≠0 then cr ps
 else if op≤4∧(pol<0∨ps.length≤pol∨(jC op≠0∧(ps.getD pol.toNat default).kind≠jC op))then 6 else 0
theorem aV(ps:List Pol)(op pol:Int)(key:List Int)(n:Int):Pure TC 40 [.d (am 4 Pol.D ps),.agg [.i .u8 op,.i .i64 pol,.d (am 1 (aM .u8) key),.i .i64 n]] (.i .i64 (l7 ps op pol key n)):=by
 refine Pure.mk' Tryz.func40 rfl rfl zN ?_
 (repeat' (first|((first|refine Wp.any ac rfl ?_|(with_reducible first|refine Go.mk ?_|apply ai.of)|refine zV ?_|(with_reducible first|refine And.intro zC ?_|refine ab.pure (cp _) rfl rfl ?_|refine ab.pure (dy _) rfl rfl ?_|refine ag.pure (tT _) rfl rfl ?_));conv=>whnf)|((refine aq (fun hc=>?_) (fun hc=>?_))<;>(try simp only[wz9]at hc)<;>(try (exfalso;omega))<;>(conv=>whnf))))
 all_goals exact .i (by
  unfold l7
  repeat' split
  all_goals first|rfl|omega|(exfalso;simp_all;try omega)|simp_all)
end Go.Proofs.YtlkccdlgnpkjpaaGreat
