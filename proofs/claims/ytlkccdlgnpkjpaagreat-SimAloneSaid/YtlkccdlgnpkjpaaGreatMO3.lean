/- Lemmas of Sx12, Sx12b, Sx13. No condition. -/
import Derived.Test.YtlkccdlgnpkjpaaGreatMO2
import Derived.Orders
set_option linter.unusedVariables false
set_option linter.unusedSimpArgs false
set_option linter.unusedSectionVars false
set_option maxHeartbeats 80000000
set_option maxRecDepth 100000
namespace Go.Proofs.YtlkccdlgnpkjpaaGreat
open Go.RowKit
section
mutual
def SV.ren(π:Nat→Nat):SV→SV
 | .any=>.any
 | .d x=>.d x
 | .ptr l o=>.ptr (π l) o
 | .rp l z q o=>.rp (π l) z q o
 | .sl l z o n=>.sl (π l) z o n
 | .agg vs=>.agg (SV.renL π vs)
 | .tup vs=>.tup (SV.renL π vs)
 | .fn f cs=>.fn f (SV.renL π cs)
 | .iref cs o=>.iref (SV.renL π cs) o
def SV.renL(π:Nat→Nat):List SV→List SV
 | []=>[]
 | x::r=>SV.ren π x::SV.renL π r
end
theorem SV.renL_map(π:Nat→Nat):∀vs:List SV,SV.renL π vs=vs.map (SV.ren π)
 | []=>rfl
 | x::r=>by rw[SV.renL,SV.renL_map π r];rfl
def ren0(π:Nat→Nat):SV→SV
 | .ptr l o=>.ptr (π l) o
 | .sl l z o n=>.sl (π l) z o n
 | .rp l z q o=>.rp (π l) z q o
 | .d x=>.d x
 | .fn f cs=>.fn f (SV.renL π cs)
 | .iref cs o=>.iref (SV.renL π cs) o
 | _=>.any
def ren1(π:Nat→Nat):SV→SV
 | .agg vs=>.agg (vs.map (ren0 π))
 | .ptr l o=>.ptr (π l) o
 | .sl l z o n=>.sl (π l) z o n
 | .rp l z q o=>.rp (π l) z q o
 | .d x=>.d x
 | .fn f cs=>.fn f (SV.renL π cs)
 | .iref cs o=>.iref (SV.renL π cs) o
 | _=>.any
def nS(π:Nat→Nat):SV→SV
 | .tup vs=>.tup (vs.map (ren1 π))
 | .agg vs=>.agg (vs.map (ren0 π))
 | .ptr l o=>.ptr (π l) o
 | .sl l z o n=>.sl (π l) z o n
 | .rp l z q o=>.rp (π l) z q o
 | .d x=>.d x
 | .fn f cs=>.fn f (SV.renL π cs)
 | .iref cs o=>.iref (SV.renL π cs) o
 | _=>.any
def bnd(π:Nat→Nat):Nat→Nat
 | 0=>0
 | m+1=>max (bnd π m) (π m+1)
theorem pU(π:Nat→Nat):∀{m l:Nat},l<m→π l<bnd π m
 | 0,l,h=>by omega
 | m+1,l,h=>by
  unfold bnd
  by_cases e:l=m
  ·subst e;omega
  ·have:=pU π (m:=m) (l:=l) (by omega);omega
theorem pV(π:Nat→Nat){k:Nat}:∀{m:Nat},(∀l,l<m→π l<k)→bnd π m≤k
 | 0,h=>Nat.zero_le _
 | m+1,h=>by
  unfold bnd
  have h1:=pV π (k:=k) (m:=m) fun l hl=>h l (by omega)
  have h2:=h m (by omega)
  omega
theorem SV.Lt.ren{π:Nat→Nat}{m:Nat}{x:SV}(h:SV.Lt m x):SV.Lt (bnd π m) (SV.ren π x):=by
 induction h with
 | any=>unfold SV.ren;exact .any
 | d x=>unfold SV.ren;exact .d _
 | ptr l o h=>unfold SV.ren;exact .ptr _ _ (pU π h)
 | rp l z q o h=>unfold SV.ren;exact .rp _ _ _ _ (pU π h)
 | sl l z o n h=>unfold SV.ren;exact .sl _ _ _ _ (pU π h)
 | agg vs h ih=>unfold SV.ren;rw[SV.renL_map];exact .agg _ fun y hy=>by obtain⟨z,hz,rfl⟩:=List.mem_map.1 hy;exact ih z hz
 | tup vs h ih=>unfold SV.ren;rw[SV.renL_map];exact .tup _ fun y hy=>by obtain⟨z,hz,rfl⟩:=List.mem_map.1 hy;exact ih z hz
 | fn f vs h ih=>unfold SV.ren;rw[SV.renL_map];exact .fn _ _ fun y hy=>by obtain⟨z,hz,rfl⟩:=List.mem_map.1 hy;exact ih z hz
 | iref vs o h ih=>unfold SV.ren;rw[SV.renL_map];exact .iref _ _ fun y hy=>by obtain⟨z,hz,rfl⟩:=List.mem_map.1 hy;exact ih z hz
theorem iM{f:SV→SV}:∀{vs:List SV},(∀y∈vs,f y=y)→vs.map f=vs
 | [],_=>rfl
 | x::r,h=>by rw[List.map_cons,h x (by simp),iM fun y hy=>h y (by simp[hy])]
theorem SV.Lt.ren0{π:Nat→Nat}{m:Nat}{x:SV}(h:SV.Lt m x)(hm:m=0):SV.ren π x=x:=by
 induction h with
 | any=>unfold SV.ren;rfl
 | d x=>unfold SV.ren;rfl
 | ptr l o h=>omega
 | rp l z q o h=>omega
 | sl l z o n h=>omega
 | agg vs h ih=>unfold SV.ren;rw[SV.renL_map,iM ih]
 | tup vs h ih=>unfold SV.ren;rw[SV.renL_map,iM ih]
 | fn f vs h ih=>unfold SV.ren;rw[SV.renL_map,iM ih]
 | iref vs o h ih=>unfold SV.ren;rw[SV.renL_map,iM ih]
def oO(π:Nat→Nat):Blk→Blk
 | .cells cs=>.cells (cs.map (ren0 π))
 | .row e z n f=>.row e z n f
 | .cf m n g=>bif Nat.beq m 0 then .cf 0 n g else .cf (bnd π m) n fun j=>SV.ren π (g j)
 | .obj b m n p g=>.obj b (bnd π m) n p fun j=>SV.ren π (g j)
section
variable{E E':Env}{nx nx':Nat}{w:World}{π:Nat→Nat}
theorem SV.ren_ok(hρ:∀l,l<nx→E'.ρ (π l)=E.ρ l∧E'.κ (π l)=E.κ l)(hn:∀l,l<nx→π l<nx')(hI:∀b,E.Im b→E'.Im b){x:SV}{v:Value}(h:RS E nx w x v):RS E' nx' w (SV.ren π x) v:=by
 induction h with
 | any=>unfold SV.ren;exact .any _
 | d x v h=>unfold SV.ren;exact .d _ _ (h.mono hI fun _ _=>rfl)
 | ptr l o hl=>unfold SV.ren;rw[← (hρ l hl).1];exact .ptr _ _ (hn l hl)
 | rp l z q o hl=>unfold SV.ren;rw[← (hρ l hl).1];exact .rp _ _ _ _ (hn l hl)
 | sl l z o n ad cap hl hc hm ha h0 =>
  unfold SV.ren
  exact .sl _ _ _ _ _ _ (hn l hl) hc hm (by rw[(hρ l hl).1];exact ha) (by rw[(hρ l hl).1,(hρ l hl).2];exact h0)
 | agg vs us hs h1 h ih=>unfold SV.ren;rw[SV.renL_map];exact .agg _ _ (by simpa using hs) h1 fun j hj=>by rw[List.getElem_map];exact ih j (by simpa using hj)
 | tup vs us hs h ih=>unfold SV.ren;rw[SV.renL_map];exact .tup _ _ (by simpa using hs) fun j hj=>by rw[List.getElem_map];exact ih j (by simpa using hj)
 | fn f vs us hs h ih=>unfold SV.ren;rw[SV.renL_map];exact .fn _ _ _ (by simpa using hs) fun j hj=>by rw[List.getElem_map];exact ih j (by simpa using hj)
 | iref cs off b o g hb hcell h1 h ih =>
  unfold SV.ren;rw[SV.renL_map]
  exact .iref _ _ b o g (hI _ hb) (fun j hj=>hcell j (by simpa using hj)) (fun j hj=>h1 j (by simpa using hj)) fun j hj=>by rw[List.getElem_map];exact ih j (by simpa using hj)
theorem bA(hρ:∀l,l<nx→E'.ρ (π l)=E.ρ l∧E'.κ (π l)=E.κ l)(hn:∀l,l<nx→π l<nx')(hI:∀b,E.Im b→E'.Im b){x:SV}{v:Value}(h:RS E nx w x v):RS E' nx' w (ren0 π x) v:=by
 cases h with
 | any=>exact .any _
 | d x v h=>exact .d _ _ (h.mono hI fun _ _=>rfl)
 | ptr l o hl=>simp only[ren0];rw[← (hρ l hl).1];exact .ptr _ _ (hn l hl)
 | rp l z q o hl=>simp only[ren0];rw[← (hρ l hl).1];exact .rp _ _ _ _ (hn l hl)
 | sl l z o n ad cap hl hc hm ha h0 =>
  exact .sl _ _ _ _ _ _ (hn l hl) hc hm (by rw[(hρ l hl).1];exact ha) (by rw[(hρ l hl).1,(hρ l hl).2];exact h0)
 | fn f cs us hs hh=>have:=SV.ren_ok hρ hn hI (RS.fn f cs us hs hh);unfold SV.ren at this;exact this
 | iref cs off b o g hb hcell h1 hh=>have:=SV.ren_ok hρ hn hI (RS.iref cs off b o g hb hcell h1 hh);unfold SV.ren at this;exact this
 | _=>exact .any _
theorem rY(hρ:∀l,l<nx→E'.ρ (π l)=E.ρ l∧E'.κ (π l)=E.κ l)(hn:∀l,l<nx→π l<nx')(hI:∀b,E.Im b→E'.Im b){x:SV}{v:Value}(h:RS E nx w x v):RS E' nx' w (ren1 π x) v:=by
 cases x with
 | agg vs =>
  cases h with
  | agg _ us hs h1 hh=>exact .agg _ _ (by simpa using hs) h1 fun j hj=>by rw[List.getElem_map];exact bA hρ hn hI (hh j (by simpa using hj))
 | tup=>exact .any _
 | any=>exact .any _
 | fn=>exact bA hρ hn hI h
 | iref=>exact bA hρ hn hI h
 | d x=>exact bA hρ hn hI h
 | ptr l o=>exact bA hρ hn hI h
 | rp l z q o=>exact bA hρ hn hI h
 | sl l z o n=>exact bA hρ hn hI h
theorem rW(hρ:∀l,l<nx→E'.ρ (π l)=E.ρ l∧E'.κ (π l)=E.κ l)(hn:∀l,l<nx→π l<nx')(hI:∀b,E.Im b→E'.Im b){x:SV}{v:Value}(h:RS E nx w x v):RS E' nx' w (nS π x) v:=by
 cases x with
 | tup vs =>
  cases h with
  | tup _ us hs hh=>exact .tup _ _ (by simpa using hs) fun j hj=>by rw[List.getElem_map];exact rY hρ hn hI (hh j (by simpa using hj))
 | agg vs=>exact rY hρ hn hI h
 | any=>exact .any _
 | fn=>exact bA hρ hn hI h
 | iref=>exact bA hρ hn hI h
 | d x=>exact bA hρ hn hI h
 | ptr l o=>exact bA hρ hn hI h
 | rp l z q o=>exact bA hρ hn hI h
 | sl l z o n=>exact bA hρ hn hI h
theorem ld(hρ:∀l,l<nx→E'.ρ (π l)=E.ρ l∧E'.κ (π l)=E.κ l)(hn:∀l,l<nx→π l<nx')(hI:∀b,E.Im b→E'.Im b){l:Nat}{b:Blk}(hl:l<nx)(h:BS E nx w l b):BS E' nx' w (π l) (oO π b):=by
 cases b with
 | cells cs =>
  obtain⟨vs,T,h1,h2,h3⟩:=h
  refine⟨vs,T,by rw[(hρ l hl).1];exact h1,by simpa using h2,fun j hj=>?_⟩
  have hj':j<cs.length:=by simpa using hj
  rw[List.getElem_map]
  exact⟨bA hρ hn hI (h3 j hj').1,(h3 j hj').2⟩
 | row e z n f =>
  obtain⟨h1,h2,h3,h4,h5⟩:=h
  refine⟨by rw[(hρ l hl).2];exact h1,by rw[(hρ l hl).2];exact h2,h3,h4,?_⟩
  rw[(hρ l hl).1,(hρ l hl).2]
  intro hk
  obtain⟨vs,g1,g2,g3,g4⟩:=h5 hk
  exact⟨vs,g1,g2,g3,fun i j hi hj=>(g4 i j hi hj).mono hI fun _ _=>rfl⟩
 | cf m n g =>
  obtain⟨h0,hh⟩:=h
  cases hm:Nat.beq m 0 with
  | true =>
   have hm0:=Q2 hm
   subst hm0
   refine⟨Nat.zero_le _,fun hp=>?_⟩
   obtain⟨vs,T,h1,h2,h3⟩:=hh hp
   refine⟨vs,T,by rw[(hρ l hl).1];exact h1,h2,fun j hj=>⟨(h3 j hj).1,?_,(h3 j hj).2.2⟩⟩
   have:=SV.ren_ok hρ hn hI (h3 j hj).2.1
   rwa [(h3 j hj).1.ren0 rfl]at this
  | false =>
  have e9:oO π (.cf m n g)=.cf (bnd π m) n fun j=>SV.ren π (g j):=by show(bif Nat.beq m 0 then _ else _)=_;rw[hm];rfl
  rw[e9]
  refine⟨pV π fun l hl=>hn l (by omega),fun hp=>?_⟩
  obtain⟨vs,T,h1,h2,h3⟩:=hh hp
  refine⟨vs,T,by rw[(hρ l hl).1];exact h1,h2,fun j hj=>⟨(h3 j hj).1.ren,SV.ren_ok hρ hn hI (h3 j hj).2.1,(h3 j hj).2.2⟩⟩
 | obj c m n p g =>
  obtain⟨e0,h0,o,u,h1,h2,h3⟩:=h
  exact⟨by rw[(hρ l hl).1];exact e0,pV π fun l hl=>hn l (by omega),o,u,by rw[(hρ l hl).1];exact h1,h2,fun j hj=>⟨(h3 j hj).1.ren,SV.ren_ok hρ hn hI (h3 j hj).2.1,(h3 j hj).2.2⟩⟩
end
theorem bp(π:Nat→Nat)(b:Blk)(κ:Nat):(oO π b).real κ↔b.real κ:=by
 cases b with
 | cf m n g =>
  show(bif Nat.beq m 0 then Blk.cf 0 n g else .cf (bnd π m) n fun j=>SV.ren π (g j)).real κ↔_
  cases Nat.beq m 0<;>exact Iff.rfl
 | _=>exact Iff.rfl
theorem ae.free{L:List Nat}{x x0:SV}(h:SV.Le x x0)(hf:x0.free=true):ae L x x0:=⟨fun E _ _ _ hv=>RS.free (E:=E) (E':=⟨fun i=>E.ρ (L.getD i 0),fun i=>E.κ (L.getD i 0),E.Im⟩) _root_.rfl hf (h.out _ _ _ _ hv)⟩
theorem ae.rfl{L:List Nat}{x:SV}(hf:x.free=true):ae L x x:=.free (.rfl x) hf
theorem ae.ptr{L:List Nat}{l o i:Nat}(hi:kf L l=some i):ae L (.ptr l o) (.ptr i o):=by
 obtain⟨h1,h2⟩:=bD hi
 refine⟨fun E nx w v hv=>?_⟩
 cases hv with
 | ptr _ _ hl =>
  have:=RS.ptr (E:=⟨fun i=>E.ρ (L.getD i 0),fun i=>E.κ (L.getD i 0),E.Im⟩) (nx:=L.length) (w:=w) i o h1
  simp only[h2]at this;exact this
theorem ae.sl{L:List Nat}{l z o n i:Nat}(hi:kf L l=some i):ae L (.sl l z o n) (.sl i z o n):=by
 obtain⟨h1,h2⟩:=bD hi
 refine⟨fun E nx w v hv=>?_⟩
 cases hv with
 | sl _ _ _ _ ad cap hl hc hm ha h0=>exact .sl _ _ _ _ _ _ h1 hc hm (by simp only[h2];exact ha) (by simp only[h2];exact h0)
def mj(L:List Nat):Option Blk→Blk→Prop
 | some (.cells cs),.cells cs'=>bn L cs cs'
 | some (.row e z n f),.row e' z' n' f'=>(e=e'∧z=z'∧n=n')∧∀i,i<n→f i=f' i
 | ob,.cf m n g=>cfLe L ob (.cf m n g)
 | _,_=>False
def aW(hp:List (Nat×Option Blk))(L:List Nat):List (Nat×Option Blk)→Prop
 | []=>True
 | (_,none)::r=>aW hp L r
 | (i,some b)::r=>bif Nat.blt i L.length then mj L (lkh hp (L.getD i 0)) b∧aW hp L r else False
theorem aW.out{hp:List (Nat×Option Blk)}{L:List Nat}:∀{H:List (Nat×Option Blk)},aW hp L H→∀i b,lkh H i=some b→i<L.length∧mj L (lkh hp (L.getD i 0)) b
 | [],_,i,b,h=>by simp[lkh]at h
 | (j,none)::r,hk,i,b,h=>aW.out (H:=r) hk i b (aG h).2
 | (j,some b')::r,hk,i,b,h=>by
  unfold aW at hk
  cases hb:Nat.blt j L.length with
  | false=>simp[hb]at hk
  | true =>
   simp only[hb,cond_true]at hk
   rw[ah]at h
   by_cases e:j=i
   ·subst e;rw[if_pos rfl]at h;cases h;exact⟨by simpa using hb,hk.1⟩
   ·rw[if_neg e]at h;exact aW.out hk.2 i b h
def πf(L:List Nat)(nx i:Nat):Nat:=bif Nat.blt i L.length then L.getD i 0 else nx+(i-L.length)
def bg(π:Nat→Nat)(hp:List (Nat×Option Blk)):List (Nat×Option Blk)→List (Nat×Option Blk)
 | []=>hp
 | (i,ob)::r=>(π i,ob.map (oO π))::bg π hp r
theorem fV{π:Nat→Nat}{hp:List (Nat×Option Blk)}:∀{H:List (Nat×Option Blk)},(∀i j,(∃o,(i,o)∈H)→(∃o,(j,o)∈H)→π i=π j→i=j)→∀l x,lkh (bg π hp H) l=some x →
  (∃i b,l=π i∧(∃o,(i,o)∈H)∧lkh H i=some b∧x=oO π b)∨((∀i,(∃o,(i,o)∈H)→l≠π i)∧lkh hp l=some x)
 | [],_,l,x,h=>Or.inr ⟨fun i hi=>by obtain⟨o,ho⟩:=hi;simp at ho,h⟩
 | (j,ob)::r,hinj,l,x,h=>by
  unfold bg at h
  rw[ah]at h
  by_cases e:π j=l
  ·rw[if_pos e]at h
   cases ob with
   | none=>simp at h
   | some b=>simp at h;exact Or.inl ⟨j,b,e.symm,⟨some b,by simp⟩,by rw[ah,if_pos rfl],h.symm⟩
  ·rw[if_neg e]at h
   rcases fV (H:=r) (fun i j ⟨o,hi⟩ ⟨o',hj⟩=>hinj i j ⟨o,by simp[hi]⟩ ⟨o',by simp[hj]⟩) l x h with⟨i,b,h1,⟨o,h2⟩,h3,h4⟩|⟨h1,h2⟩
   ·refine Or.inl ⟨i,b,h1,⟨o,by simp[h2]⟩,?_,h4⟩
    rw[ah,if_neg (fun k=>e (by rw[k,← h1]))];exact h3
   ·refine Or.inr ⟨fun i ⟨o,hi⟩=>?_,h2⟩
    rcases Q22 hi with hi|hi
    ·cases hi;exact fun k=>e k.symm
    ·exact h1 i ⟨o,hi⟩
def dP(H:List (Nat×Option Blk))(m:Nat):Bool:=(List.range m).all fun i=>H.any fun p=>Nat.beq p.1 i
def cG(H:List (Nat×Option Blk))(m:Nat):Bool:=H.all fun p=>Nat.blt p.1 m
def dO(H:List (Nat×Option Blk))(m:Nat):Bool:=(List.range m).all fun i=>(lkh H i).isSome
theorem ab.fun {C:Cx} {S:St} {g:Nat} {args:List SV} {k:St→SV→Prop} {m m':Nat} {args0:List SV} {H H':List (Nat×Option Blk)} {r:SV} (h:Fun C g m args0 H m' r H') (L:List Nat) (hlen:L.length=m) (hd:bq L=true) (hlive:dO H m=true) (hkeys:dP H' m=true) (hlt:cG H' m'=true)
    (ha:bn L args args0) (hh:aW S.hp L H) (hk:k ⟨S.nt,S.nx+(m'-m),S.fr,bg (πf L S.nx) S.hp H'⟩ (nS (πf L S.nx) r)):ab C S g args k:=by
  subst hlen
  refine⟨h.ent,fun O E a w vs hs hsz hargs=>?_⟩
  obtain⟨ha1,ha2⟩:=ha.out
  let Ec:Env:=⟨fun i=>E.ρ (L.getD i 0),fun i=>E.κ (L.getD i 0),E.Im⟩
  have hblk:∀i b,lkh H i=some b→i<L.length∧(∃b0,lkh S.hp (L.getD i 0)=some b0∧(b.real (E.κ (L.getD i 0))→b0.real (E.κ (L.getD i 0))))∧BS Ec L.length w i b:=by
    intro i b hb
    obtain⟨g1,g2⟩:=hh.out i b hb
    unfold mj at g2
    split at g2
    · rename_i cs cs' hl
      refine⟨g1,⟨_,hl,fun _=>trivial⟩,?_⟩
      obtain⟨us,T,k1,k2,k3⟩:=hs.hp _ _ hl
      obtain⟨p1,p2⟩:=g2.out
      refine⟨us,T,k1,by omega,fun j hj=>?_⟩
      obtain⟨z,q1,q2⟩:=p2 j _ (Q0 hj)
      obtain⟨q3,q4⟩:=Q3 q1
      have:=k3 j q3
      rw[q4]at this
      exact⟨q2.out _ _ _ _ this.1,this.2⟩
    · rename_i e z n f e' z' n' f' hl
      obtain⟨⟨rfl,rfl,rfl⟩,g3⟩:=g2
      refine⟨g1,⟨_,hl,fun h=>h⟩,?_⟩
      obtain⟨k1,k2,k3,k4,k5⟩:=hs.hp _ _ hl
      refine⟨k1,k2,k3,fun i hi=>by rw[← g3 i hi];exact k4 i hi,fun hk=>?_⟩
      obtain⟨us,q1,q2,q3,q4⟩:=k5 hk
      refine⟨us,q1,q2,q3,fun i j hi hj=>?_⟩
      have key:∀c:List D,c=f i→∀hj':j<c.length,RD w E.Im c[j] (us.getD (i*z+j) undef):=by
        intro c hc hj';subst hc;exact q4 i j hi hj'
      exact key _ (g3 i hi).symm hj
    · obtain⟨⟨b0,q1,q2⟩,q3⟩:=g2.bs rfl fun x hx=>hs.hp _ x hx
      exact⟨g1,⟨b0,q1,fun hr=>q2 _ _ hr⟩,q3⟩
    ·exact g2.elim
  have hS:mn Ec L.length H w:=by
    refine⟨fun i b hb=>(hblk i b hb).2.2,fun i b hb=>(hblk i b hb).1,fun i j b b' hi hj hr hr' hne=>?_,fun b hb=>⟨(hs.im b hb).1,fun i z hz hzr=>?_⟩⟩
    · obtain⟨g1,⟨b0,g2,g3⟩,_⟩:=hblk i b hi
      obtain⟨g4,⟨b1,g5,g6⟩,_⟩:=hblk j b' hj
      exact hs.inj _ _ _ _ g2 g5 (g3 hr) (g6 hr') (ca hd g1 g4 hne)
    · obtain⟨g1,⟨b0,g2,g3⟩,_⟩:=hblk i z hz
      exact(hs.im b hb).2.2 _ _ g2 (g3 hzr)
  have hLlt:∀i,i<L.length→L.getD i 0<S.nx:=fun i hi=>by
    have:=hlive
    unfold dO at this
    rw[Q23]at this
    obtain⟨b,hb⟩:=Option.isSome_iff_exists.1 (this i (by simpa using hi))
    obtain⟨_,⟨b0,g2,_⟩,_⟩:=hblk i b hb
    exact hs.nx _ _ g2
  refine(h.out Ec w vs hS (by omega) fun j hj=>?_).mono ?_
  · obtain⟨z,q1,q2⟩:=ha2 j _ (Q0 hj)
    obtain⟨q3,q4⟩:=Q3 q1
    have:=hargs j q3
    rw[q4]at this
    exact q2.out _ _ _ _ this
  rintro e w' ⟨v,E',rfl,hkq,hlab,hS',hnew,him,himo,hv⟩
  let π:=πf L S.nx
  have hπ1:∀i,i<L.length→π i=L.getD i 0:=fun i hi=>by
    show(bif Nat.blt i L.length then L.getD i 0 else S.nx+(i-L.length))=_
    have hb:Nat.blt i L.length=true:=by simpa using hi
    rw[hb];rfl
  have hπ2:∀i,L.length≤i→π i=S.nx+(i-L.length):=fun i hi=>by
    show(bif Nat.blt i L.length then L.getD i 0 else S.nx+(i-L.length))=_
    cases hb:Nat.blt i L.length with
    | true => have:i<L.length:=by simpa using hb
              omega
    | false=>rfl
  have hle:=h.le
  let E2:Env:=⟨fun l=>if l<S.nx then E.ρ l else E'.ρ (l-S.nx+L.length),fun l=>if l<S.nx then E.κ l else E'.κ (l-S.nx+L.length),fun b=>E.Im b∨E'.Im b⟩
  have hE2:∀l,l<S.nx→E2.ρ l=E.ρ l∧E2.κ l=E.κ l:=fun l hl=>⟨by simp only[E2];rw[if_pos hl],by simp only[E2];rw[if_pos hl]⟩
  have hEπ:∀i,i<m'→E2.ρ (π i)=E'.ρ i∧E2.κ (π i)=E'.κ i:=fun i hi=>by
    by_cases hlt:i<L.length
    · rw[hπ1 i hlt,(hE2 _ (hLlt i hlt)).1,(hE2 _ (hLlt i hlt)).2]
      obtain⟨p1,p2⟩:=hlab i hlt
      exact⟨p1.symm,p2.symm⟩
    · rw[hπ2 i (by omega)]
      have e1:S.nx+(i-L.length)-S.nx+L.length=i:=by omega
      refine⟨by simp only[E2];rw[if_neg (by omega),e1],by simp only[E2];rw[if_neg (by omega),e1]⟩
  have hπlt:∀i,i<m'→π i<S.nx+(m'-L.length):=fun i hi=>by
    by_cases hlt:i<L.length
    ·rw[hπ1 i hlt];have:=hLlt i hlt;omega
    ·rw[hπ2 i (by omega)];omega
  have hπinj:∀i j,π i=π j→i=j:=fun i j hij=>by
    by_cases hi:i<L.length<;>by_cases hj:j<L.length
    · rw[hπ1 i hi,hπ1 j hj]at hij
      exact Classical.byContradiction fun hne=>ca hd hi hj hne hij
    ·rw[hπ1 i hi,hπ2 j (by omega)]at hij;have:=hLlt i hi;omega
    ·rw[hπ1 j hj,hπ2 i (by omega)]at hij;have:=hLlt j hj;omega
    ·rw[hπ2 i (by omega),hπ2 j (by omega)]at hij;omega
  have hHB:∀b,HB Ec H b→∃i b0,i<L.length∧lkh S.hp (L.getD i 0)=some b0∧b0.real (E.κ (L.getD i 0))∧E.ρ (L.getD i 0)=b:=by
    rintro b ⟨i,z,hz,hzr,rfl⟩
    obtain⟨g1,⟨b0,g2,g3⟩,_⟩:=hblk i z hz
    exact⟨i,b0,g1,g2,g3 hzr,rfl⟩
  have hwi:∀b,E.Im b→w'.heap[b]?=w.heap[b]?:=fun b hb=>hkq.block b (hs.im b hb).1 (fun hx=>by
    obtain⟨i,b0,_,g2,g3,g4⟩:=hHB b hx
    exact(hs.im b hb).2.2 _ _ g2 g3 g4)
  have hsize:=hkq.size
  have hlook:∀l x,lkh (bg π S.hp H') l=some x→(∃i b,l=π i∧i<m'∧lkh H' i=some b∧x=oO π b)∨((∀i,i<L.length→l≠L.getD i 0)∧l<S.nx∧lkh S.hp l=some x):=by
    intro l x hx
    rcases fV (fun i j _ _=>hπinj i j) l x hx with⟨i,b,h1,_,h3,h4⟩|⟨h1,h2⟩
    ·exact Or.inl ⟨i,b,h1,hS'.nx i b h3,h3,h4⟩
    · refine Or.inr ⟨fun i hi=>?_,hs.nx l x h2,h2⟩
      unfold dP at hkeys
      rw[Q23]at hkeys
      have:=hkeys i (by simpa using hi)
      rw[List.any_eq_true]at this
      obtain⟨p,hp1,hp2⟩:=this
      have hp3:=Q2 hp2
      obtain⟨p1,p2⟩:=p
      simp only at hp3
      subst hp3
      rw[← hπ1 _ hi]
      exact h1 _ ⟨p2,hp1⟩
  have hold:∀l x,lkh S.hp l=some x→x.real (E.κ l)→(∀i,i<L.length→l≠L.getD i 0)→¬HB Ec H (E.ρ l):=by
    intro l x hl hr hne hx
    obtain⟨i,b0,g1,g2,g3,g4⟩:=hHB _ hx
    exact hs.inj l _ x b0 hl g2 hr g3 (hne i g1) g4.symm
  have hpost:∀i b,i<m'→lkh H' i=some b→(oO π b).real (E2.κ (π i))→HB E' H' (E2.ρ (π i)):=by
    intro i b hi hb hr
    rw[(hEπ i hi).1]
    rw[bp,(hEπ i hi).2]at hr
    exact⟨i,b,hb,hr,rfl⟩
  have hpostown:∀b,HB E' H' b→(∃i b0,i<L.length∧lkh S.hp (L.getD i 0)=some b0∧b0.real (E.κ (L.getD i 0))∧E.ρ (L.getD i 0)=b)∨w.heap.size≤b:=by
    intro b hb
    rcases hnew b hb with h9|h9
    ·exact Or.inl (hHB b h9)
    ·exact Or.inr h9
  have hw0:=hs.kq.size
  refine⟨v,E2,⟨S.nt,S.nx+(m'-L.length),S.fr,bg π S.hp H'⟩,nS π r,rfl,hk,?_,?_⟩
  · refine⟨fun n=>(hs.fr n).mono hE2 (by simp) (fun b hb=>Or.inl hb) hwi,hs.nt,hs.df,?_,?_,?_,?_,?_,?_,?_,by have:=hs.nl;simp only;omega,fun b hb=>Or.inl (hs.imo b hb)⟩
    · intro l x hx
      rcases hlook l x hx with⟨i,b,rfl,hi,hb,rfl⟩|⟨hne,hlx,hl⟩
      ·exact ld (E:=E') (E':=E2) (nx:=m') (fun l hl=>hEπ l hl) (fun l hl=>hπlt l hl) (fun b hb=>Or.inr hb) hi (hS'.hp i b hb)
      ·exact(hs.hp l x hl).mono hlx hE2 (by simp) (fun b hb=>Or.inl hb) hwi (fun hr=>hkq.block _ ((hs.hp l x hl).lt hr) (hold l x hl hr hne))
    · intro l x hx
      rcases hlook l x hx with⟨i,b,rfl,hi,hb,rfl⟩|⟨hne,hlx,hl⟩
      ·exact hπlt i hi
      ·simp only;omega
    · intro l l' x x' hx hx' hr hr' hne
      rcases hlook l x hx with⟨i,b,rfl,hi,hb,rfl⟩|⟨hn1,hlx,hl⟩<;>rcases hlook l' x' hx' with⟨j,b',rfl,hj,hb',rfl⟩|⟨hn2,hlx',hl'⟩
      · rw[(hEπ i hi).1,(hEπ j hj).1]
        rw[bp,(hEπ i hi).2]at hr
        rw[bp,(hEπ j hj).2]at hr'
        exact hS'.inj i j b b' hb hb' hr hr' (fun e=>hne (by rw[e]))
      · have h1:=hpostown _ (hpost i b hi hb hr)
        rw[(hE2 l' hlx').1]
        rw[(hE2 l' hlx').2]at hr'
        rcases h1 with⟨q,b0,g1,g2,g3,g4⟩|h1
        ·rw[← g4];exact hs.inj _ _ _ _ g2 hl' g3 hr' (fun e=>hn2 q g1 e.symm)
        ·have:=(hs.hp l' x' hl').lt hr';omega
      · have h1:=hpostown _ (hpost j b' hj hb' hr')
        rw[(hE2 l hlx).1]
        rw[(hE2 l hlx).2]at hr
        rcases h1 with⟨q,b0,g1,g2,g3,g4⟩|h1
        ·rw[← g4];exact hs.inj _ _ _ _ hl g2 hr g3 (hn1 q g1)
        ·have:=(hs.hp l x hl).lt hr;omega
      · rw[(hE2 l hlx).1,(hE2 l' hlx').1]
        rw[(hE2 l hlx).2]at hr
        rw[(hE2 l' hlx').2]at hr'
        exact hs.inj l l' x x' hl hl' hr hr' hne
    · rintro b (hb|hb)
      · obtain⟨k1,k2,k3⟩:=hs.im b hb
        refine⟨by omega,k2,fun l x hx hr=>?_⟩
        rcases hlook l x hx with⟨i,b',rfl,hi,hb',rfl⟩|⟨hne,hlx,hl⟩
        · rcases hpostown _ (hpost i b' hi hb' hr)with⟨q,b0,g1,g2,g3,g4⟩|h1
          ·rw[← g4];exact k3 _ _ g2 g3
          ·omega
        ·rw[(hE2 l hlx).1];rw[(hE2 l hlx).2]at hr;exact k3 l x hl hr
      · obtain⟨k1,k2⟩:=hS'.im b hb
        have hb3:=him b hb
        refine⟨k1,?_,fun l x hx hr=>?_⟩
        · rcases hb3 with h9|h9|h9
          ·exact(hs.im b h9).2.1
          · obtain⟨q,b0,g1,g2,g3,g4⟩:=hHB b h9
            rcases hs.own _ _ g2 g3 with h8|h8
            ·exact Or.inr (Or.inr (g4▸h8))
            ·exact Or.inl (by omega)
          ·exact Or.inl (by omega)
        · rcases hlook l x hx with⟨i,b',rfl,hi,hb',rfl⟩|⟨hne,hlx,hl⟩
          · rw[(hEπ i hi).1]
            rw[bp,(hEπ i hi).2]at hr
            exact k2 i b' hb' hr
          · rw[(hE2 l hlx).1]
            rw[(hE2 l hlx).2]at hr
            rcases hb3 with h9|h9|h9
            ·exact(hs.im b h9).2.2 l x hl hr
            ·intro e;exact hold l x hl hr hne (e▸h9)
            ·have:=(hs.hp l x hl).lt hr;omega
    · intro l x hx hr
      rcases hlook l x hx with⟨i,b,rfl,hi,hb,rfl⟩|⟨hne,hlx,hl⟩
      · rcases hpostown _ (hpost i b hi hb hr)with⟨q,b0,g1,g2,g3,g4⟩|h1
        ·rw[← g4];exact hs.own _ _ g2 g3
        ·exact Or.inr (by omega)
      ·rw[(hE2 l hlx).1];rw[(hE2 l hlx).2]at hr;exact hs.own l x hl hr
    ·exact hs.kq.trans' hkq fun b hb hlt=>by
        obtain⟨q,b0,g1,g2,g3,g4⟩:=hHB b hb
        rcases hs.own _ _ g2 g3 with h8|h8
        ·exact g4▸h8
        ·omega
    · intro l hl
      have:=hs.nl
      obtain⟨h1,h2⟩:=hE2 l (by omega)
      rw[h1,h2];exact hs.lab l hl
  ·exact rW (E:=E') (E':=E2) (nx:=m') (fun l hl=>hEπ l hl) (fun l hl=>hπlt l hl) (fun b hb=>Or.inr hb) hv
theorem ab.funM{C:Cx}{S:St}{g:Nat}{args:List SV}{k:St→SV→Prop}{m:Nat}{r:SV}(h:Fun C g m args [] m r [])(hlt:SV.ltB S.nx r=true)(hm:Nat.ble S.nx m=true)(hk:k S r):ab C S g args k:=by
 refine⟨h.ent,fun O E a w vs hs hsz hargs=>?_⟩
 have hm:=zzb hm
 have hH:∀b,¬HB E [] b:=by
  rintro b ⟨l,x,hl,_⟩;simp[lkh]at hl
 have hS:mn E m [] w:=⟨fun l b hl=>by simp[lkh]at hl,fun l b hl=>by simp[lkh]at hl,fun l l' b b' hl=>by simp[lkh]at hl,fun b hb=>⟨(hs.im b hb).1,fun l x hl=>by simp[lkh]at hl⟩⟩
 refine(h.out E w vs hS hsz fun j hj=>RS.mono (E:=E) (nx:=S.nx) (fun _ _=>⟨rfl,rfl⟩) hm (fun _ hb=>hb) (fun _ _=>rfl) (hargs j hj)).mono ?_
 rintro e w' ⟨v,E',rfl,hkq,hlab,hS',hnew,him,himo,hv⟩
 have hkp:Kp w w':=⟨hkq.os,hkq.tape,hkq.output,hkq.size,fun b hb=>hkq.block b hb (hH b)⟩
 refine⟨v,_,S,r,rfl,hk,hs.after hkp,RS.congr (E:=E') (m:=S.nx) (fun l hl=>⟨(hlab l (by omega)).1.symm,(hlab l (by omega)).2.symm⟩) (Q4 _) (fun b hb=>?_) (SV.Lt.of hlt) hv⟩
 rcases him b hb with h9|h9|h9
 ·exact Or.inl h9
 ·exact absurd h9 (hH b)
 ·exact Or.inr ⟨h9,(hS'.im b hb).1⟩
theorem Le.to{nt:NT}{nx:Nat}{fr fr':List (Nat×SV)}{hp hp':List (Nat×Option Blk)}{nx':Nat}(L:List Nat)(hlen:L.length=nx')(hd:bq L=true)(hm:nt.m≤nx')(hid:∀i,i<nt.m→L.getD i 0=i)
  (hfr:∀p∈fr',ae L (lk fr p.1) p.2) (hhp:aW hp L hp'):Le ⟨nt,nx,fr,hp⟩ ⟨nt,nx',fr',hp'⟩:=by
 subst hlen
 refine⟨fun O E a w hs=>?_⟩
 let E':Env:=⟨fun i=>E.ρ (L.getD i 0),fun i=>E.κ (L.getD i 0),E.Im⟩
 have hblk:∀i b,lkh hp' i=some b→i<L.length∧(∃b0,lkh hp (L.getD i 0)=some b0∧(b.real (E.κ (L.getD i 0))→b0.real (E.κ (L.getD i 0))))∧BS E' L.length w i b:=by
  intro i b hb
  obtain⟨g1,g2⟩:=hhp.out i b hb
  unfold mj at g2
  split at g2
  ·rename_i cs cs' hl
   refine⟨g1,⟨_,hl,fun _=>trivial⟩,?_⟩
   obtain⟨us,T,k1,k2,k3⟩:=hs.hp _ _ hl
   obtain⟨p1,p2⟩:=g2.out
   refine⟨us,T,k1,by omega,fun j hj=>?_⟩
   obtain⟨z,q1,q2⟩:=p2 j _ (Q0 hj)
   obtain⟨q3,q4⟩:=Q3 q1
   have:=k3 j q3
   rw[q4]at this
   exact⟨q2.out _ _ _ _ this.1,this.2⟩
  ·rename_i e z n f e' z' n' f' hl
   obtain⟨⟨rfl,rfl,rfl⟩,g3⟩:=g2
   refine⟨g1,⟨_,hl,fun h=>h⟩,?_⟩
   obtain⟨k1,k2,k3,k4,k5⟩:=hs.hp _ _ hl
   refine⟨k1,k2,k3,fun i hi=>by rw[← g3 i hi];exact k4 i hi,fun hk=>?_⟩
   obtain⟨us,q1,q2,q3,q4⟩:=k5 hk
   refine⟨us,q1,q2,q3,fun i j hi hj=>?_⟩
   have key:∀c:List D,c=f i→∀hj':j<c.length,RD w E.Im c[j] (us.getD (i*z+j) undef):=by
    intro c hc hj';subst hc;exact q4 i j hi hj'
   exact key _ (g3 i hi).symm hj
  ·obtain⟨⟨b0,q1,q2⟩,q3⟩:=g2.bs rfl fun x hx=>hs.hp _ x hx
   exact⟨g1,⟨b0,q1,fun hr=>q2 _ _ hr⟩,q3⟩
  ·exact g2.elim
 refine⟨E',⟨fun n=>?_,hs.nt,hs.df,fun i b hb=>(hblk i b hb).2.2,fun i b hb=>(hblk i b hb).1,fun i j b b' hi hj hr hr' hne=>?_,fun b hb=>⟨(hs.im b hb).1,(hs.im b hb).2.1,fun i z hz hzr=>?_⟩,fun i b hb hr=>?_,hs.kq,fun l hl=>?_,by rw[hs.nt.2];exact hm,hs.imo⟩⟩
 ·have key:∀l:List (Nat×SV),(∀p∈l,ae L (lk fr p.1) p.2)→RS E' L.length w (lk l n) (a.tmps.getD n undef):=by
   intro l
   induction l with
   | nil=>intro _;exact .any _
   | cons p l ih =>
    intro hl
    obtain⟨m,v⟩:=p
    rw[dl]
    by_cases e:m=n
    ·subst e;rw[if_pos rfl];exact(hl (m,v) (by simp)).out _ _ _ _ (hs.fr m)
    ·rw[if_neg e];exact ih fun p hp=>hl p (by simp[hp])
  exact key fr' hfr
 ·obtain⟨g1,⟨b0,g2,g3⟩,_⟩:=hblk i b hi
  obtain⟨g4,⟨b1,g5,g6⟩,_⟩:=hblk j b' hj
  exact hs.inj _ _ _ _ g2 g5 (g3 hr) (g6 hr') (ca hd g1 g4 hne)
 ·obtain⟨g1,⟨b0,g2,g3⟩,_⟩:=hblk i z hz
  exact(hs.im b hb).2.2 _ _ g2 (g3 hzr)
 ·obtain⟨g1,⟨b0,g2,g3⟩,_⟩:=hblk i b hb
  exact hs.own _ _ g2 (g3 hr)
 ·have h1:l<nt.m:=by have:=hs.nt.2;simp only at this;omega
  simp only[E']
  rw[hid l h1]
  exact hs.lab l hl
def slotK(L:List Nat)(fr:List (Nat×SV)):List (Nat×SV)→Prop
 | []=>True
 | (n,v)::r=>dD (lk fr n) (fun x=>ae L x v)∧slotK L fr r
theorem oK{L:List Nat}{fr:List (Nat×SV)}:∀{fr':List (Nat×SV)},slotK L fr fr'→∀p∈fr',ae L (lk fr p.1) p.2
 | [],_,p,hp=>by simp at hp
 | (n,v)::r,⟨h1,h2⟩,p,hp=>by
  rcases Q22 hp with rfl|hp
  ·exact bE (k:=fun x=>ae L x v) h1
  ·exact oK h2 p hp
def idP(L:List Nat)(m:Nat):Bool:=(List.range m).all fun i=>Nat.beq (L.getD i 0) i
theorem Le.by{nt:NT}{nx:Nat}{fr fr':List (Nat×SV)}{hp hp':List (Nat×Option Blk)}{nx':Nat}(L:List Nat)(hlen:L.length=nx')(hd:bq L=true)(hm:Nat.ble nt.m nx'=true)(hid:idP L nt.m=true)
  (hfr:slotK L fr fr') (hhp:aW hp L hp'):Le ⟨nt,nx,fr,hp⟩ ⟨nt,nx',fr',hp'⟩ :=
 .to L hlen hd (zzb hm) (fun i hi=>by unfold idP at hid;rw[Q23]at hid;exact Q2 (hid i (by simpa using hi))) (oK hfr) hhp
end
section
structure Fresh(S:St)(F:Nat→Prop)(nx':Nat):Prop where
 le:S.nx≤nx'
 fr:∀(E E':Env) (w:World),(∀m,¬F m→E'.ρ m=E.ρ m∧E'.κ m=E.κ m)→E'.Im=E.Im→∀n v,RS E S.nx w (lk S.fr n) v→RS E' S.nx w (lk S.fr n) v
 hp:∀m b,lkh S.hp m=some b→¬F m∧∀(E E':Env) (w:World),(∀m,¬F m→E'.ρ m=E.ρ m∧E'.κ m=E.κ m)→E'.Im=E.Im→BS E S.nx w m b→BS E' S.nx w m b
open Classical in
theorem callP{O:Org}{E:Env}{S:St}{a:Act}{w:World}(hs:Sat O E S a w){args:List SV}{m':Nat}{args0:List SV}{H H':List (Nat×Option Blk)}{r:SV}(L:List Nat){Pm:(Value→World→Prop)→Prop}(hmono:∀p q:Value→World→Prop,(∀v w',p v w'→q v w')→Pm p→Pm q)
  (vs:Array Value) (hle:L.length≤m') (h:∀Ec:Env,mn Ec L.length H w→(∀j (hj:j<args0.length),RS Ec L.length w args0[j] (vs.getD j undef))→Pm fun v w'=>∃E',Kq (HB Ec H) w w'∧(∀l,l<L.length→E'.ρ l=Ec.ρ l∧E'.κ l=Ec.κ l)∧mn E' m' H' w'∧(∀b,HB E' H' b→HB Ec H b∨w.heap.size≤b) ∧
   (∀b,E'.Im b→Ec.Im b∨HB Ec H b∨w.heap.size≤b)∧(∀b,Ec.Im b→E'.Im b)∧RS E' m' w' r v)
  (hd:bq L=true) (hlive:dO H L.length=true) (hkeys:dP H' L.length=true) (hlt:cG H' m'=true)
  (ha:bn L args args0) (hh:aW S.hp L H) {F:Nat→Prop} {nx':Nat} (hF:Fresh S F nx') (hFO:∀l,F l→O.nl≤l) (π:Nat→Nat) (hπ1:∀i,i<L.length→π i=L.getD i 0) (hπF:∀i,L.length≤i→i<m'→F (π i)∧π i<nx') (hπinj:∀i j,i<m'→j<m'→π i=π j→i=j)
  (hsz:vs.size=args.length) (hargs:∀j (hj:j<args.length),RS E S.nx w args[j] (vs.getD j undef)) :
  Pm fun v w'=>∃E',Sat O E' ⟨S.nt,nx',S.fr,bg π S.hp H'⟩ a w'∧RS E' nx' w' (nS π r) v:=by
 obtain⟨ha1,ha2⟩:=ha.out
 let Ec:Env:=⟨fun i=>E.ρ (L.getD i 0),fun i=>E.κ (L.getD i 0),E.Im⟩
 have hblk:∀i b,lkh H i=some b→i<L.length∧(∃b0,lkh S.hp (L.getD i 0)=some b0∧(b.real (E.κ (L.getD i 0))→b0.real (E.κ (L.getD i 0))))∧BS Ec L.length w i b:=by
  intro i b hb
  obtain⟨g1,g2⟩:=hh.out i b hb
  unfold mj at g2
  split at g2
  ·rename_i cs cs' hl
   refine⟨g1,⟨_,hl,fun _=>trivial⟩,?_⟩
   obtain⟨us,T,k1,k2,k3⟩:=hs.hp _ _ hl
   obtain⟨p1,p2⟩:=g2.out
   refine⟨us,T,k1,by omega,fun j hj=>?_⟩
   obtain⟨z,q1,q2⟩:=p2 j _ (Q0 hj)
   obtain⟨q3,q4⟩:=Q3 q1
   have:=k3 j q3
   rw[q4]at this
   exact⟨q2.out _ _ _ _ this.1,this.2⟩
  ·rename_i e z n f e' z' n' f' hl
   obtain⟨⟨rfl,rfl,rfl⟩,g3⟩:=g2
   refine⟨g1,⟨_,hl,fun h=>h⟩,?_⟩
   obtain⟨k1,k2,k3,k4,k5⟩:=hs.hp _ _ hl
   refine⟨k1,k2,k3,fun i hi=>by rw[← g3 i hi];exact k4 i hi,fun hk=>?_⟩
   obtain⟨us,q1,q2,q3,q4⟩:=k5 hk
   refine⟨us,q1,q2,q3,fun i j hi hj=>?_⟩
   have key:∀c:List D,c=f i→∀hj':j<c.length,RD w E.Im c[j] (us.getD (i*z+j) undef):=by
    intro c hc hj';subst hc;exact q4 i j hi hj'
   exact key _ (g3 i hi).symm hj
  ·obtain⟨⟨b0,q1,q2⟩,q3⟩:=g2.bs rfl fun x hx=>hs.hp _ x hx
   exact⟨g1,⟨b0,q1,fun hr=>q2 _ _ hr⟩,q3⟩
  ·exact g2.elim
 have hS:mn Ec L.length H w:=by
  refine⟨fun i b hb=>(hblk i b hb).2.2,fun i b hb=>(hblk i b hb).1,fun i j b b' hi hj hr hr' hne=>?_,fun b hb=>⟨(hs.im b hb).1,fun i z hz hzr=>?_⟩⟩
  ·obtain⟨g1,⟨b0,g2,g3⟩,_⟩:=hblk i b hi
   obtain⟨g4,⟨b1,g5,g6⟩,_⟩:=hblk j b' hj
   exact hs.inj _ _ _ _ g2 g5 (g3 hr) (g6 hr') (ca hd g1 g4 hne)
  ·obtain⟨g1,⟨b0,g2,g3⟩,_⟩:=hblk i z hz
   exact(hs.im b hb).2.2 _ _ g2 (g3 hzr)
 have hLlt:∀i,i<L.length→L.getD i 0<S.nx∧¬F (L.getD i 0):=fun i hi=>by
  have:=hlive
  unfold dO at this
  rw[Q23]at this
  obtain⟨b,hb⟩:=Option.isSome_iff_exists.1 (this i (by simpa using hi))
  obtain⟨_,⟨b0,g2,_⟩,_⟩:=hblk i b hb
  exact⟨hs.nx _ _ g2,(hF.hp _ _ g2).1⟩
 refine hmono _ _ ?_ (h Ec hS fun j hj=>?_)
 rotate_left
 ·obtain⟨z,q1,q2⟩:=ha2 j _ (Q0 hj)
  obtain⟨q3,q4⟩:=Q3 q1
  have:=hargs j q3
  rw[q4]at this
  exact q2.out _ _ _ _ this
 rintro v w' ⟨E',hkq,hlab,hS',hnew,him,himo,hv⟩
 let E2:Env:=⟨fun l=>if hx:∃i,L.length≤i∧i<m'∧π i=l then E'.ρ (Classical.choose hx)else E.ρ l,fun l=>if hx:∃i,L.length≤i∧i<m'∧π i=l then E'.κ (Classical.choose hx)else E.κ l,fun b=>E.Im b∨E'.Im b⟩
 have hE2:∀l,¬F l→E2.ρ l=E.ρ l∧E2.κ l=E.κ l:=fun l hl=>by
  have hno:¬∃i,L.length≤i∧i<m'∧π i=l:=fun⟨i,h1,h2,h3⟩=>hl (h3▸(hπF i h1 h2).1)
  exact⟨dif_neg hno,dif_neg hno⟩
 have hEπ:∀i,i<m'→E2.ρ (π i)=E'.ρ i∧E2.κ (π i)=E'.κ i:=fun i hi=>by
  by_cases hlt:i<L.length
  ·rw[hπ1 i hlt,(hE2 _ (hLlt i hlt).2).1,(hE2 _ (hLlt i hlt).2).2]
   obtain⟨p1,p2⟩:=hlab i hlt
   exact⟨p1.symm,p2.symm⟩
  ·have hx:∃j,L.length≤j∧j<m'∧π j=π i:=⟨i,by omega,hi,rfl⟩
   have hj:=Classical.choose_spec hx
   have e1:Classical.choose hx=i:=hπinj _ _ hj.2.1 hi hj.2.2
   refine⟨(dif_pos hx).trans (by rw[e1]),(dif_pos hx).trans (by rw[e1])⟩
 have hπlt:∀i,i<m'→π i<nx':=fun i hi=>by
  by_cases hlt:i<L.length
  ·rw[hπ1 i hlt];have:=(hLlt i hlt).1;have:=hF.le;omega
  ·exact(hπF i (by omega) hi).2
 have hkl:∀i,(∃o,(i,o)∈H')→i<m':=fun i ⟨o,ho⟩=>by
  unfold cG at hlt
  rw[Q23]at hlt
  simpa using hlt _ ho
 have hbfr:∀n v,RS E S.nx w (lk S.fr n) v→RS ⟨E2.ρ,E2.κ,E.Im⟩ S.nx w (lk S.fr n) v:=hF.fr E ⟨E2.ρ,E2.κ,E.Im⟩ w hE2 rfl
 have hbhp:∀l x,lkh S.hp l=some x→BS ⟨E2.ρ,E2.κ,E.Im⟩ S.nx w l x:=fun l x hl=>(hF.hp l x hl).2 E ⟨E2.ρ,E2.κ,E.Im⟩ w hE2 rfl (hs.hp l x hl)
 have hHB:∀b,HB Ec H b→∃i b0,i<L.length∧lkh S.hp (L.getD i 0)=some b0∧b0.real (E.κ (L.getD i 0))∧E.ρ (L.getD i 0)=b:=by
  rintro b ⟨i,z,hz,hzr,rfl⟩
  obtain⟨g1,⟨b0,g2,g3⟩,_⟩:=hblk i z hz
  exact⟨i,b0,g1,g2,g3 hzr,rfl⟩
 have hwi:∀b,E.Im b→w'.heap[b]?=w.heap[b]?:=fun b hb=>hkq.block b (hs.im b hb).1 (fun hx=>by
  obtain⟨i,b0,_,g2,g3,g4⟩:=hHB b hx
  exact(hs.im b hb).2.2 _ _ g2 g3 g4)
 have hsize:=hkq.size
 have hlook:∀l x,lkh (bg π S.hp H') l=some x→(∃i b,l=π i∧i<m'∧lkh H' i=some b∧x=oO π b)∨((∀i,i<L.length→l≠L.getD i 0)∧¬F l∧lkh S.hp l=some x):=by
  intro l x hx
  rcases fV (fun i j hi hj=>hπinj i j (hkl i hi) (hkl j hj)) l x hx with⟨i,b,h1,_,h3,h4⟩|⟨h1,h2⟩
  ·exact Or.inl ⟨i,b,h1,hS'.nx i b h3,h3,h4⟩
  ·refine Or.inr ⟨fun i hi=>?_,(hF.hp l x h2).1,h2⟩
   unfold dP at hkeys
   rw[Q23]at hkeys
   have:=hkeys i (by simpa using hi)
   rw[List.any_eq_true]at this
   obtain⟨p,hp1,hp2⟩:=this
   have hp3:=Q2 hp2
   obtain⟨p1,p2⟩:=p
   simp only at hp3
   subst hp3
   rw[← hπ1 _ hi]
   exact h1 _ ⟨p2,hp1⟩
 have hold:∀l x,lkh S.hp l=some x→x.real (E.κ l)→(∀i,i<L.length→l≠L.getD i 0)→¬HB Ec H (E.ρ l):=by
  intro l x hl hr hne hx
  obtain⟨i,b0,g1,g2,g3,g4⟩:=hHB _ hx
  exact hs.inj l _ x b0 hl g2 hr g3 (hne i g1) g4.symm
 have hpost:∀i b,i<m'→lkh H' i=some b→(oO π b).real (E2.κ (π i))→HB E' H' (E2.ρ (π i)):=by
  intro i b hi hb hr
  rw[(hEπ i hi).1]
  rw[bp,(hEπ i hi).2]at hr
  exact⟨i,b,hb,hr,rfl⟩
 have hpostown:∀b,HB E' H' b→(∃i b0,i<L.length∧lkh S.hp (L.getD i 0)=some b0∧b0.real (E.κ (L.getD i 0))∧E.ρ (L.getD i 0)=b)∨w.heap.size≤b:=by
  intro b hb
  rcases hnew b hb with h9|h9
  ·exact Or.inl (hHB b h9)
  ·exact Or.inr h9
 have hw0:=hs.kq.size
 refine⟨E2,?_,?_⟩
 ·refine⟨fun n=>RS.mono (E:=⟨E2.ρ,E2.κ,E.Im⟩) (fun _ _=>⟨rfl,rfl⟩) hF.le (fun b hb=>Or.inl hb) hwi (hbfr n _ (hs.fr n)),hs.nt,hs.df,?_,?_,?_,?_,?_,?_,?_,by have:=hs.nl;have:=hF.le;simp only;omega,fun b hb=>Or.inl (hs.imo b hb)⟩
  ·intro l x hx
   rcases hlook l x hx with⟨i,b,rfl,hi,hb,rfl⟩|⟨hne,hlx,hl⟩
   ·exact ld (E:=E') (E':=E2) (nx:=m') (fun l hl=>hEπ l hl) (fun l hl=>hπlt l hl) (fun b hb=>Or.inr hb) hi (hS'.hp i b hb)
   ·exact BS.mono (E:=⟨E2.ρ,E2.κ,E.Im⟩) (hs.nx l x hl) (fun _ _=>⟨rfl,rfl⟩) hF.le (fun b hb=>Or.inl hb) hwi (fun hr=>by simp only at hr⊢;rw[(hE2 l hlx).1];rw[(hE2 l hlx).2]at hr;exact hkq.block _ ((hs.hp l x hl).lt hr) (hold l x hl hr hne)) (hbhp l x hl)
  ·intro l x hx
   rcases hlook l x hx with⟨i,b,rfl,hi,hb,rfl⟩|⟨hne,hlx,hl⟩
   ·exact hπlt i hi
   ·have:=hs.nx l x hl;have:=hF.le;simp only;omega
  ·intro l l' x x' hx hx' hr hr' hne
   rcases hlook l x hx with⟨i,b,rfl,hi,hb,rfl⟩|⟨hn1,hlx,hl⟩<;>rcases hlook l' x' hx' with⟨j,b',rfl,hj,hb',rfl⟩|⟨hn2,hlx',hl'⟩
   ·rw[(hEπ i hi).1,(hEπ j hj).1]
    rw[bp,(hEπ i hi).2]at hr
    rw[bp,(hEπ j hj).2]at hr'
    exact hS'.inj i j b b' hb hb' hr hr' (fun e=>hne (by rw[e]))
   ·have h1:=hpostown _ (hpost i b hi hb hr)
    rw[(hE2 l' hlx').1]
    rw[(hE2 l' hlx').2]at hr'
    rcases h1 with⟨q,b0,g1,g2,g3,g4⟩|h1
    ·rw[← g4];exact hs.inj _ _ _ _ g2 hl' g3 hr' (fun e=>hn2 q g1 e.symm)
    ·have:=(hs.hp l' x' hl').lt hr';omega
   ·have h1:=hpostown _ (hpost j b' hj hb' hr')
    rw[(hE2 l hlx).1]
    rw[(hE2 l hlx).2]at hr
    rcases h1 with⟨q,b0,g1,g2,g3,g4⟩|h1
    ·rw[← g4];exact hs.inj _ _ _ _ hl g2 hr g3 (hn1 q g1)
    ·have:=(hs.hp l x hl).lt hr;omega
   ·rw[(hE2 l hlx).1,(hE2 l' hlx').1]
    rw[(hE2 l hlx).2]at hr
    rw[(hE2 l' hlx').2]at hr'
    exact hs.inj l l' x x' hl hl' hr hr' hne
  ·rintro b (hb|hb)
   ·obtain⟨k1,k2,k3⟩:=hs.im b hb
    refine⟨by omega,k2,fun l x hx hr=>?_⟩
    rcases hlook l x hx with⟨i,b',rfl,hi,hb',rfl⟩|⟨hne,hlx,hl⟩
    ·rcases hpostown _ (hpost i b' hi hb' hr)with⟨q,b0,g1,g2,g3,g4⟩|h1
     ·rw[← g4];exact k3 _ _ g2 g3
     ·omega
    ·rw[(hE2 l hlx).1];rw[(hE2 l hlx).2]at hr;exact k3 l x hl hr
   ·obtain⟨k1,k2⟩:=hS'.im b hb
    have hb3:=him b hb
    refine⟨k1,?_,fun l x hx hr=>?_⟩
    ·rcases hb3 with h9|h9|h9
     ·exact(hs.im b h9).2.1
     ·obtain⟨q,b0,g1,g2,g3,g4⟩:=hHB b h9
      rcases hs.own _ _ g2 g3 with h8|h8
      ·exact Or.inr (Or.inr (g4▸h8))
      ·exact Or.inl (by omega)
     ·exact Or.inl (by omega)
    ·rcases hlook l x hx with⟨i,b',rfl,hi,hb',rfl⟩|⟨hne,hlx,hl⟩
     ·rw[(hEπ i hi).1]
      rw[bp,(hEπ i hi).2]at hr
      exact k2 i b' hb' hr
     ·rw[(hE2 l hlx).1]
      rw[(hE2 l hlx).2]at hr
      rcases hb3 with h9|h9|h9
      ·exact(hs.im b h9).2.2 l x hl hr
      ·intro e;exact hold l x hl hr hne (e▸h9)
      ·have:=(hs.hp l x hl).lt hr;omega
  ·intro l x hx hr
   rcases hlook l x hx with⟨i,b,rfl,hi,hb,rfl⟩|⟨hne,hlx,hl⟩
   ·rcases hpostown _ (hpost i b hi hb hr)with⟨q,b0,g1,g2,g3,g4⟩|h1
    ·rw[← g4];exact hs.own _ _ g2 g3
    ·exact Or.inr (by omega)
   ·rw[(hE2 l hlx).1];rw[(hE2 l hlx).2]at hr;exact hs.own l x hl hr
  ·exact hs.kq.trans' hkq fun b hb hlt=>by
    obtain⟨q,b0,g1,g2,g3,g4⟩:=hHB b hb
    rcases hs.own _ _ g2 g3 with h8|h8
    ·exact g4▸h8
    ·omega
  ·intro l hl
   have:=hs.nl
   obtain⟨h1,h2⟩:=hE2 l (fun hf=>by have:=hFO l hf;omega)
   rw[h1,h2];exact hs.lab l hl
 ·exact rW (E:=E') (E':=E2) (nx:=m') (fun l hl=>hEπ l hl) (fun l hl=>hπlt l hl) (fun b hb=>Or.inr hb) hv
theorem Fun.callG{C:Cx}{O:Org}{E:Env}{S:St}{a:Act}{w:World}(hs:Sat O E S a w){g:Nat}{args:List SV}{m':Nat}{args0:List SV}{H H':List (Nat×Option Blk)}{r:SV}(L:List Nat)(h:Fun C g L.length args0 H m' r H')(hd:bq L=true)(hlive:dO H L.length=true)(hkeys:dP H' L.length=true)(hlt:cG H' m'=true)
  (ha:bn L args args0) (hh:aW S.hp L H) {F:Nat→Prop} {nx':Nat} (hF:Fresh S F nx') (hFO:∀l,F l→O.nl≤l) (π:Nat→Nat) (hπ1:∀i,i<L.length→π i=L.getD i 0) (hπF:∀i,L.length≤i→i<m'→F (π i)∧π i<nx') (hπinj:∀i j,i<m'→j<m'→π i=π j→i=j)
  (vs:Array Value) (hsz:vs.size=args.length) (hargs:∀j (hj:j<args.length),RS E S.nx w args[j] (vs.getD j undef)) :
  Calls C.P g vs w fun e w'=>∃v E',e=.returned v∧Sat O E' ⟨S.nt,nx',S.fr,bg π S.hp H'⟩ a w'∧RS E' nx' w' (nS π r) v:=by
 have:=callP hs L (Pm:=fun p=>Calls C.P g vs w fun e w'=>∃v,e=.returned v∧p v w') (m':=m') (H':=H') (r:=r) (args:=args) (args0:=args0) (fun p q hpq hc=>hc.mono fun e w' ⟨v,h1,h2⟩=>⟨v,h1,hpq v w' h2⟩) vs h.le
  (fun Ec hS hr=>(h.out Ec w vs hS (by rw[hsz];exact ha.out.1) hr).mono fun e w' ⟨v,E',h1,h2⟩=>⟨v,h1,E',h2⟩) hd hlive hkeys hlt ha hh hF hFO π hπ1 hπF hπinj hsz hargs
 exact this.mono fun e w' ⟨v,h1,E',h2⟩=>⟨v,E',h1,h2⟩
structure oE(C:Cx)(t m:Nat)(x y:SV)(H:List (Nat×Option Blk))(m':Nat)(r:SV)(H':List (Nat×Option Blk)):Prop where
 le:m≤m'
 out:∀(E:Env) (w:World) (ty:Nat) (u v:Value),mn E m H w→RS E m w x u→RS E m w y v→∃z w',(Builtin.append_ #[t,t] ty #[u,v]).run C.P w=.ok z w'∧∃E',Kq (HB E H) w w'∧(∀l,l<m→E'.ρ l=E.ρ l∧E'.κ l=E.κ l)∧mn E' m' H' w'∧(∀b,HB E' H' b→HB E H b∨w.heap.size≤b) ∧
   (∀b,E'.Im b→E.Im b∨HB E H b∨w.heap.size≤b)∧(∀b,E.Im b→E'.Im b)∧RS E' m' w' r z
theorem oE.of{C:Cx}{t m m':Nat}{x y r:SV}{H H':List (Nat×Option Blk)}(hmm:m≤m')(h:dY C ⟨⟨0,m⟩,m,[],H⟩ t x y fun S' r0=>af m S' r0 m' r H'):oE C t m x y H m' r H':=by
 refine⟨hmm,fun E w ty u v hS hu hv=>?_⟩
 let O:Org:=⟨w,HB E H,E.Im,m,E.ρ,E.κ⟩
 have hs:Sat O E ⟨⟨0,m⟩,m,[],H⟩ { tmps:=#[],defers:=[] } w :=
  ⟨fun n=>.any _,⟨rfl,rfl⟩,rfl,hS.hp,hS.nx,hS.inj,fun b hb=>⟨(hS.im b hb).1,Or.inr (Or.inl hb),(hS.im b hb).2⟩,fun l b hb hr=>Or.inl ⟨l,b,hb,hr,rfl⟩,Kq.refl _ _,fun l _=>⟨rfl,rfl⟩,Q4 _,fun b hb=>hb⟩
 obtain⟨z,w',E1,S',x1,h1,h2,hs',h4⟩:=kJ (ty:=ty) hs hu hv h
 obtain⟨E2,k1,k2,k3,k4,k5,k6⟩:=h2.out O E1 _ w' _ rfl hs' h4
 have hown:∀b,HB E1 S'.hp b→HB E H b∨w.heap.size≤b:=by
  rintro b ⟨l,x,hl,hr,rfl⟩
  exact hs'.own l x hl hr
 refine⟨z,w',h1,E2,hs'.kq,fun l hl=>?_,k1,fun b hb=>hown b (k3 b hb),fun b hb=>?_,fun b hb=>k5 b (hs'.imo b hb),k6⟩
 ·obtain⟨p1,p2⟩:=hs'.lab l hl
  obtain⟨p3,p4⟩:=k2 l hl
  exact⟨p3.trans p1,p4.trans p2⟩
 ·rcases k4 b hb with hb|hb
  ·obtain⟨q1,q2,-⟩:=hs'.im b hb
   rcases q2 with q2|q2|q2
   ·exact Or.inr (Or.inr q2)
   ·exact Or.inl q2
   ·exact Or.inr (Or.inl q2)
  ·exact Or.inr (hown b hb)
theorem oE.a{C:Cx}{t z n m e:Nat}{f g:Nat→List D}{i j:TI}(hi:C.tt t=some i)(hk:i.k=.slice e)(hj:C.tt e=some j)(hz:j.size=z)(hc:(Nat.blt 0 j.size&&Nat.blt 0 j.bytes&&Nat.beq j.zero.length j.size)=true)(hb:(n+m)*j.bytes≤140737488355328) :
  oE C t 1 (.sl 0 z 0 n) (.d (.sl z m g)) [(0,some (.row e z n f))] 2 (.sl 1 z 0 (n+m)) [(0,none),(1,some (.row e z (n+m) (bu n f g)))]:=by
 subst hz
 refine .of (by omega) ?_
 have hr:∀q,Nat.beq q q=true:=fun q=>by simp
 simp only[dY,hi,hk,hj,hc,cond_true,qA,js,ah,if_true,hr,Bool.and_self,true_and]
 refine⟨hb,af.of [0,1] rfl (fun i hi=>by obtain rfl:i=0:=(by omega);rfl) rfl ?_ ?_⟩
 ·exact .rfl _
 ·exact⟨⟨⟨rfl,rfl,rfl⟩,fun i hi=>rfl⟩,trivial⟩
theorem oE.b{C:Cx}{t z n m e o m2 e2:Nat}{f f2:Nat→List D}{i j:TI}(hi:C.tt t=some i)(hk:i.k=.slice e)(hj:C.tt e=some j)(hz:j.size=z)(hc:(Nat.blt 0 j.size&&Nat.blt 0 j.bytes&&Nat.beq j.zero.length j.size)=true)(hb:(n+m)*j.bytes≤140737488355328)(ho:o+m≤m2) :
  oE C t 2 (.sl 0 z 0 n) (.sl 1 z o m) [(0,some (.row e z n f)),(1,some (.row e2 z m2 f2))] 3 (.sl 2 z 0 (n+m)) [(0,none),(1,some (.row e2 z m2 f2)),(2,some (.row e z (n+m) (bu n f fun i=>f2 (o+i))))]:=by
 subst hz
 refine .of (by omega) ?_
 have hr:∀q,Nat.beq q q=true:=fun q=>by simp
 have e1:(0:Nat)≠1:=by omega
 simp only[dY,hi,hk,hj,hc,cond_true,qA,js,ah,if_true,if_neg e1,hr,Bool.and_self,true_and]
 refine⟨ho,hb,af.of [0,1,2] rfl (fun i hi=>by have:i=0∨i=1:=(by omega);rcases this with h|h<;>subst h<;>rfl) rfl ?_ ?_⟩
 ·exact .rfl _
 ·exact⟨⟨⟨rfl,rfl,rfl⟩,fun i hi=>rfl⟩,⟨⟨rfl,rfl,rfl⟩,fun i hi=>rfl⟩,trivial⟩
theorem oE.c{C:Cx}{t z m e:Nat}{g:Nat→List D}{i j:TI}(hi:C.tt t=some i)(hk:i.k=.slice e)(hj:C.tt e=some j)(hz:j.size=z)(hc:(Nat.blt 0 j.size&&Nat.blt 0 j.bytes&&Nat.beq j.zero.length j.size)=true)(hb:(0+m)*j.bytes≤140737488355328) :
  oE C t 0 (.d (.val (.slice none 0 0))) (.d (.sl z m g)) [] 1 (.sl 0 z 0 (0+m)) [(0,some (.row e z (0+m) (bu 0 (fun _=>[]) g)))]:=by
 subst hz
 refine .of (by omega) ?_
 have hr:∀q,Nat.beq q q=true:=fun q=>by simp
 simp only[dY,hi,hk,hj,hc,cond_true,qA,js,hr]
 refine⟨hb,af.of [0] rfl (fun i hi=>by omega) rfl ?_ ?_⟩
 ·exact .rfl _
 ·exact⟨⟨⟨rfl,rfl,rfl⟩,fun i hi=>rfl⟩,trivial⟩
theorem oE.d{C:Cx}{t z m e o m2 e2:Nat}{f2:Nat→List D}{i j:TI}(hi:C.tt t=some i)(hk:i.k=.slice e)(hj:C.tt e=some j)(hz:j.size=z)(hc:(Nat.blt 0 j.size&&Nat.blt 0 j.bytes&&Nat.beq j.zero.length j.size)=true)(hb:(0+m)*j.bytes≤140737488355328)(ho:o+m≤m2) :
  oE C t 1 (.d (.val (.slice none 0 0))) (.sl 0 z o m) [(0,some (.row e2 z m2 f2))] 2 (.sl 1 z 0 (0+m)) [(0,some (.row e2 z m2 f2)),(1,some (.row e z (0+m) (bu 0 (fun _=>[]) fun i=>f2 (o+i))))]:=by
 subst hz
 refine .of (by omega) ?_
 have hr:∀q,Nat.beq q q=true:=fun q=>by simp
 simp only[dY,hi,hk,hj,hc,cond_true,qA,js,ah,if_true,hr,Bool.and_self]
 refine⟨ho,hb,af.of [0,1] rfl (fun i hi=>by obtain rfl:i=0:=(by omega);rfl) rfl ?_ ?_⟩
 ·exact .rfl _
 ·exact⟨⟨⟨rfl,rfl,rfl⟩,fun i hi=>rfl⟩,⟨⟨rfl,rfl,rfl⟩,fun i hi=>rfl⟩,trivial⟩
end
section
structure Ef where
 val:SV
 ed:List (Nat×Option Blk)
 rd:List Nat
def gA(C:Cx)(S:St)(t:Nat):SV→SV→(Nat→Blk→Prop)→Prop
 | .ptr l off,x,k=>match C.tt t,lkh S.hp l with
  | some i,some (.cells cs)=>bF x fun vs=>bif Nat.beq vs.length i.size then jy cs off vs fun cs'=>k l (.cells cs')else False
  | some i,some (.cf m n g)=>bif Nat.beq i.size 1 then bF x (fun vs=>match vs with
   | [v]=>(SV.Lt m v∧At off fun o=>o<n∧k l (.cf m n fun j=>bif Nat.beq j o then v else g j))∨CfS off [v] m n g fun g'=>k l (.cf m n g')
   | _=>False)else bF x (fun vs=>bif Nat.beq vs.length i.size then CfS off vs m n g fun g'=>k l (.cf m n g')else False)
  | _,_=>False
 | .rp l esz q off,x,k=>match C.tt t,lkh S.hp l with
  | some i,some (.row e z n f)=>bif Nat.beq esz z then q<n∧bF x (fun vs=>bif Nat.beq vs.length i.size then fM vs (fun ds=>dg (f q) off ds fun cs'=>k l (.row e z n fun j=>if j=q then cs' else f j))else False)else False
  | some i,some (.cf m n g)=>bF x (fun vs=>bif Nat.beq vs.length i.size then(CfS (q*esz+off) vs m n g fun g'=>k l (.cf m n g'))∨(CfS (q*esz+off) vs S.nx n g fun g'=>k l (.cf S.nx n g'))else False)
  | _,_=>False
 | _,_,_=>False
theorem c8{x:SV}{k k':List SV→Prop}(h:∀r,k r→k' r)(hk:bF x k):bF x k':=by cases x<;>first|exact h _ hk|exact hk.elim
theorem kZ:∀(cs:List SV) (o:Nat) (vs:List SV) (k k':List SV→Prop),(∀r,k r→k' r)→jy cs o vs k→jy cs o vs k'
 | [],0,[],k,k',h,hk=>by simp only[jy]at hk⊢;exact h _ hk
 | _::_,0,[],k,k',h,hk=>by simp only[jy]at hk⊢;exact h _ hk
 | c::cs,0,v::vs,k,k',h,hk=>by simp only[jy]at hk⊢;exact kZ cs 0 vs _ _ (fun r=>h _) hk
 | c::cs,n+1,vs,k,k',h,hk=>by cases vs<;>(simp only[jy]at hk⊢;exact kZ cs n _ _ _ (fun r=>h _) hk)
 | [],0,v::vs,k,k',h,hk=>by simp[jy]at hk
 | [],n+1,vs,k,k',h,hk=>by cases vs<;>simp[jy]at hk
theorem iu:∀(cs:List D) (o:Nat) (vs:List D) (k k':List D→Prop),(∀r,k r→k' r)→dg cs o vs k→dg cs o vs k'
 | [],0,[],k,k',h,hk=>by simp only[dg]at hk⊢;exact h _ hk
 | _::_,0,[],k,k',h,hk=>by simp only[dg]at hk⊢;exact h _ hk
 | c::cs,0,v::vs,k,k',h,hk=>by simp only[dg]at hk⊢;exact iu cs 0 vs _ _ (fun r=>h _) hk
 | c::cs,n+1,vs,k,k',h,hk=>by cases vs<;>(simp only[dg]at hk⊢;exact iu cs n _ _ _ (fun r=>h _) hk)
 | [],0,v::vs,k,k',h,hk=>by simp[dg]at hk
 | [],n+1,vs,k,k',h,hk=>by cases vs<;>simp[dg]at hk
theorem p6:∀(vs:List SV) (k k':List D→Prop),(∀r,k r→k' r)→fM vs k→fM vs k'
 | [],k,k',h,hk=>by simp only[fM]at hk⊢;exact h _ hk
 | .d x::r,k,k',h,hk=>by simp only[fM]at hk⊢;exact p6 r _ _ (fun r=>h _) hk
 | .any::r,k,k',h,hk=>by simp[fM]at hk
 | .ptr _ _::r,k,k',h,hk=>by simp[fM]at hk
 | .rp _ _ _ _::r,k,k',h,hk=>by simp[fM]at hk
 | .sl _ _ _ _::r,k,k',h,hk=>by simp[fM]at hk
 | .agg _::r,k,k',h,hk=>by simp[fM]at hk
 | .tup _::r,k,k',h,hk=>by simp[fM]at hk
 | .fn _ _::r,k,k',h,hk=>by simp[fM]at hk
 | .iref _ _::r,k,k',h,hk=>by simp[fM]at hk
theorem xH{C:Cx}{S:St}{t:Nat}{x y:SV}{k:Nat→Blk→Prop}{k':St→Prop}(h:∀l b,k l b→k' (S.seth l (some b)))(hk:gA C S t x y k):jL C S t x y k':=by
 cases x with
 | ptr l off =>
  simp only[gA,jL]at hk⊢
  split at hk
  ·rename_i i cs hi hl
   rw[hi,hl]
   refine c8 (fun r hr=>?_) hk
   cases hz:Nat.beq r.length i.size with
   | false=>simp[hz]at hr
   | true=>simp only[hz,cond_true]at hr⊢;exact kZ _ _ _ _ _ (fun q=>h _ _) hr
  ·rename_i i m n g hi hl
   rw[hi,hl]
   cases hz:Nat.beq i.size 1 with
   | false =>
    simp only[hz,cond_false]at hk⊢
    refine c8 (fun r hr=>?_) hk
    cases hz2:Nat.beq r.length i.size with
    | false=>simp[hz2]at hr
    | true=>simp only[hz2,cond_true]at hr⊢;exact hr.imp fun g hg=>h _ _ hg
   | true =>
    simp only[hz,cond_true]at hk⊢
    refine c8 (fun r hr=>?_) hk
    split at hr
    ·rcases hr with hr|hr
     ·exact .inl ⟨hr.1,⟨hr.2.out.1,h _ _ hr.2.out.2⟩⟩
     ·exact .inr (hr.imp fun g hg=>h _ _ hg)
    ·exact hr.elim
  ·exact hk.elim
 | rp l esz q off =>
  simp only[gA,jL]at hk⊢
  split at hk
  ·rename_i i e z n f hi hl
   rw[hi,hl]
   cases hz:Nat.beq esz z with
   | false=>simp[hz]at hk
   | true =>
    simp only[hz,cond_true]at hk⊢
    refine⟨hk.1,c8 (fun r hr=>?_) hk.2⟩
    cases hz2:Nat.beq r.length i.size with
    | false=>simp[hz2]at hr
    | true =>
     simp only[hz2,cond_true]at hr⊢
     exact p6 _ _ _ (fun ds=>iu _ _ _ _ _ (fun q=>h _ _)) hr
  ·rename_i i m n g hi hl
   rw[hi,hl]
   refine c8 (fun r hr=>?_) hk
   cases hz2:Nat.beq r.length i.size with
   | false=>simp[hz2]at hr
   | true=>simp only[hz2,cond_true]at hr⊢;exact hr.imp (fun hr=>hr.imp fun g hg=>h _ _ hg) (fun hr=>hr.imp fun g hg=>h _ _ hg)
  ·exact hk.elim
 | _=>exact hk.elim
def Inv(S:St)(l:Nat):Prop:=∀(E E':Env) (w:World),(∀m,m≠l→E'.ρ m=E.ρ m∧E'.κ m=E.κ m)→E'.Im=E.Im →
 (∀n v,RS E S.nx w (lk S.fr n) v→RS E' S.nx w (lk S.fr n) v)∧(∀m b,lkh S.hp m=some b→m≠l∧(BS E S.nx w m b→BS E' S.nx w m b))
def πn(L:List Nat)(ln i:Nat):Nat:=bif Nat.blt i L.length then L.getD i 0 else ln
theorem ab.fresh{C:Cx}{S:St}{ln g:Nat}{args:List SV}{k:St→SV→Prop}{args0:List SV}{H H':List (Nat×Option Blk)}{r:SV}(L:List Nat)(h:Fun C g L.length args0 H (L.length+1) r H')(hd:bq L=true)(hlive:dO H L.length=true)(hkeys:dP H' L.length=true)(hlt:cG H' (L.length+1)=true)
    (ha:bn L args args0) (hh:aW S.hp L H) (hinv:Inv S ln) (hm:S.nt.m≤ln) (hl:ln<S.nx) (hk:k ⟨S.nt,S.nx,S.fr,bg (πn L ln) S.hp H'⟩ (nS (πn L ln) r)):ab C S g args k:=by
  refine⟨h.ent,fun O E a w vs hs hsz hargs=>?_⟩
  have hO:=hs.nt.2
  have hLn:∀i,i<L.length→L.getD i 0≠ln:=fun i hi=>by
    have:=hlive
    unfold dO at this
    rw[Q23]at this
    obtain⟨b,hb⟩:=Option.isSome_iff_exists.1 (this i (by simpa using hi))
    obtain⟨g1,g2⟩:=hh.out i b hb
    cases hq:lkh S.hp (L.getD i 0)with
    | none=>rw[hq]at g2;cases b<;>exact(show False from g2).elim
    | some b0=>exact((hinv E E w (fun _ _=>⟨rfl,rfl⟩) rfl).2 _ _ hq).1
  have hπ1:∀i,i<L.length→πn L ln i=L.getD i 0:=fun i hi=>by
    have hb:Nat.blt i L.length=true:=by simpa using hi
    unfold πn;rw[hb];rfl
  have hπ2:∀i,L.length≤i→πn L ln i=ln:=fun i hi=>by
    unfold πn
    cases hb:Nat.blt i L.length with
    | true => have:i<L.length:=by simpa using hb
              omega
    | false=>rfl
  refine(Fun.callG hs L h hd hlive hkeys hlt ha hh (F:=fun l=>l=ln) (nx':=S.nx) ⟨Q4 _,fun E E' w hρ hI=>(hinv E E' w hρ hI).1,fun m b hb=>⟨((hinv E E w (fun _ _=>⟨rfl,rfl⟩) rfl).2 m b hb).1,fun E E' w hρ hI=>((hinv E E' w hρ hI).2 m b hb).2⟩⟩ (fun l hl=>by subst hl;omega) (πn L ln) hπ1 (fun i h1 h2=>⟨hπ2 i h1,by rw[hπ2 i h1];exact hl⟩) (fun i j hi hj e=>?_) vs hsz hargs).mono ?_
  · by_cases h1:i<L.length<;>by_cases h2:j<L.length
    · rw[hπ1 i h1,hπ1 j h2]at e
      exact Classical.byContradiction fun hne=>ca hd h1 h2 hne e
    ·rw[hπ1 i h1,hπ2 j (by omega)]at e;exact absurd e (hLn i h1)
    ·rw[hπ2 i (by omega),hπ1 j h2]at e;exact absurd e.symm (hLn j h2)
    ·omega
  · rintro e w' ⟨v,E',rfl,h1,h2⟩
    exact⟨v,E',_,_,rfl,hk,h1,h2⟩
def jz(P hp:List (Nat×Option Blk)):List Nat→Prop
 | []=>True
 | l::r=>lkh P l=lkh hp l∧jz P hp r
theorem mD{P hp:List (Nat×Option Blk)}:∀{K:List Nat},jz P hp K→∀l∈K,lkh P l=lkh hp l
 | [],_,l,hl=>by simp at hl
 | k::r,⟨h1,h2⟩,l,hl=>by
  rcases Q22 hl with rfl|hl
  ·exact h1
  ·exact mD h2 l hl
def memN(l:Nat):List Nat→Bool
 | []=>false
 | k::r=>bif Nat.beq k l then true else memN l r
theorem gT{l:Nat}:∀{K:List Nat},memN l K=true↔l∈K
 | []=>by simp[memN]
 | k::r=>by
  unfold memN
  cases h:Nat.beq k l with
  | true=>obtain rfl:=Q2 h;simp
  | false =>
   have hne:¬l=k:=fun e=>by subst e;simp at h
   simp only[cond_false,List.mem_cons,hne,false_or];exact gT
def gm(K:List Nat):List (Nat×Option Blk)→List (Nat×Option Blk)
 | []=>[]
 | (l,ob)::r=>bif memN l K then gm K r else(l,ob)::gm K r
theorem gl{K:List Nat}{hp:List (Nat×Option Blk)}(l:Nat):∀(P:List (Nat×Option Blk)),(l∈K→lkh (gm K P++hp) l=lkh hp l)∧(¬l∈K→lkh (gm K P++hp) l=lkh (P++hp) l)
 | []=>⟨fun _=>rfl,fun _=>rfl⟩
 | (m,ob)::r=>by
  obtain⟨h1,h2⟩:=gl (hp:=hp) (K:=K) l r
  unfold gm
  cases hm:memN m K with
  | true =>
   simp only[cond_true]
   refine⟨h1,fun hn=>?_⟩
   rw[h2 hn,List.cons_append,ah,if_neg (fun(e:m=l)=>hn (e▸gT.1 hm))]
  | false =>
   simp only[cond_false,List.cons_append,ah]
   refine⟨fun hl=>?_,fun hn=>by rw[h2 hn]⟩
   rw[if_neg (fun(e:m=l)=>by rw[e,gT.2 hl]at hm;cases hm)];exact h1 hl
theorem el{K:List Nat}{l:Nat}{o:Option Blk}:∀{P:List (Nat×Option Blk)},(l,o)∈P→l∈K∨(l,o)∈gm K P
 | (m,ob)::r,h=>by
  unfold gm
  cases hm:memN m K with
  | true =>
   simp only[cond_true]
   rcases Q22 h with h|h
   ·cases h;exact Or.inl (gT.1 hm)
   ·exact el h
  | false =>
   simp only[cond_false]
   rcases Q22 h with h|h
   ·exact Or.inr (by simp[h])
   ·exact(el (P:=r) h).imp id fun h=>by simp[h]
open Classical in
theorem pg:∀(e hp:List (Nat×Option Blk)) (l:Nat),lkh (e++hp) l=if(∃o,(l,o)∈e)then lkh e l else lkh hp l
 | [],hp,l=>by simp
 | (m,ob)::r,hp,l=>by
  rw[List.cons_append,ah,ah,pg r hp l]
  by_cases h:m=l
  ·subst h;rw[if_pos rfl,if_pos ⟨ob,by simp⟩,if_pos rfl]
  ·rw[if_neg h,if_neg h]
   by_cases h2:∃o,(l,o)∈r
   ·rw[if_pos h2,if_pos (by obtain⟨o,ho⟩:=h2;exact⟨o,by simp[ho]⟩)]
   ·rw[if_neg h2,if_neg (by
     rintro⟨o,ho⟩
     rcases Q22 ho with ho|ho
     ·cases ho;exact h rfl
     ·exact h2 ⟨o,ho⟩)]
theorem pJ{K:List Nat}{P hp:List (Nat×Option Blk)}(h:jz P hp K)(l:Nat):lkh (P++hp) l=lkh (gm K P++hp) l:=by
 by_cases hl:l∈K
 ·rw[(gl l P).1 hl,pg]
  split
  ·exact mD h l hl
  ·rfl
 ·rw[(gl l P).2 hl]
structure ag(C:Cx)(S:St)(ln g:Nat)(args:List SV)(k:SV→List (Nat×Option Blk)→List Nat→Prop):Prop where
 out:(∃r,Pure C g args r∧args.all SV.free=true∧r.free=true∧k r [] []) ∨
  (∃L args0 H H' r K,Fun C g L.length args0 H L.length r H'∧bq L=true∧dO H L.length=true∧dP H' L.length=true∧cG H' L.length=true∧bn L args args0∧aW S.hp L H ∧
   jz (bg (πf L S.nx) [] H') S.hp K∧k (nS (πf L S.nx) r) (gm K (bg (πf L S.nx) [] H')) K) ∨
  (∃L args0 H H' r K,Fun C g L.length args0 H (L.length+1) r H'∧bq L=true∧dO H L.length=true∧dP H' L.length=true∧cG H' (L.length+1)=true∧bn L args args0∧aW S.hp L H ∧
   jz (bg (πn L ln) [] H') S.hp K∧k (nS (πn L ln) r) (gm K (bg (πn L ln) [] H')) K) ∨
  (∃m r,Fun C g m args [] m r []∧SV.ltB S.nx r=true∧Nat.ble S.nx m=true∧k r [] [])
theorem ag.funM{C:Cx}{S:St}{ln g:Nat}{args:List SV}{k:SV→List (Nat×Option Blk)→List Nat→Prop}{m:Nat}{r:SV}(h:Fun C g m args [] m r [])(hlt:SV.ltB S.nx r=true)(hm:Nat.ble S.nx m=true)(hk:k r [] []):ag C S ln g args k :=
 ⟨Or.inr (Or.inr (Or.inr ⟨m,r,h,hlt,hm,hk⟩))⟩
theorem ag.pure{C:Cx}{S:St}{ln g:Nat}{args:List SV}{k:SV→List (Nat×Option Blk)→List Nat→Prop}{r:SV}(h:Pure C g args r)(hf:args.all SV.free=true)(hr:r.free=true)(hk:k r [] []):ag C S ln g args k:=⟨Or.inl ⟨r,h,hf,hr,hk⟩⟩
theorem ag.fun{C:Cx}{S:St}{ln g:Nat}{args:List SV}{k:SV→List (Nat×Option Blk)→List Nat→Prop}{m:Nat}{args0:List SV}{H H':List (Nat×Option Blk)}{r:SV}(h:Fun C g m args0 H m r H')(L K:List Nat)(hlen:L.length=m)(hd:bq L=true)(hlive:dO H m=true)(hkeys:dP H' m=true)(hlt:cG H' m=true)
  (ha:bn L args args0) (hh:aW S.hp L H) (hs:jz (bg (πf L S.nx) [] H') S.hp K) (hk:k (nS (πf L S.nx) r) (gm K (bg (πf L S.nx) [] H')) K):ag C S ln g args k:=by
 subst hlen
 exact⟨Or.inr (Or.inl ⟨L,args0,H,H',r,K,h,hd,hlive,hkeys,hlt,ha,hh,hs,hk⟩)⟩
theorem ag.new{C:Cx}{S:St}{ln g:Nat}{args:List SV}{k:SV→List (Nat×Option Blk)→List Nat→Prop}{m m':Nat}{args0:List SV}{H H':List (Nat×Option Blk)}{r:SV}(h:Fun C g m args0 H m' r H')(L K:List Nat)(hlen:L.length=m)(hm':m'=m+1)(hd:bq L=true)(hlive:dO H m=true)(hkeys:dP H' m=true)(hlt:cG H' m'=true)
  (ha:bn L args args0) (hh:aW S.hp L H) (hs:jz (bg (πn L ln) [] H') S.hp K) (hk:k (nS (πn L ln) r) (gm K (bg (πn L ln) [] H')) K):ag C S ln g args k:=by
 subst hlen hm'
 exact⟨Or.inr (Or.inr (Or.inl ⟨L,args0,H,H',r,K,h,hd,hlive,hkeys,hlt,ha,hh,hs,hk⟩))⟩
def cP:Op→Bool
 | .alloc _=>true
 | .buildSlice ..=>true
 | .makeSlice ..=>true
 | .box ..=>true
 | .call _=>true
 | _=>false
def fER(v:SV)(ed:List (Nat×Option Blk))(rd:List Nat)(k:Ef→Prop):Prop:=dD v fun v'=>k ⟨v',ed,rd⟩
theorem gG{v:SV}{ed:List (Nat×Option Blk)}{rd:List Nat}{k:Ef→Prop}(h:fER v ed rd k):k ⟨v,ed,rd⟩:=bE (k:=fun v'=>k ⟨v',ed,rd⟩) h
def fE(v:SV)(ed:List (Nat×Option Blk))(k:Ef→Prop):Prop:=dD v fun v'=>k ⟨v',ed,[]⟩
theorem yE{v:SV}{ed:List (Nat×Option Blk)}{k:Ef→Prop}(h:fE v ed k):k ⟨v,ed,[]⟩:=bE (k:=fun v'=>k ⟨v',ed,[]⟩) h
def tB(C:Cx)(S:St)(ln:Nat)(f:SV)(args:List SV)(k:Ef→Prop):Prop :=
 match f with
 | .d (.fn (.func g) [])=>ag C S ln g args fun r ed rd=>fER r ed rd k
 | .fn (.func g) caps=>ag C S ln g (args++caps) fun r ed rd=>fER r ed rd k
 | _=>False
structure fP(C:Cx)(S:St)(ln t:Nat)(x y:SV)(k:SV→List (Nat×Option Blk)→Prop):Prop where
 out:∃L x0 y0 H H' r,oE C t (List.length L) x0 y0 H (L.length+1) r H'∧bq L=true∧dO H L.length=true∧dP H' L.length=true∧cG H' (L.length+1)=true∧bn L [x,y] [x0,y0]∧aW S.hp L H ∧
  k (nS (πn L ln) r) (bg (πn L ln) [] H')
theorem Sat.app {C:Cx} {O:Org} {E:Env} {S:St} {a:Act} {w:World} (hs:Sat O E S a w) {ln t ty:Nat} {x y:SV} {u v:Value} {k:SV→List (Nat×Option Blk)→Prop} (hu:RS E S.nx w x u) (hv:RS E S.nx w y v) (h:fP C S ln t x y k) (hinv:Inv S ln) (hm:S.nt.m≤ln) (hl:ln<S.nx) :
    ∃z w' E' r ed,(Builtin.append_ #[t,t] ty #[u,v]).run C.P w=.ok z w'∧k r ed∧Sat O E' (⟨S.nt,S.nx,S.fr,ed++S.hp⟩) a w'∧RS E' S.nx w' r z:=by
  obtain⟨L,x0,y0,H,H',r,hb,hd,hlive,hkeys,hlt,ha,hh,hk⟩:=h.out
  have hO:=hs.nt.2
  have hLn:∀i,i<L.length→L.getD i 0≠ln:=fun i hi=>by
    have:=hlive
    unfold dO at this
    rw[Q23]at this
    obtain⟨b,hb⟩:=Option.isSome_iff_exists.1 (this i (by simpa using hi))
    obtain⟨g1,g2⟩:=hh.out i b hb
    cases hq:lkh S.hp (L.getD i 0)with
    | none=>rw[hq]at g2;cases b<;>exact(show False from g2).elim
    | some b0=>exact((hinv E E w (fun _ _=>⟨rfl,rfl⟩) rfl).2 _ _ hq).1
  have hπ1:∀i,i<L.length→πn L ln i=L.getD i 0:=fun i hi=>by
    have hb:Nat.blt i L.length=true:=by simpa using hi
    unfold πn;rw[hb];rfl
  have hπ2:∀i,L.length≤i→πn L ln i=ln:=fun i hi=>by
    unfold πn
    cases hb:Nat.blt i L.length with
    | true => have:i<L.length:=by simpa using hb
              omega
    | false=>rfl
  have hargs:∀j (hj:j<[x,y].length),RS E S.nx w [x,y][j] ((#[u,v]:Array Value).getD j undef):=fun j hj=>by
    have:j=0∨j=1:=by simp at hj;omega
    rcases this with rfl|rfl
    ·exact hu
    ·exact hv
  obtain⟨z,w',h1,E',h2,h3⟩:=callP hs L (Pm:=fun p=>∃z w',(Builtin.append_ #[t,t] ty #[u,v]).run C.P w=.ok z w'∧p z w') (m':=L.length+1) (H:=H) (H':=H') (r:=r) (args:=[x,y]) (args0:=[x0,y0]) (fun p q hpq ⟨z,w',h1,h2⟩=>⟨z,w',h1,hpq z w' h2⟩) #[u,v] (by omega)
    (fun Ec hS hr=>hb.out Ec w ty u v hS (hr 0 (by simp)) (hr 1 (by simp))) hd hlive hkeys hlt ha hh (F:=fun l=>l=ln) (nx':=S.nx) ⟨Q4 _,fun E E' w hρ hI=>(hinv E E' w hρ hI).1,fun m b hb=>⟨((hinv E E w (fun _ _=>⟨rfl,rfl⟩) rfl).2 m b hb).1,fun E E' w hρ hI=>((hinv E E' w hρ hI).2 m b hb).2⟩⟩ (fun l hl=>by subst hl;omega) (πn L ln) hπ1 (fun i h1 h2=>⟨hπ2 i h1,by rw[hπ2 i h1];exact hl⟩) (fun i j hi hj e=>by
      by_cases h1:i<L.length<;>by_cases h2:j<L.length
      · rw[hπ1 i h1,hπ1 j h2]at e
        exact Classical.byContradiction fun hne=>ca hd h1 h2 hne e
      ·rw[hπ1 i h1,hπ2 j (by omega)]at e;exact absurd e (hLn i h1)
      ·rw[hπ2 i (by omega),hπ1 j h2]at e;exact absurd e.symm (hLn j h2)
      ·omega) (by rfl) hargs
  refine⟨z,w',E',_,_,h1,hk,?_,h3⟩
  have e1:∀H,bg (πn L ln) S.hp H=bg (πn L ln) [] H++S.hp:=by
    intro H
    induction H with
    | nil=>rfl
    | cons q r ih=>obtain⟨i,ob⟩:=q;simp[bg,ih]
  rw[e1]at h2
  exact h2
theorem idx0(l:Nat)(L:List Nat):kf (l::L) l=some 0:=by simp[kf,yq]
theorem idx1{l l2:Nat}(L:List Nat)(h:Nat.beq l l2=false):kf (l::l2::L) l2=some 1:=by simp[kf,yq,h]
theorem fP.a{C:Cx}{S:St}{ln t l z n m e:Nat}{f g:Nat→List D}{i j:TI}{k:SV→List (Nat×Option Blk)→Prop}(hi:C.tt t=some i)(hk:i.k=.slice e)(hj:C.tt e=some j)(hz:j.size=z)(hc:(Nat.blt 0 j.size&&Nat.blt 0 j.bytes&&Nat.beq j.zero.length j.size)=true)
  (hl:lkh S.hp l=some (.row e z n f)) (hb:(n+m)*j.bytes≤140737488355328) (h:k (.sl ln z 0 (n+m)) [(l,none),(ln,some (.row e z (n+m) (bu n f g)))]):fP C S ln t (.sl l z 0 n) (.d (.sl z m g)) k :=
 ⟨⟨[l],_,_,_,_,_,oE.a (f:=f) hi hk hj hz hc hb,rfl,rfl,rfl,rfl,⟨ae.sl (idx0 l []),ae.rfl rfl,trivial⟩,⟨show mj [l] (lkh S.hp l) _ from by rw[hl];exact⟨⟨rfl,rfl,rfl⟩,fun i hi=>rfl⟩,trivial⟩,h⟩⟩
theorem fP.b{C:Cx}{S:St}{ln t l l2 z n m e o m2 e2:Nat}{f f2:Nat→List D}{i j:TI}{k:SV→List (Nat×Option Blk)→Prop}(hi:C.tt t=some i)(hk:i.k=.slice e)(hj:C.tt e=some j)(hz:j.size=z)(hc:(Nat.blt 0 j.size&&Nat.blt 0 j.bytes&&Nat.beq j.zero.length j.size)=true)
  (hl:lkh S.hp l=some (.row e z n f)) (hl2:lkh S.hp l2=some (.row e2 z m2 f2)) (hne:Nat.beq l l2=false) (hb:(n+m)*j.bytes≤140737488355328) (ho:o+m≤m2) (h:k (.sl ln z 0 (n+m)) [(l,none),(l2,some (.row e2 z m2 f2)),(ln,some (.row e z (n+m) (bu n f fun i=>f2 (o+i))))]):fP C S ln t (.sl l z 0 n) (.sl l2 z o m) k :=
 ⟨⟨[l,l2],_,_,_,_,_,oE.b (f:=f) (f2:=f2) (e2:=e2) (m2:=m2) hi hk hj hz hc hb ho,by simp[bq,hne],rfl,rfl,rfl,⟨ae.sl (idx0 l [l2]),ae.sl (idx1 [] hne),trivial⟩,⟨show mj [l,l2] (lkh S.hp l) _ from by rw[hl];exact⟨⟨rfl,rfl,rfl⟩,fun i hi=>rfl⟩,show mj [l,l2] (lkh S.hp l2) _ from by rw[hl2];exact⟨⟨rfl,rfl,rfl⟩,fun i hi=>rfl⟩,trivial⟩,h⟩⟩
theorem fP.c{C:Cx}{S:St}{ln t z m e:Nat}{g:Nat→List D}{i j:TI}{k:SV→List (Nat×Option Blk)→Prop}(hi:C.tt t=some i)(hk:i.k=.slice e)(hj:C.tt e=some j)(hz:j.size=z)(hc:(Nat.blt 0 j.size&&Nat.blt 0 j.bytes&&Nat.beq j.zero.length j.size)=true)
  (hb:(0+m)*j.bytes≤140737488355328) (h:k (.sl ln z 0 (0+m)) [(ln,some (.row e z (0+m) (bu 0 (fun _=>[]) g)))]):fP C S ln t (.d (.val (.slice none 0 0))) (.d (.sl z m g)) k :=
 ⟨⟨[],_,_,_,_,_,oE.c hi hk hj hz hc hb,rfl,rfl,rfl,rfl,⟨ae.rfl rfl,ae.rfl rfl,trivial⟩,trivial,h⟩⟩
theorem fP.d{C:Cx}{S:St}{ln t l2 z m e o m2 e2:Nat}{f2:Nat→List D}{i j:TI}{k:SV→List (Nat×Option Blk)→Prop}(hi:C.tt t=some i)(hk:i.k=.slice e)(hj:C.tt e=some j)(hz:j.size=z)(hc:(Nat.blt 0 j.size&&Nat.blt 0 j.bytes&&Nat.beq j.zero.length j.size)=true)
  (hl2:lkh S.hp l2=some (.row e2 z m2 f2)) (hb:(0+m)*j.bytes≤140737488355328) (ho:o+m≤m2) (h:k (.sl ln z 0 (0+m)) [(l2,some (.row e2 z m2 f2)),(ln,some (.row e z (0+m) (bu 0 (fun _=>[]) fun i=>f2 (o+i))))]):fP C S ln t (.d (.val (.slice none 0 0))) (.sl l2 z o m) k :=
 ⟨⟨[l2],_,_,_,_,_,oE.d (f2:=f2) (e2:=e2) (m2:=m2) hi hk hj hz hc hb ho,rfl,rfl,rfl,rfl,⟨ae.rfl rfl,ae.sl (idx0 l2 []),trivial⟩,⟨show mj [l2] (lkh S.hp l2) _ from by rw[hl2];exact⟨⟨rfl,rfl,rfl⟩,fun i hi=>rfl⟩,trivial⟩,h⟩⟩
structure DApx(C:Cx)(t:Nat)(x y:SV)(k:SV→Prop):Prop where
 out:∃z n f m g i e j,x=.d (.slx z n f)∧y=.d (.sl z m g)∧C.tt t=some i∧i.k=.slice e∧C.tt e=some j∧j.size=z∧(Nat.blt 0 j.size&&Nat.blt 0 j.bytes&&Nat.beq j.zero.length j.size)=true∧0<m∧(n+m)*j.bytes≤140737488355328∧k (.d (.sl z (n+m) (bu n f g)))
theorem DApx.of{C:Cx}{t z n m e:Nat}{f g:Nat→List D}{i j:TI}{k:SV→Prop}(hi:C.tt t=some i)(hk:i.k=.slice e)(hj:C.tt e=some j)(hz:j.size=z)(hc:(Nat.blt 0 j.size&&Nat.blt 0 j.bytes&&Nat.beq j.zero.length j.size)=true)(hm:Nat.blt 0 m=true)(hb:(n+m)*j.bytes≤140737488355328)
  (h:k (.d (.sl z (n+m) (bu n f g)))):DApx C t (.d (.slx z n f)) (.d (.sl z m g)) k:=⟨⟨z,n,f,m,g,i,e,j,rfl,rfl,hi,hk,hj,hz,hc,by simpa using hm,hb,h⟩⟩
theorem Sat.apx{C:Cx}{O:Org}{E:Env}{S:St}{a:Act}{w:World}(hs:Sat O E S a w){t ty:Nat}{x y:SV}{u v:Value}{k:SV→Prop}(hu:RS E S.nx w x u)(hv:RS E S.nx w y v)(h:DApx C t x y k) :
  ∃z w' E' r,(Builtin.append_ #[t,t] ty #[u,v]).run C.P w=.ok z w'∧k r∧Sat O E' S a w'∧RS E' S.nx w' r z:=by
 obtain⟨z,n,f,m,g,i,e,j,rfl,rfl,hi,hk,hj,hz,hc,hm0,hb,hk'⟩:=h.out
 subst hz
 have ht:=(C.ok _ _ hi).slice hk
 obtain⟨jj,zz,q1,q2,q3,q4,q5⟩:=(C.ok _ _ hj).info
 simp only[Q5]at hc
 obtain⟨⟨a3,a5⟩,a4⟩:=hc
 have a3:0<j.size:=by simpa using a3
 have a5:0<j.bytes:=by simpa using a5
 have a4:j.zero.length=j.size:=Q2 a4
 have hzs:zz.cells.size=j.size:=by rw[← a4,← q3];simp
 have hzc:∀p,(Builtin.zeroCells zz.cells p).size=p*j.size:=fun p=>by simp[Builtin.zeroCells,hzs]
 cases hu with
 | d _ _ hu=>cases hu with
  | slx _ _ _ ad hx =>
   obtain⟨n',f',ad',c',xs,e1,⟨rfl,rfl⟩,hxs,hxc⟩:=kO (k:=fun m' g'=>m'=n∧g'=f) hs a3 (y:=.d (.sl j.size n f)) (RS.d _ _ hx) (by simp[js])
   injection e1 with e1 _ e2
   subst e1 e2
   obtain⟨m',g',bd,c,ys,e3,⟨rfl,rfl⟩,hys,hcell⟩:=kO (k:=fun m' g'=>m'=m∧g'=g) hs a3 hv (by simp[js])
   subst e3
   obtain⟨b,o,rfl,hcl⟩:=hcell hm0
   have hnm:n'+m'≤140737488355328:=Nat.le_trans (Nat.le_mul_of_pos_right _ a5) hb
   have hcat:=hxs.cat hys
   have hcl':∀(q:Nat) (v:Value),ys[q]?=some v→w.cell? ((⟨b,o,none⟩:Addr).add q)=some v:=fun q v hq=>by rw[Addr.add_mid];exact hcl q v hq
   have hbd:=eQ w (n'+m') n' e hnm
   have hfit:=growslice_fits (bytes:=jj.bytes) (show n'<n'+m' by omega) (by rw[q5];exact hb)
   have fin:∀w',w'=w.drew.alloc (.cells ((xs++ys).toArray++Builtin.zeroCells zz.cells (grownCap w (n'+m') n' e-(n'+m'))) e)→(Builtin.append_ #[t,t] ty #[.slice ad n' n',.slice (some ⟨b,o,none⟩) m' c]).run C.P w=.ok (.slice (some ⟨w.heap.size,0,none⟩) (n'+m') (grownCap w (n'+m') n' e)) w' →
     ∃z w' E' r,(Builtin.append_ #[t,t] ty #[.slice ad n' n',.slice (some ⟨b,o,none⟩) m' c]).run C.P w=.ok z w'∧k r∧Sat O E' S a w'∧RS E' S.nx w' r z:=by
    intro w' hw' hrun
    have hsz:w'.heap.size=w.heap.size+1:=by rw[hw'];simp[World.size_alloc]
    have hold:∀q,q<w.heap.size→w'.heap[q]?=w.heap[q]?:=fun q hq=>by rw[hw'];exact Below.heap_alloc w.drew _ _ hq
    have hnew:w'.heap[w.heap.size]?=some (.cells ((xs++ys).toArray++Builtin.zeroCells zz.cells (grownCap w (n'+m') n' e-(n'+m'))) e (0,0)):=by rw[hw'];exact aB w.drew _
    have hs':=hs.newim (w':=w') hold (by omega) (by rw[hw'];exact⟨rfl,rfl,rfl⟩)
    refine⟨_,w',_,_,hrun,hk',hs',.d _ _ (.sl _ _ _ _ _ (fun i q=>((xs++ys)[i*j.size+q]?).getD undef) hbd.1 hbd.2 hcat.ln (fun _=>⟨w.heap.size,0,rfl,Or.inr rfl,fun i q hi hq=>?_⟩) fun i q hi hq=>?_)⟩
    ·have h5:(i+1)*j.size≤(n'+m')*j.size:=Q8 _ hi
     rw[Q18]at h5
     have h6:i*j.size+q<(xs++ys).length:=by rw[hcat.len];omega
     have h7:i*j.size+q<(xs++ys).toArray.size:=by simpa using h6
     simp only[World.cell?,hnew,Q19]
     rw[Array.getElem?_append_left h7]
     rw[Q0 h6]
     simp[h6]
    ·exact(hcat.rd i q hi hq).mono (fun b hb=>Or.inl hb) fun b hb=>hold b (hs.im b hb).1
   cases ad with
   | none =>
    have hn0:n'=0:=by
     rcases Nat.eq_zero_or_pos n' with h0|h0
     ·exact h0
     ·obtain⟨b',o',e9,_⟩:=hxc h0;cases e9
    subst hn0
    have hx0:xs=[]:=by have:=hxs.len;simp at this;exact this
    subst hx0
    have hrun:=run_append_nil (P:=C.P) w t ty e jj zz ht q1 q2 ⟨b,o,none⟩ m' c ys (by rw[hys.len,q4]) hcl' (by omega) (by omega) (by rw[q5];simp at hb;omega)
    simp only[Q19,List.nil_append]at fin
    exact fin _ rfl hrun
   | some ad2 =>
    have hrun:=run_append_grow (P:=C.P) w t ty e jj zz ht q1 q2 ad2 n' n' xs (by rw[hxs.len,q4]) (fun q v hq=>by
     have hn0:0<n':=by
      rcases Nat.eq_zero_or_pos n' with h0|h0
      ·have:=(Q3 hq).1;rw[hxs.len,h0]at this;omega
      ·exact h0
     obtain⟨b',o',e9,hc9⟩:=hxc hn0
     cases e9
     rw[Addr.add_mid];exact hc9 q v hq) ⟨b,o,none⟩ m' c ys (by rw[hys.len,q4]) hcl' (by omega) (by omega) hfit
    refine fin _ ?_ hrun
    simp
def fF(C:Cx)(S:St)(ln:Nat)(b:Builtin)(ts:List Nat)(args:List SV)(k:Ef→Prop):Prop :=
 match b,ts,args with
 | .append,[t,t2],[x,y]=>bif Nat.beq t t2 then(fP C S ln t x y fun r ed=>fE r ed k)∨(DApx C t x y fun r=>k ⟨r,[],[]⟩)else False
 | .len,[t],[x]=>lenK C t x fun v=>fE v [] k
 | .min,_,[x,y]=>minK x y fun v=>fE v [] k
 | .max,_,[x,y]=>maxK x y fun v=>fE v [] k
 | _,_,_=>False
structure SlxD(C:Cx)(t:Nat)(x h m:SV)(k:SV→Prop):Prop where
 out:∃z n f i e j k1 k2,x=.d (.sl z n f)∧h=.d (.val (.int k1 (n:Int)))∧m=.d (.val (.int k2 (n:Int)))∧C.tt t=some i∧i.k=.slice e∧C.tt e=some j∧j.size=z∧Nat.blt 0 j.size=true∧k (.d (.slx z n f))
theorem SlxD.of{C:Cx}{t z n e:Nat}{f:Nat→List D}{i j:TI}{k1 k2:IntKind}{k:SV→Prop}(hi:C.tt t=some i)(hk:i.k=.slice e)(hj:C.tt e=some j)(hz:j.size=z)(hz0:Nat.blt 0 j.size=true)(h:k (.d (.slx z n f))):SlxD C t (.d (.sl z n f)) (.d (.val (.int k1 (n:Int)))) (.d (.val (.int k2 (n:Int)))) k :=
 ⟨⟨z,n,f,i,e,j,k1,k2,rfl,rfl,rfl,hi,hk,hj,hz,hz0,h⟩⟩
theorem slxD_ok{C:Cx}{E:Env}{nx:Nat}{w:World}{t:Nat}{x h m:SV}{u uh um:Value}{k:SV→Prop}(hx:RS E nx w x u)(hh:RS E nx w h uh)(hm:RS E nx w m um)(hd:SlxD C t x h m k) :
  ∃z v,(Instr.sliceAt t u none (some uh) (some um)).run C.P w=.ok z w∧k v∧RS E nx w v z:=by
 obtain⟨z,n,f,i,e,j,k1,k2,rfl,rfl,rfl,hi,hk,hj,hz,hz0,hkk⟩:=hd.out
 subst hz
 have hz0:0<j.size:=by simpa using hz0
 obtain rfl:=hh.val_inv
 obtain rfl:=hm.val_inv
 have ht:=(C.ok _ _ hi).slice hk
 have hsz:=(C.ok _ _ hj).sizeOf w
 cases hx with
 | d _ _ hx=>cases hx with
  | sl _ _ _ ad cap gv hc hmx hl ha hg =>
   have hr:RD w E.Im (.sl j.size n f) (.slice ad n n):=.sl _ _ _ _ _ gv (Q4 _) (by omega) hl ha hg
   have hrun:(Instr.sliceAt t (.slice ad n cap) none (some (.int k1 (n:Int))) (some (.int k2 (n:Int)))).run C.P w=.ok (.slice ad n n) w:=by
    rcases Nat.eq_zero_or_pos n with h0|h0
    ·subst h0
     simp[Instr.sliceAt,run_underlying ht,Instr.slice,Instr.sliceBounds,Instr.sliceBound,asIntOf,hsz]
    ·obtain⟨b,o,rfl,_⟩:=ha (Nat.mul_pos h0 hz0)
     have h1:(n:Int)≤(cap:Int):=by omega
     have h2:n≠0:=by omega
     simp[Instr.sliceAt,run_underlying ht,Instr.slice,Instr.sliceBounds,Instr.sliceBound,asIntOf,hsz,h1,hc,h2,Addr.add_mid]
   exact⟨.slice ad n n,_,hrun,hkk,.d _ _ (.slx _ _ _ _ hr)⟩
def ra(C:Cx)(S:St)(ln:Nat)(op:Op)(k:Ef→Prop):Prop :=
 match op with
 | .move x=>fE (ev S x) [] k
 | .assign x=>fE (ev S x) [] k
 | .pick c x y=>match ev S c with
  | .d (.val (.bool b))=>bif b then fE (ev S x) [] k else fE (ev S y) [] k
  | _=>False
 | .alloc t=>match C.tt t with
  | some i=>jt i.zero fun cs=>k ⟨.ptr ln 0,[(ln,some (.cells cs))],[]⟩
  | none=>False
 | .load t a=>lA C S t (ev S a) fun v=>fE v [] k
 | .store t a x=>gA C S t (ev S a) (ev S x) fun l b=>k ⟨.any,[(l,some b)],[]⟩
 | .binOp op t x y _=>binX C op t (ev S x) (ev S y) fun v=>fE v [] k
 | .unOp op _ x=>unK op (ev S x) fun v=>fE v [] k
 | .convert s d x=>lX C s d (ev S x) fun v=>fE v [] k
 | .fieldAddr t x f=>ej C t f (ev S x) fun v=>fE v [] k
 | .field t x f=>pG C t f (ev S x) fun v=>fE v [] k
 | .indexAddr t x i=>d7 C t (ev S x) (ev S i) fun v=>fE v [] k
 | .index t x i=>pq C t (ev S x) (ev S i) fun v=>fE v [] k
 | .extract x i=>ie i (ev S x) fun v=>fE v [] k
 | .slice t x lo hi none=>oL C t (ev S x) (lo.map (ev S)) (hi.map (ev S)) fun v=>fE v [] k
 | .build t parts=>ny C S t parts.toList fun v=>fE v [] k
 | .buildSlice t n parts=>cB C S t n parts.toList fun e z f=>k ⟨.sl ln z 0 n,[(ln,some (.row e z n f))],[]⟩∨(Nat.blt 0 n=true∧k ⟨.d (.sl z n f),[(ln,none)],[]⟩)
 | .nilCheck x=>iK (ev S x) fun v=>fE v [] k
 | .makeFunc fn first caps=>match first.toList with
  | []=>evL S caps.toList fun cs=>fE (.fn fn cs) [] k
  | _=>False
 | .box _ x=>bF (ev S x) fun cs=>k ⟨.ptr ln 0,[(ln,some (.cells cs))],[]⟩
 | .call c=>match c.callee with
  | .value f=>evL S c.args.toList fun args=>tB C S ln (ev S f) args k
  | .builtin b=>evL S c.args.toList fun args=>fF C S ln b c.argTypes.toList args k
  | _=>False
 | .lookup t m i false=>LookD C t (ev S m) (ev S i) S.hp fun v l=>fER v [] [l] k
 | .slice t x none (some h) (some m)=>SlxD C t (ev S x) (ev S h) (ev S m) fun v=>fE v [] k
 | .makeSlice t l c=>f7 C t (ev S l) (ev S c) fun e z n f=>k ⟨.sl ln z 0 n,[(ln,some (.row e z n f))],[]⟩
 | _=>False
theorem Sat.allocD{O:Org}{E:Env}{S:St}{a:Act}{w:World}(h:Sat O E S a w){l:Nat}(hl:l<S.nx)(hO:O.nl≤l)(hinv:Inv S l){cs:List SV}{vs:Array Value}(T:TypeId)
  (ht:bY (E.new l w.heap.size) S.nx (w.alloc (.cells vs T)) cs vs.toList) :
  Sat O (E.new l w.heap.size) ⟨S.nt,S.nx,S.fr,(l,some (.cells cs))::S.hp⟩ a (w.alloc (.cells vs T))∧RS (E.new l w.heap.size) S.nx (w.alloc (.cells vs T)) (.ptr l 0) (.pointer (some ⟨w.heap.size,0,none⟩)):=by
 obtain⟨h1,h2⟩:=hinv E (E.new l w.heap.size) w (fun m hm=>⟨by simp[Env.new,hm],rfl⟩) rfl
 have hr:(E.new l w.heap.size).ρ l=w.heap.size:=by simp[Env.new]
 have hEm:∀m,m≠l→(E.new l w.heap.size).ρ m=E.ρ m:=fun m hm=>by simp[Env.new,hm]
 have hwk:∀k,k<w.heap.size→(w.alloc (.cells vs T)).heap[k]?=w.heap[k]?:=fun k hk=>Below.heap_alloc _ _ _ hk
 have hwi:∀b,E.Im b→(w.alloc (.cells vs T)).heap[b]?=w.heap[b]?:=fun b hb=>hwk b (h.im b hb).1
 have hlive:∀m x,lkh ((l,some (.cells cs))::S.hp) m=some x→(m=l∧x=.cells cs)∨(m≠l∧lkh S.hp m=some x):=by
  intro m x hm
  rw[ah]at hm
  by_cases e:l=m
  ·rw[if_pos e]at hm;cases hm;exact Or.inl ⟨e.symm,rfl⟩
  ·rw[if_neg e]at hm;exact Or.inr ⟨fun k=>e k.symm,hm⟩
 have hmono:∀x v,RS (E.new l w.heap.size) S.nx w x v→RS (E.new l w.heap.size) S.nx (w.alloc (.cells vs T)) x v:=fun x v hv=>hv.mono (fun _ _=>⟨rfl,rfl⟩) (Q4 _) (fun _ hb=>hb) hwi
 refine⟨⟨fun n=>hmono _ _ (h1 n _ (h.fr n)),h.nt,h.df,?_,?_,?_,?_,?_,?_,?_,h.nl,h.imo⟩,?_⟩
 ·intro m x hm
  rcases hlive m x hm with⟨rfl,rfl⟩|⟨hn,hm'⟩
  ·have:=ht.to
   simp only[Array.toArray_toList]at this
   exact⟨vs,T,by rw[hr];exact aB w _,this.1,this.2⟩
  ·exact((h2 m x hm').2 (h.hp m x hm')).mono (h.nx m x hm') (fun _ _=>⟨rfl,rfl⟩) (Q4 _) (fun _ hb=>hb) hwi (fun hxr=>hwk _ (by rw[hEm m hn];exact(h.hp m x hm').lt hxr))
 ·intro m x hm
  rcases hlive m x hm with⟨rfl,rfl⟩|⟨hn,hm'⟩
  ·exact hl
  ·exact h.nx m x hm'
 ·intro m m' x x' hm hm' hxr hxr' hne
  rcases hlive m x hm with⟨rfl,rfl⟩|⟨hn,hm1⟩<;>rcases hlive m' x' hm' with⟨rfl,rfl⟩|⟨hn',hm1'⟩
  ·exact absurd rfl hne
  ·rw[hr,hEm m' hn'];have:=(h.hp m' x' hm1').lt hxr';omega
  ·rw[hr,hEm m hn];have:=(h.hp m x hm1).lt hxr;omega
  ·rw[hEm m hn,hEm m' hn'];exact h.inj m m' x x' hm1 hm1' hxr hxr' hne
 ·intro k hk
  obtain⟨k1,k2,k3⟩:=h.im k hk
  refine⟨by simp only[World.size_alloc];omega,k2,fun m x hm hxr=>?_⟩
  rcases hlive m x hm with⟨rfl,rfl⟩|⟨hn,hm'⟩
  ·rw[hr];omega
  ·rw[hEm m hn];exact k3 m x hm' hxr
 ·intro m x hm hxr
  rcases hlive m x hm with⟨rfl,rfl⟩|⟨hn,hm'⟩
  ·rw[hr];exact Or.inr h.kq.size
  ·rw[hEm m hn];exact h.own m x hm' hxr
 ·exact h.kq.trans ((Kp.refl w).alloc _ |>.kq _)
 ·intro m hm
  have hne:m≠l:=by omega
  rw[hEm m hne];exact h.lab m hm
 ·have:=RS.ptr (E:=E.new l w.heap.size) (w:=w.alloc (.cells vs T)) (nx:=S.nx) l 0 hl
  rwa [hr]at this
theorem Sat.allocDr{O:Org}{E:Env}{S:St}{a:Act}{w:World}(h:Sat O E S a w){l c:Nat}{o:Obj}{b:Blk}(hl:l<S.nx)(hO:O.nl≤l)(hinv:Inv S l)(hb:BS (E.newrow l w.heap.size c) S.nx (w.alloc o) l b) :
  Sat O (E.newrow l w.heap.size c) ⟨S.nt,S.nx,S.fr,(l,some b)::S.hp⟩ a (w.alloc o):=by
 have hEm:∀m,m≠l→(E.newrow l w.heap.size c).ρ m=E.ρ m∧(E.newrow l w.heap.size c).κ m=E.κ m:=fun m hm=>⟨by simp[Env.newrow,hm],by simp[Env.newrow,hm]⟩
 obtain⟨h1,h2⟩:=hinv E (E.newrow l w.heap.size c) w hEm rfl
 have hr:(E.newrow l w.heap.size c).ρ l=w.heap.size:=by simp[Env.newrow]
 have hwk:∀k,k<w.heap.size→(w.alloc o).heap[k]?=w.heap[k]?:=fun k hk=>Below.heap_alloc _ _ _ hk
 have hwi:∀b,E.Im b→(w.alloc o).heap[b]?=w.heap[b]?:=fun b hb=>hwk b (h.im b hb).1
 have hlive:∀m x,lkh ((l,some b)::S.hp) m=some x→(m=l∧x=b)∨(m≠l∧lkh S.hp m=some x):=by
  intro m x hm
  rw[ah]at hm
  by_cases e:l=m
  ·rw[if_pos e]at hm;cases hm;exact Or.inl ⟨e.symm,rfl⟩
  ·rw[if_neg e]at hm;exact Or.inr ⟨fun k=>e k.symm,hm⟩
 refine⟨fun n=>RS.mono (E:=E.newrow l w.heap.size c) (fun _ _=>⟨rfl,rfl⟩) (Q4 _) (fun _ hb=>hb) hwi (h1 n _ (h.fr n)),h.nt,h.df,?_,?_,?_,?_,?_,?_,?_,h.nl,h.imo⟩
 ·intro m x hm
  rcases hlive m x hm with⟨rfl,rfl⟩|⟨hn,hm'⟩
  ·exact hb
  ·exact((h2 m x hm').2 (h.hp m x hm')).mono (h.nx m x hm') (fun _ _=>⟨rfl,rfl⟩) (Q4 _) (fun _ hb=>hb) hwi (fun hxr=>hwk _ (by rw[(hEm m hn).1];rw[(hEm m hn).2]at hxr;exact(h.hp m x hm').lt hxr))
 ·intro m x hm
  rcases hlive m x hm with⟨rfl,rfl⟩|⟨hn,hm'⟩
  ·exact hl
  ·exact h.nx m x hm'
 ·intro m m' x x' hm hm' hxr hxr' hne
  rcases hlive m x hm with⟨rfl,rfl⟩|⟨hn,hm1⟩<;>rcases hlive m' x' hm' with⟨rfl,rfl⟩|⟨hn',hm1'⟩
  ·exact absurd rfl hne
  ·rw[hr,(hEm m' hn').1];rw[(hEm m' hn').2]at hxr';have:=(h.hp m' x' hm1').lt hxr';omega
  ·rw[hr,(hEm m hn).1];rw[(hEm m hn).2]at hxr;have:=(h.hp m x hm1).lt hxr;omega
  ·rw[(hEm m hn).1,(hEm m' hn').1];rw[(hEm m hn).2]at hxr;rw[(hEm m' hn').2]at hxr';exact h.inj m m' x x' hm1 hm1' hxr hxr' hne
 ·intro k hk
  obtain⟨k1,k2,k3⟩:=h.im k hk
  refine⟨by simp only[World.size_alloc];omega,k2,fun m x hm hxr=>?_⟩
  rcases hlive m x hm with⟨rfl,rfl⟩|⟨hn,hm'⟩
  ·rw[hr];omega
  ·rw[(hEm m hn).1];rw[(hEm m hn).2]at hxr;exact k3 m x hm' hxr
 ·intro m x hm hxr
  rcases hlive m x hm with⟨rfl,rfl⟩|⟨hn,hm'⟩
  ·rw[hr];exact Or.inr h.kq.size
  ·rw[(hEm m hn).1];rw[(hEm m hn).2]at hxr;exact h.own m x hm' hxr
 ·exact h.kq.trans ((Kp.refl w).alloc _ |>.kq _)
 ·intro m hm
  have hne:m≠l:=by omega
  rw[(hEm m hne).1,(hEm m hne).2];exact h.lab m hm
def St.ed(S:St)(e:List (Nat×Option Blk)):St:=match S with|⟨nt,nx,fr,hp⟩=>⟨nt,nx,fr,e++hp⟩
theorem gi:∀(vs:List SV) (k k':List SV→Prop),(∀r,k r→k' r)→gE vs k→gE vs k'
 | [],k,k',h,hk=>h _ hk
 | v::r,k,k',h,hk=>by
  have:∀(x:SV) (q q':SV→Prop),(∀y,q y→q' y)→mZ x q→mZ x q':=fun x q q' hq hx=>by cases x<;>exact hq _ hx
  exact this v _ _ (fun y hy=>gi r _ _ (fun z=>h _) hy) hk
theorem qB{x:SV}{k k':SV→Prop}(h:∀r,k r→k' r)(hk:dD x k):dD x k':=by
 cases x with
 | agg vs=>exact gi vs _ _ (fun r=>h _) hk
 | tup vs=>exact gi vs _ _ (fun r=>h _) hk
 | _=>exact h _ hk
theorem lV(S:St):∀(xs:List Operand) (k k':List SV→Prop),(∀r,k r→k' r)→evL S xs k→evL S xs k'
 | [],k,k',h,hk=>h _ hk
 | x::r,k,k',h,hk=>qB (fun v hv=>lV S r _ _ (fun z=>h _) hv) hk
theorem tl{x:SV}{k:SV→Prop}(h:k x):mZ x k:=by cases x<;>exact h
theorem i4:∀(vs:List SV) (k:List SV→Prop),k vs→gE vs k
 | [],k,h=>h
 | v::r,k,h=>tl (i4 r _ h)
theorem tj{x:SV}{k:SV→Prop}(h:k x):dD x k:=by
 cases x with
 | agg vs=>exact i4 vs _ h
 | tup vs=>exact i4 vs _ h
 | _=>exact h
theorem zw(S:St):∀(xs:List Operand) (k:List SV→Prop),evL S xs k→∃vs,k vs∧∀k2:List SV→Prop,k2 vs→evL S xs k2
 | [],k,h=>⟨[],h,fun _ h=>h⟩
 | x::r,k,h=>by
  obtain⟨vs,h1,h2⟩:=zw S r _ (bE h)
  exact⟨_,h1,fun k2 hk=>tj (h2 _ hk)⟩
def p8(C:Cx)(O:Org)(S:St)(o:Oper)(a:Act)(w:World)(k:Ef→Prop):Prop :=
 ∀(next:Act→World→Prop) (Q:Exit→Act→World→Prop),(∀v E' w' e,k e→Sat O E' (S.ed e.ed) a w'→RS E' S.nx w' e.val v→next (a.put o.dst v) w')→o.wp C.P a w next Q
theorem p8.of{C:Cx}{O:Org}{S:St}{o:Oper}{a:Act}{w:World}{k:Ef→Prop}(h:jn C O o a w fun S' x=>S'=S∧fE x [] k):p8 C O S o a w k:=by
 intro next Q hk
 refine h next Q fun v E' S' w' x ⟨e,hx⟩ hs hv=>?_
 subst e
 exact hk v E' w' _ (yE hx) hs hv
theorem ik:∀(vs:List Value) (k:List SV→Prop),jt vs k→∃cs:List SV,k cs∧∀E nx w,bY E nx w cs vs
 | [],k,h=>⟨[],by simpa[jt]using h,fun _ _ _=>⟨rfl,fun j x hj=>by simp at hj⟩⟩
 | v::r,k,h=>by
  unfold jt at h
  cases hv:v.oneCell' with
  | false=>simp[hv]at h
  | true =>
   simp only[hv,cond_true]at h
   obtain⟨cs,h1,h2⟩:=ik r _ h
   refine⟨_,h1,fun E nx w=>⟨by simp[(h2 E nx w).1],fun j x hj=>?_⟩⟩
   cases j with
   | zero=>simp at hj;subst hj;exact⟨v,by simp,.d _ _ (.val _ hv),hv⟩
   | succ j=>simp at hj;obtain⟨u,g1,g2⟩:=(h2 E nx w).2 j x hj;exact⟨u,by simpa using g1,g2⟩
theorem iF(π:Nat→Nat)(hp:List (Nat×Option Blk)):∀H,bg π hp H=bg π [] H++hp
 | []=>rfl
 | (i,ob)::r=>by simp[bg,iF π hp r]
theorem effD_ok{C:Cx}{O:Org}{E:Env}{S:St}{a:Act}{w:World}(hs:Sat O E S a w){ln:Nat}(hl:ln<S.nx)(hO:O.nl≤ln){o:Oper}(hinv:cP o.op=true→Inv S ln){k:Ef→Prop}(h:ra C S ln o.op k):p8 C O S o a w k:=by
 have via:jI C S o.op (fun S' x=>S'=S∧fE x [] k)→p8 C O S o a w k:=fun h=>.of (il hs h)
 unfold ra at h
 split at h
 ·rename_i x ho;exact via (by rw[ho];exact⟨rfl,h⟩)
 ·rename_i x ho;exact via (by rw[ho];exact⟨rfl,h⟩)
 ·rename_i c x y ho
  refine via ?_
  rw[ho]
  simp only[jI,true_and]
  exact h
 ·rename_i t ho
  split at h
  ·rename_i i hi
   obtain⟨j,z,h1,h2,h3,h4,_⟩:=(C.ok _ _ hi).info
   obtain⟨cs,g1,g2⟩:=ik _ _ h
   rw[← h3]at g2
   obtain⟨e1,e2⟩:=hs.allocD hl hO (hinv (by rw[ho];rfl)) t (g2 _ S.nx _)
   intro next Q hk
   unfold Oper.wp
   rw[show(execOp a.eval o).run C.P w=.ok (.value (.pointer (some ⟨w.heap.size,0,none⟩))) (w.alloc (.cells z.cells t))by simp[execOp,ho,Instr.alloc,zeroValue,typeInfo,h1,h2,newVar,newRow]]
   exact hk _ _ _ _ g1 e1 e2
  ·exact h.elim
 ·rename_i t x ho;exact via (by rw[ho];simp only[jI,true_and];exact h)
 ·rename_i t x y ho
  obtain⟨w',S',h1,⟨l,b,h2,rfl⟩,h3⟩:=my (C:=C) (t:=t) (k:=fun S'=>∃l b,k ⟨.any,[(l,some b)],[]⟩∧S'=S.seth l (some b)) hs (aP hs x) (aP hs y) (xH (fun l b hb=>⟨l,b,hb,rfl⟩) h)
  intro next Q hk
  unfold Oper.wp
  rw[show(execOp a.eval o).run C.P w=.ok .skip w' by simp[execOp,ho,h1]]
  exact hk undef E w' _ h2 h3 (.any _)
 ·rename_i op t x y _ ho;exact via (by rw[ho];simp only[jI,true_and];exact h)
 ·rename_i op _ x ho;exact via (by rw[ho];simp only[jI,true_and];exact h)
 ·rename_i ho;exact via (by rw[ho];simp only[jI,true_and];first|exact h|exact fG (by simp only[true_and];exact h))
 ·rename_i ho;exact via (by rw[ho];simp only[jI,true_and];first|exact h|exact fG (by simp only[true_and];exact h))
 ·rename_i ho;exact via (by rw[ho];simp only[jI,true_and];first|exact h|exact fG (by simp only[true_and];exact h))
 ·rename_i ho;exact via (by rw[ho];simp only[jI,true_and];first|exact h|exact fG (by simp only[true_and];exact h))
 ·rename_i ho;exact via (by rw[ho];simp only[jI,true_and];first|exact h|exact fG (by simp only[true_and];exact h))
 ·rename_i ho;exact via (by rw[ho];simp only[jI,true_and];first|exact h|exact fG (by simp only[true_and];exact h))
 ·rename_i ho;exact via (by rw[ho];simp only[jI,true_and];first|exact h|exact fG (by simp only[true_and];exact h))
 ·rename_i ho;exact via (by rw[ho];simp only[jI,true_and];first|exact h|exact fG (by simp only[true_and];exact h))
 ·rename_i t n ps ho
  obtain⟨e,z,f,us',g5,hrun,h1,h2,h3,h4,h5,h6⟩:=eE hs h
  have hr:(E.newrow ln w.heap.size n).ρ ln=w.heap.size:=by simp[Env.newrow]
  have hκ:(E.newrow ln w.heap.size n).κ ln=n:=by simp[Env.newrow]
  have e1:=hs.allocDr (c:=n) (o:=.cells us' e) (b:=.row e z n f) hl hO (hinv (by rw[ho];rfl)) ⟨by rw[hκ];exact Q4 _,by rw[hκ];exact h1,h2,h3,fun _=>⟨us',by rw[hr];exact aB w _,by rw[hκ];exact h4,h5,fun i j hi hj=>(h6 i j hi hj).mono (fun _ hb=>hb) fun b hb=>Below.heap_alloc _ _ _ (hs.im b hb).1⟩⟩
  intro next Q hk
  unfold Oper.wp
  rw[show(execOp a.eval o).run C.P w=.ok (.value (.slice (some ⟨w.heap.size,0,none⟩) n n)) (w.alloc (.cells us' e))by simp[execOp,ho,hrun]]
  have hv:RS (E.newrow ln w.heap.size n) S.nx (w.alloc (.cells us' e)) (.sl ln z 0 n) (.slice (some ⟨w.heap.size,0,none⟩) n n) :=
   .sl _ _ _ _ _ _ hl (Q4 _) h1 (fun _=>by rw[hr,Nat.zero_mul]) (fun _=>⟨hκ.symm,fun _=>by rw[hr]⟩)
  rcases g5 with g5|⟨hn,g5⟩
  ·exact hk _ _ _ _ g5 e1 hv
  ·have hn:0<n:=by simpa using hn
   obtain⟨s1,s2⟩:=e1.imm (w':=w.alloc (.cells us' e)) (l:=ln) (e:=e) (esz:=z) (n:=n) (f:=f) (by rw[ah,if_pos rfl]) (by rw[hκ];exact hn) (fun _ _ _=>rfl) rfl ⟨rfl,rfl,rfl⟩ (fun vs hvs=>⟨_,hvs⟩)
   have h7:=s2 0 n _ (by omega) hv
   rw[show(fun i=>f (0+i))=f from funext fun i=>by rw[Q19]]at h7
   refine hk _ _ _ _ g5 (s1.congr' fun l=>?_) h7
   show lkh ((ln,none)::(ln,some (.row e z n f))::S.hp) l=lkh ((ln,none)::S.hp) l
   rw[ah,ah,ah]
   split<;>rfl
 ·rename_i ho;exact via (by rw[ho];simp only[jI,true_and];first|exact h|exact fG (by simp only[true_and];exact h))
 ·rename_i fn first caps ho;exact via (by rw[ho];simp only[jI,true_and];exact h)
 ·rename_i t x ho
  have h1:=((hinv (by rw[ho];rfl)) E (E.new ln w.heap.size) w (fun m hm=>⟨by simp[Env.new,hm],rfl⟩) rfl).1
  have hv:RS (E.new ln w.heap.size) S.nx w (ev S x) (a.eval x):=by
   cases x with
   | tmp t=>exact mw (h1 t _ (hs.fr t))
   | const v=>exact ry _ _ _ v
   | global g=>exact .any _
   | func f=>exact .d _ _ (.fn _ _ _ (by simp) (fun j hj=>by simp at hj))
  have hv2:RS (E.new ln w.heap.size) S.nx (w.alloc (.cells (a.eval x).cells t)) (ev S x) (a.eval x):=hv.mono (fun _ _=>⟨rfl,rfl⟩) (Q4 _) (fun _ hb=>hb) (fun b hb=>Below.heap_alloc _ _ _ (hs.im b hb).1)
  obtain⟨cs,g1,g2⟩:=aO h hv2
  obtain⟨e1,e2⟩:=hs.allocD hl hO (hinv (by rw[ho];rfl)) t g2
  intro next Q hk
  unfold Oper.wp
  rw[show(execOp a.eval o).run C.P w=.ok (.value (.pointer (some ⟨w.heap.size,0,none⟩))) (w.alloc (.cells (a.eval x).cells t))by simp[execOp,ho,Instr.box,newVar,newRow]]
  exact hk _ _ _ _ g1 e1 e2
 ·rename_i c ho
  split at h
  ·rename_i f hc
   refine(fun(hcall:jn C O o a w fun S' x=>∃ef:Ef,k ef∧(S'.nt=S.nt∧S'.nx=S.nx∧S'.fr=S.fr∧∀l,lkh S'.hp l=lkh (S.ed ef.ed).hp l)∧x=ef.val)=>?_) (il hs ?_)
   ·intro next Q hk
    refine hcall next Q fun v E' S' w' x ⟨ef,h1,h2,h3⟩ hs' hv=>?_
    subst h3
    obtain⟨nt,nx,fr,hp⟩:=S'
    obtain⟨nt0,nx0,fr0,hp0⟩:=S
    obtain⟨rfl,rfl,rfl,h2⟩:=h2
    exact hk v E' w' ef h1 (hs'.congr' h2) hv
   ·rw[ho]
    simp only[jI,hc]
    refine lV S _ _ _ (fun args hargs=>?_) h
    have go:∀(g:Nat) (args:List SV),ag C S ln g args (fun r ed rd=>fER r ed rd k)→ab C S g args fun S' x=>∃ef:Ef,k ef∧(S'.nt=S.nt∧S'.nx=S.nx∧S'.fr=S.fr∧∀l,lkh S'.hp l=lkh (S.ed ef.ed).hp l)∧x=ef.val:=by
     intro g args hargs
     rcases hargs.out with⟨r,h1,h2,h3,h4⟩|⟨L,args0,H,H',r,K,h1,h2,h3,h4,h5,h6,h7,h9,h8⟩|⟨L,args0,H,H',r,K,h1,h2,h3,h4,h5,h6,h7,h9,h8⟩|⟨m,r,h1,h2,h3,h4⟩
     ·exact .pure h1 h2 h3 ⟨_,gG h4,by cases S;exact⟨rfl,rfl,rfl,fun _=>rfl⟩,rfl⟩
     ·refine .fun h1 L rfl h2 h3 h4 h5 h6 h7 ⟨_,gG h8,?_,rfl⟩
      rw[iF,Nat.sub_self]
      exact⟨rfl,rfl,rfl,fun l=>pJ h9 l⟩
     ·refine .fresh L h1 h2 h3 h4 h5 h6 h7 (hinv (by rw[ho];rfl)) (show S.nt.m≤ln by have:=hs.nt.2;omega) hl ⟨_,gG h8,?_,rfl⟩
      rw[iF]
      exact⟨rfl,rfl,rfl,fun l=>pJ h9 l⟩
     ·exact .funM h1 h2 h3 ⟨_,gG h4,by cases S;exact⟨rfl,rfl,rfl,fun _=>rfl⟩,rfl⟩
    unfold tB at hargs
    split at hargs
    ·rename_i g e
     rw[e]
     simp only[y1]
     exact go g args hargs
    ·rename_i g caps e
     rw[e]
     simp only[y1]
     have h9:=go g (args++caps) hargs
     cases S;exact h9
    ·exact hargs.elim
  ·rename_i b hc
   obtain⟨vs0,hk0,hall⟩:=zw S _ _ h
   obtain⟨args,⟨hargs,hall2⟩,h2,h3⟩:=nb hs _ (fun args=>fF C S ln b c.argTypes.toList args k∧∀k2:List SV→Prop,k2 args→evL S c.args.toList k2) (hall _ ⟨hk0,hall⟩)
   by_cases hax:∃t x y,b=.append∧c.argTypes.toList=[t,t]∧args=[x,y]∧DApx C t x y fun r=>k ⟨r,[],[]⟩
   ·obtain⟨t,x,y,rfl,e1,rfl,happ⟩:=hax
    have ht:=aA e1
    match hca:c.args.toList,h2,h3 with
    | [p,q],h2,h3 =>
     have hca':=aA hca
     obtain⟨z,w',E',r,g1,g2,g3,g4⟩:=hs.apx (ty:=o.type) (h3 0 p x rfl rfl) (h3 1 q y rfl rfl) happ
     intro next Q hk
     unfold Oper.wp
     rw[show(execOp a.eval o).run C.P w=.ok (.value z) w' by simp[execOp,ho,resolve,hc,invoke,builtin,ht,hca',g1]]
     exact hk z E' w' _ g2 (by cases S;exact g3) g4
    | [],h2,h3=>simp at h2
    | [_],h2,h3=>simp at h2
    | _::_::_::_,h2,h3=>simp at h2
   by_cases hap:∃t x y,b=.append∧c.argTypes.toList=[t,t]∧args=[x,y]∧fP C S ln t x y fun r ed=>fE r ed k
   ·obtain⟨t,x,y,rfl,e1,rfl,happ⟩:=hap
    have ht:=aA e1
    match hca:c.args.toList,h2,h3 with
    | [p,q],h2,h3 =>
     have hca':=aA hca
     obtain⟨z,w',E',r,ed,g1,g2,g3,g4⟩:=hs.app (ty:=o.type) (h3 0 p x rfl rfl) (h3 1 q y rfl rfl) happ (hinv (by rw[ho];rfl)) (show S.nt.m≤ln by have:=hs.nt.2;omega) hl
     intro next Q hk
     unfold Oper.wp
     rw[show(execOp a.eval o).run C.P w=.ok (.value z) w' by simp[execOp,ho,resolve,hc,invoke,builtin,ht,hca',g1]]
     exact hk z E' w' _ (yE g2) g3 g4
    | [],h2,h3=>simp at h2
    | [_],h2,h3=>simp at h2
    | _::_::_::_,h2,h3=>simp at h2
   ·refine via ?_
    rw[ho]
    simp only[jI,hc]
    refine hall2 _ ?_
    unfold fF at hargs
    split at hargs
    ·rename_i t t2 x y e1
     exfalso
     cases hb:Nat.beq t t2 with
     | false=>simp[hb]at hargs
     | true =>
      simp only[hb,cond_true]at hargs
      obtain rfl:=Q2 hb
      rcases hargs with hargs|hargs
      ·exact hap ⟨t,x,y,rfl,e1,rfl,hargs⟩
      ·exact hax ⟨t,x,y,rfl,e1,rfl,hargs⟩
    ·rename_i t x e1
     rw[e1];simp only[fJ,true_and];exact hargs
    ·simp only[fJ,true_and];exact hargs
    ·simp only[fJ,true_and];exact hargs
    ·exact hargs.elim
  ·exact h.elim
 ·rename_i t m i ho
  obtain⟨z,v,l,h1,h2,h3⟩:=yf hs (aP hs m) (aP hs i) h
  intro next Q hk
  unfold Oper.wp
  rw[show(execOp a.eval o).run C.P w=.ok (.value z) w by simp[execOp,ho,h1]]
  exact hk z E w _ (gG h2) (by cases S;exact hs) h3
 ·rename_i t x hh m ho
  obtain⟨z,v,h1,h2,h3⟩:=slxD_ok (aP hs x) (aP hs hh) (aP hs m) h
  intro next Q hk
  unfold Oper.wp
  rw[show(execOp a.eval o).run C.P w=.ok (.value z) w by simp[execOp,ho,h1]]
  exact hk z E w _ (yE h2) (by cases S;exact hs) h3
 ·rename_i t lx cx ho
  obtain⟨e,z,n,f,us',g5,hrun,h1,h2,h3,h4,h5,h6⟩:=lz (aP hs lx) (aP hs cx) h
  have hr:(E.newrow ln w.heap.size n).ρ ln=w.heap.size:=by simp[Env.newrow]
  have hκ:(E.newrow ln w.heap.size n).κ ln=n:=by simp[Env.newrow]
  have e1:=hs.allocDr (c:=n) (o:=.cells us' e) (b:=.row e z n f) hl hO (hinv (by rw[ho];rfl)) ⟨by rw[hκ];exact Q4 _,by rw[hκ];exact h1,h2,h3,fun _=>⟨us',by rw[hr];exact aB w _,by rw[hκ];exact h4,h5,fun i j hi hj=>(h6 i j hi hj).mono (fun _ hb=>hb) fun b hb=>Below.heap_alloc _ _ _ (hs.im b hb).1⟩⟩
  intro next Q hk
  unfold Oper.wp
  rw[show(execOp a.eval o).run C.P w=.ok (.value (.slice (some ⟨w.heap.size,0,none⟩) n n)) (w.alloc (.cells us' e))by simp[execOp,ho,hrun]]
  have hv:RS (E.newrow ln w.heap.size n) S.nx (w.alloc (.cells us' e)) (.sl ln z 0 n) (.slice (some ⟨w.heap.size,0,none⟩) n n) :=
   .sl _ _ _ _ _ _ hl (Q4 _) h1 (fun _=>by rw[hr,Nat.zero_mul]) (fun _=>⟨hκ.symm,fun _=>by rw[hr]⟩)
  exact hk _ _ _ _ g5 e1 hv
 ·exact h.elim
end
end Go.Proofs.YtlkccdlgnpkjpaaGreat
