/- Lemmas of Sx24, Ty, Sx20, Bk1, Bk2, Bk3, Bk4. No condition. -/
import Derived.Test.YtgkpjebgcfjfnaaGreatMM4
import Derived.IntWalk
import Derived.Test.YtgkpjebgcfjfnaaGreatRows
import Derived.Shelf.Bits.Mul64
set_option linter.unusedVariables false
set_option linter.unusedSimpArgs false
set_option linter.unusedSectionVars false
set_option maxHeartbeats 80000000
set_option maxRecDepth 100000
namespace Go.Proofs.YtgkpjebgcfjfnaaGreat
open Go.RowKit
section
structure ai(S:St)(L:List Nat)(x y:SV):Prop where
 out:∀O E a w v,Sat O E S a w→RS E S.nx w x v→RS (E.end S L) L.length w y v
def fc(S:St)(L:List Nat):List SV→List SV→Prop
 | [],[]=>True
 | x::xs,y::ys=>ai S L x y∧fc S L xs ys
 | _,_=>False
theorem fc.out{S:St}{L:List Nat}:∀{xs ys:List SV},fc S L xs ys→xs.length=ys.length∧∀(j:Nat) (y:SV),ys[j]?=some y→∃x,xs[j]?=some x∧ai S L x y
 | [],[],_=>⟨rfl,fun j y h=>by simp at h⟩
 | x::xs,y::ys,⟨h1,h2⟩=>by
  obtain⟨g1,g2⟩:=fc.out h2
  refine⟨by simp[g1],fun j z hz=>?_⟩
  cases j with
  | zero=>simp at hz;subst hz;exact⟨x,rfl,h1⟩
  | succ j=>simp at hz;exact g2 j z hz
 | [],_::_,h=>h.elim
 | _::_,[],h=>h.elim
theorem fc.at{S:St}{L:List Nat}{xs ys:List SV}(h:fc S L xs ys){j:Nat}(hj:j<ys.length):∃hj':j<xs.length,ai S L xs[j] ys[j]:=by
 obtain⟨h1,h2⟩:=h.out
 obtain⟨x,g1,g2⟩:=h2 j _ (Q0 hj)
 obtain⟨q1,q2⟩:=Q3 g1
 exact⟨q1,by rw[q2];exact g2⟩
variable{S:St}{L:List Nat}
theorem ai.any{x:SV}:ai S L x .any:=⟨fun _ _ _ _ _ _ _=>.any _⟩
theorem ai.d{x:D}:ai S L (.d x) (.d x):=⟨fun O E a w v hs hv=>by cases hv with|d _ _ hv=>exact .d _ _ (hv.mono (fun _ hb=>Or.inl hb) fun _ _=>rfl)⟩
theorem ai.le{x y z:SV}(h:ai S L x y)(hl:SV.Le y z):ai S L x z:=⟨fun O E a w v hs hv=>hl.out _ _ _ _ (h.out O E a w v hs hv)⟩
theorem ai.ptrL{l o i:Nat}(hi:ij L l=some i):ai S L (.ptr l o) (.ptr i o):=by
 obtain⟨h1,h2⟩:=bq hi
 refine⟨fun O E a w v hs hv=>?_⟩
 cases hv with
 | ptr _ _ hl =>
  have:=RS.ptr (E:=E.end S L) (nx:=L.length) (w:=w) i o h1
  simp only[Env.end,h2]at this;exact this
theorem ai.slL{l z o n i:Nat}(hi:ij L l=some i):ai S L (.sl l z o n) (.sl i z o n):=by
 obtain⟨h1,h2⟩:=bq hi
 refine⟨fun O E a w v hs hv=>?_⟩
 cases hv with
 | sl _ _ _ _ ad cap hl hc hm ha h0=>exact .sl i z o n ad cap h1 hc hm (by simp only[Env.end,h2];exact ha) (by simp only[Env.end,h2];exact h0)
theorem ai.ptr{l o:Nat}{cs ds:List SV}(hi:ij L l=none)(hl:lkh S.hp l=some (.cells cs))(h:fc S L cs ds):ai S L (.ptr l o) (.iref ds o):=by
 refine⟨fun O E a w v hs hv=>?_⟩
 cases hv with
 | ptr _ _ hlx =>
  obtain⟨vs,T,g1,g2,g3⟩:=hs.hp l _ hl
  have hlen:=h.out.1
  have:=RS.iref (E:=E.end S L) (nx:=L.length) (w:=w) ds o (E.ρ l) 0 (fun j=>vs.getD j undef) (Or.inr ⟨l,_,hl,trivial,rfl,eF hi⟩) (fun j hj=>by
    have hj':j<vs.size:=by omega
    simp[World.cell?,g1,Array.getD,hj']) (fun j hj=>(g3 j (by omega)).2) (fun j hj=>by
    obtain⟨q1,q2⟩:=h.at hj
    exact q2.out O E a w _ hs (g3 j q1).1)
  rwa [Q19]at this
theorem ai.sl{l e z o n m:Nat}{f:Nat→List D}(hi:ij L l=none)(hl:lkh S.hp l=some (.row e z m f))(hn:o+n≤m):ai S L (.sl l z o n) (.d (.sl z n fun i=>f (o+i))):=by
 refine⟨fun O E a w v hs hv=>?_⟩
 have hI:∀b,E.Im b→(E.end S L).Im b:=fun b hb=>Or.inl hb
 obtain⟨y,h1,h2⟩:=i8 (ρ':=(E.end S L).ρ) (κ':=(E.end S L).κ) (m':=L.length) (k:=fun y=>y=.d (.sl z n fun i=>f (o+i))) hs hI hv (fun l' b hl' hb hr=>by
   have:SV.lab (.sl l z o n)=some l:=rfl
   rw[this]at hl';cases hl';exact Or.inr ⟨l,b,hb,hr,rfl,eF hi⟩) (by simp only[gN,hl];simp[hn])
 rw[h1]at h2;exact h2
theorem ai.fn{f:Fn}{cs ds:List SV}(h:fc S L cs ds):ai S L (.fn f cs) (.fn f ds):=by
 refine⟨fun O E a w v hs hv=>?_⟩
 cases hv with
 | fn _ _ us hsz hh=>exact .fn _ _ us (by have:=h.out.1;omega) fun j hj=>by obtain⟨q1,q2⟩:=h.at hj;exact q2.out O E a w _ hs (hh j q1)
theorem ai.agg{cs ds:List SV}(h:fc S L cs ds):ai S L (.agg cs) (.agg ds):=by
 refine⟨fun O E a w v hs hv=>?_⟩
 cases hv with
 | agg _ us hsz h1 hh=>exact .agg _ us (by have:=h.out.1;omega) h1 fun j hj=>by obtain⟨q1,q2⟩:=h.at hj;exact q2.out O E a w _ hs (hh j q1)
theorem ai.tup{cs ds:List SV}(h:fc S L cs ds):ai S L (.tup cs) (.tup ds):=by
 refine⟨fun O E a w v hs hv=>?_⟩
 cases hv with
 | tup _ us hsz hh=>exact .tup _ us (by have:=h.out.1;omega) fun j hj=>by obtain⟨q1,q2⟩:=h.at hj;exact q2.out O E a w _ hs (hh j q1)
theorem ai.iref{cs ds:List SV}{o:Nat}(h:fc S L cs ds):ai S L (.iref cs o) (.iref ds o):=by
 refine⟨fun O E a w v hs hv=>?_⟩
 have hlen:=h.out.1
 cases hv with
 | iref _ _ b p g hb hcell h1 hh=>exact .iref _ _ b p g (Or.inl hb) (fun j hj=>hcell j (by omega)) (fun j hj=>h1 j (by omega)) fun j hj=>by obtain⟨q1,q2⟩:=h.at hj;exact q2.out O E a w _ hs (hh j q1)
theorem ai.lt0{x:SV}(h:SV.Lt 0 x):ai S L x x:=⟨fun O E a w v hs hv=>RS.congr (E:=E) (m:=0) (fun l hl=>by omega) (Nat.zero_le _) (fun _ hb=>Or.inl hb) h hv⟩
theorem ai.same{x:SV}{m:Nat}(h:SV.Lt m x)(hm:m≤L.length)(hid:∀i,i<m→L.getD i 0=i):ai S L x x :=
 ⟨fun O E a w v hs hv=>RS.congr (E:=E) (m:=m) (fun l hl=>by simp only[Env.end];rw[hid l hl];exact⟨rfl,rfl⟩) hm (fun _ hb=>Or.inl hb) h hv⟩
structure DLe(x y:D):Prop where
 out:∀w Im v,RD w Im x v→RD w Im y v
theorem DLe.refl(x:D):DLe x x:=⟨fun _ _ _ h=>h⟩
theorem DLe.nil{z:Nat}{f:Nat→List D}:DLe (.val (.slice none 0 0)) (.sl z 0 f):=⟨fun w Im v h=>by
 cases h with|val _ _=>exact .sl z 0 f none 0 (fun _ _=>undef) (Q4 _) (by unfold maxLen;omega) (fun i hi=>by omega) (fun h=>by omega) (fun i j hi=>by omega)⟩
def fL:List D→List D→Prop
 | [],[]=>True
 | x::xs,y::ys=>DLe x y∧fL xs ys
 | _,_=>False
theorem fL.refl:∀xs:List D,fL xs xs
 | []=>trivial
 | x::xs=>⟨.refl x,fL.refl xs⟩
theorem fL.of{xs ys:List D}(h:xs=ys):fL xs ys:=by subst h;exact .refl _
theorem fL.out:∀{xs ys:List D},fL xs ys→xs.length=ys.length∧∀(j:Nat) (hx:j<xs.length) (hy:j<ys.length),DLe xs[j] ys[j]
 | [],[],_=>⟨rfl,fun j hx=>by simp at hx⟩
 | x::xs,y::ys,⟨h1,h2⟩=>by
  obtain⟨g1,g2⟩:=fL.out h2
  refine⟨by simp[g1],fun j hx hy=>?_⟩
  cases j with
  | zero=>exact h1
  | succ j=>exact g2 j (by simpa using hx) (by simpa using hy)
 | [],_::_,h=>h.elim
 | _::_,[],h=>h.elim
def blkS(S:St)(L:List Nat):Option Blk→Blk→Prop
 | some (.cells cs),.cells cs'=>fc S L cs cs'
 | some (.row e z n f),.row e' z' n' f'=>(e=e'∧z=z'∧n=n')∧∀i,i<n→fL (f i) (f' i)
 | some (.cf _ n g),.cf m' n' g'=>(n=n'∧m'≤L.length)∧∀j,j<n'→ai S L (g j) (g' j)∧SV.Lt m' (g' j)
 | some (.cells cs),.cf m' n' g'=>m'≤L.length∧fc S L cs ((List.range n').map g')∧∀j,j<n'→SV.Lt m' (g' j)
 | _,_=>False
def mT(S:St)(L:List Nat):List (Nat×Option Blk)→Prop
 | []=>True
 | (_,none)::r=>mT S L r
 | (i,some b)::r=>bif Nat.blt i L.length then blkS S L (lkh S.hp (L.getD i 0)) b∧mT S L r else False
theorem ik:∀{H:List (Nat×Option Blk)},mT S L H→∀i b,lkh H i=some b→i<L.length∧blkS S L (lkh S.hp (L.getD i 0)) b
 | [],_,i,b,h=>by simp[lkh]at h
 | (j,none)::r,hk,i,b,h=>ik (H:=r) hk i b (aq h).2
 | (j,some b')::r,hk,i,b,h=>by
  unfold mT at hk
  cases hb:Nat.blt j L.length with
  | false=>simp[hb]at hk
  | true =>
   simp only[hb,cond_true]at hk
   rw[ah]at h
   by_cases e:j=i
   ·subst e;rw[if_pos rfl]at h;cases h;exact⟨by simpa using hb,hk.1⟩
   ·rw[if_neg e]at h;exact ik hk.2 i b h
theorem af.laid{m m':Nat}{S:St}{x r:SV}{H':List (Nat×Option Blk)}(L:List Nat)(hlen:L.length=m')(hm:∀i,i<m→L.getD i 0=i)(hd:bi L=true)(hx:ai S L x r)(hH:mT S L H'):af m S x m' r H':=by
 refine⟨fun O E a w v hO hs hv=>?_⟩
 subst hlen
 have hblk:∀i b,lkh H' i=some b→i<L.length∧(∃b0,lkh S.hp (L.getD i 0)=some b0∧(b.real (E.κ (L.getD i 0))→b0.real (E.κ (L.getD i 0))))∧BS (E.end S L) L.length w i b:=by
  intro i b hb
  obtain⟨g1,g2⟩:=ik hH i b hb
  unfold blkS at g2
  split at g2
  ·rename_i cs cs' hl
   refine⟨g1,⟨_,hl,fun _=>trivial⟩,?_⟩
   obtain⟨vs,T,k1,k2,k3⟩:=hs.hp _ _ hl
   have hlen:=g2.out.1
   refine⟨vs,T,k1,by omega,fun j hj=>?_⟩
   obtain⟨q1,q2⟩:=g2.at hj
   exact⟨q2.out O E a w _ hs (k3 j q1).1,(k3 j q1).2⟩
  ·rename_i e z n f e' z' n' f' hl
   obtain⟨⟨rfl,rfl,rfl⟩,g3⟩:=g2
   refine⟨g1,⟨_,hl,fun h=>h⟩,?_⟩
   obtain⟨k1,k2,k3,k4,k5⟩:=hs.hp _ _ hl
   refine⟨k1,k2,k3,fun i hi=>by rw[← (g3 i hi).out.1];exact k4 i hi,fun hk=>?_⟩
   obtain⟨vs,q1,q2,q3,q4⟩:=k5 hk
   refine⟨vs,q1,q2,q3,fun i j hi hj=>?_⟩
   obtain⟨p1,p2⟩:=(g3 i hi).out
   exact((p2 j (by omega) hj).out _ _ _ (q4 i j hi (by omega))).mono (fun b hb=>Or.inl hb) fun _ _=>rfl
  ·rename_i m n g m' n' g' hl
   obtain⟨⟨rfl,hm'⟩,g3⟩:=g2
   refine⟨g1,⟨_,hl,fun h=>h⟩,?_⟩
   obtain⟨k0,hh⟩:=hs.hp _ _ hl
   refine⟨hm',fun hp=>?_⟩
   obtain⟨vs,T,k1,k2,k3⟩:=hh hp
   exact⟨vs,T,k1,k2,fun j hj=>⟨(g3 j hj).2,(g3 j hj).1.out O E a w _ hs (k3 j hj).2.1,(k3 j hj).2.2⟩⟩
  ·rename_i cs m' n' g' hl
   obtain⟨hm',g3,g4⟩:=g2
   refine⟨g1,⟨_,hl,fun _=>trivial⟩,?_⟩
   obtain⟨vs,T,k1,k2,k3⟩:=hs.hp _ _ hl
   have hlen:=g3.out.1
   refine⟨hm',fun _=>⟨vs,T,k1,by simp at hlen;omega,fun j hj=>?_⟩⟩
   obtain⟨q1,q2⟩:=g3.at (j:=j) (by simpa using hj)
   simp only[List.getElem_map,List.getElem_range]at q2
   exact⟨g4 j hj,q2.out O E a w _ hs (k3 j q1).1,(k3 j q1).2⟩
  ·exact g2.elim
 have hmem:∀i,i<L.length→L.getD i 0∈L:=fun i hi=>by simp[List.getD,Q0 hi]
 refine⟨E.end S L,⟨fun i b hb=>(hblk i b hb).2.2,fun i b hb=>(hblk i b hb).1,?_,?_⟩,fun l hl=>by simp only[Env.end];rw[hm l hl];exact⟨rfl,rfl⟩,?_,?_,fun b hb=>Or.inl hb,hx.out O E a w v hs hv⟩
 ·intro i j b b' hi hj hr hr' hne
  obtain⟨g1,⟨b0,g2,g3⟩,_⟩:=hblk i b hi
  obtain⟨g4,⟨b1,g5,g6⟩,_⟩:=hblk j b' hj
  exact hs.inj _ _ _ _ g2 g5 (g3 hr) (g6 hr') (bU hd g1 g4 hne)
 ·intro b hb
  rcases hb with hb|⟨l,y,hl,hr,rfl,hn⟩
  ·obtain⟨k1,_,k3⟩:=hs.im b hb
   refine⟨k1,fun i z hz hzr=>?_⟩
   obtain⟨g1,⟨b0,g2,g3⟩,_⟩:=hblk i z hz
   exact k3 _ _ g2 (g3 hzr)
  ·refine⟨(hs.hp _ _ hl).lt hr,fun i z hz hzr=>?_⟩
   obtain⟨g1,⟨b0,g2,g3⟩,_⟩:=hblk i z hz
   exact hs.inj _ _ _ _ g2 hl (g3 hzr) hr (fun e=>hn (e▸hmem i g1))
 ·rintro b ⟨i,z,hz,hzr,rfl⟩
  obtain⟨g1,⟨b0,g2,g3⟩,_⟩:=hblk i z hz
  exact⟨_,_,g2,g3 hzr,rfl⟩
 ·rintro b (hb|⟨l,y,hl,hr,rfl,hn⟩)
  ·exact Or.inl hb
  ·exact Or.inr ⟨l,y,hl,hr,rfl⟩
theorem af.sealB{m m':Nat}{S:St}{x r:SV}{H':List (Nat×Option Blk)}(L:List Nat)(hlen:L.length=m')(hm:idP L m=true)(hd:bi L=true)(hx:ai S L x r)(hH:mT S L H'):af m S x m' r H' :=
 af.laid L hlen (fun i hi=>by unfold idP at hm;rw[Q23]at hm;exact Q2 (hm i (by simpa using hi))) hd hx hH
theorem dB{m i:Nat}(h:i<m):(List.range m).getD i 0=i:=by simp[List.getD,h]
theorem kr{m l:Nat}(h:l<m):ij (List.range m) l=some l:=by
 cases e:ij (List.range m) l with
 | none=>exact absurd (List.mem_range.2 h) (eF e)
 | some j =>
  obtain⟨h1,h2⟩:=bq e
  rw[dB (by simpa using h1)]at h2
  rw[h2]
theorem ks{m l:Nat}(h:m≤l):ij (List.range m) l=none:=by
 cases e:ij (List.range m) l with
 | none=>rfl
 | some j =>
  obtain⟨h1,h2⟩:=bq e
  have h1:j<m:=by simpa using h1
  rw[dB h1]at h2
  omega
theorem nQ:∀{L:List Nat},L.Nodup→bi L=true
 | [],_=>rfl
 | x::r,h=>by
  rw[List.nodup_cons]at h
  unfold bi
  have:r.any (Nat.beq x)=false:=by
   rw[List.any_eq_false];intro y hy hb
   exact h.1 (Q2 hb▸hy)
  rw[this];exact nQ h.2
theorem af.sealM{m:Nat}{S:St}{x r:SV}(hx:ai S (List.range m) x r):af m S x m r [] :=
 af.laid (List.range m) (by simp) (fun i hi=>dB hi) (nQ List.nodup_range) hx trivial
theorem ai.ptrM{S:St}{m l o:Nat}(h:Nat.blt l m=true):ai S (List.range m) (.ptr l o) (.ptr l o):=.ptrL (kr (by simpa using h))
theorem ai.ptrN{S:St}{m l o:Nat}{cs ds:List SV}(h:Nat.ble m l=true)(hl:lkh S.hp l=some (.cells cs))(hs:fc S (List.range m) cs ds):ai S (List.range m) (.ptr l o) (.iref ds o):=.ptr (ks (zzb h)) hl hs
theorem ai.sameM{S:St}{m:Nat}{x:SV}(h:SV.Lt m x):ai S (List.range m) x x:=.same h (by simp) fun i hi=>dB hi
theorem ae.iref{L:List Nat}{cs cs0:List SV}{o:Nat}(h:a8 L cs cs0):ae L (.iref cs o) (.iref cs0 o):=by
 obtain⟨h1,h2⟩:=h.out
 refine⟨fun E nx w v hv=>?_⟩
 cases hv with
 | iref _ _ b p g hb hcell h3 hh =>
  refine .iref _ _ b p g hb (fun j hj=>hcell j (by omega)) (fun j hj=>h3 j (by omega)) fun j hj=>?_
  obtain⟨x,g1,g2⟩:=h2 j _ (Q0 hj)
  obtain⟨q1,q2⟩:=Q3 g1
  have:=hh j q1
  rw[q2]at this
  exact g2.out _ _ _ _ this
theorem ae.same{L:List Nat}{x:SV}{m:Nat}(h:SV.Lt m x)(hm:m≤L.length)(hid:∀i,i<m→L.getD i 0=i):ae L x x :=
 ⟨fun E nx w v hv=>RS.congr (E:=E) (m:=m) (fun l hl=>by simp only;rw[hid l hl];exact⟨_root_.rfl,_root_.rfl⟩) hm (fun _ hb=>hb) h hv⟩
theorem zA{p:Prop}(h:p:=by first|((((conv=>whnf);repeat' (first|exact trivial|exact ae.rfl rfl|exact ae.ptr rfl|exact ae.sl rfl|((with_reducible refine ae.fn ?_);(conv=>whnf))|((refine ae.iref ?_);(conv=>whnf))|exact ae.free SV.Le.nil rfl|((with_reducible refine And.intro ?_ ?_)<;>(conv=>whnf))|((refine ae.free ?_ rfl);(repeat' (first|exact SV.Le.rfl _|exact SV.Le.nil|exact SV.Le.sl (fun i hi=>by(rcases i with _|_|_|_|i)<;>first|rfl|(exfalso;omega))|with_reducible refine SV.Le.agg ?_|exact Les.nil|with_reducible refine Les.cons ?_ ?_))))));done)|fail "no"):p:=h
theorem zH{p:Prop}(h:p:=by first|((((conv=>whnf);repeat' (first|exact trivial|exact ae.rfl rfl|exact ae.ptr rfl|exact ae.sl rfl|((with_reducible refine ae.fn ?_);(conv=>whnf))|((refine ae.iref ?_);(conv=>whnf))|exact ae.free SV.Le.nil rfl|exact⟨rfl,rfl,rfl⟩|exact fun i hi=>rfl|exact(fun i hi=>by(rcases i with _|i)<;>first|rfl|(exfalso;omega))|((with_reducible refine And.intro ?_ ?_)<;>(conv=>whnf)))));done)|fail "no"):p:=h
theorem zK{p:Prop}(h:p:=by first|(((conv=>whnf);repeat' (first|exact trivial|((refine And.intro rfl ?_);(conv=>whnf))));done)|fail "no"):p:=h
theorem zB{p:Prop}(h:p:=by first|((first|exact oH (zzb rfl) (by omega)|omega);done)|fail "no"):p:=h
theorem zO{p:Prop}(h:p:=by first|((first|exact IntWalk.i64_in _ (by omega)|exact IntWalk.u64_in _ (by omega)|exact IntWalk.u8_in _ (by omega)|exact IntWalk.u32_in _ (by omega)|exact IntWalk.i32_in _ (by omega)|exact IntWalk.u16_in _ (by omega));done)|fail "no"):p:=h
theorem zC{p:Prop}(h:p:=by first|((first|omega|exact zzb rfl);done)|fail "no"):p:=h
theorem zE{p:Prop}(h:p:=by first|((first|exact trivial|exact ai.any|exact ai.d|exact ai.ptrL rfl|exact ai.slL rfl|exact ai.lt0 (SV.Lt.of rfl)|exact ai.same (by assumption) (zzb rfl) (fun i hi=>id5 hi)|exact ai.le ai.d (SV.Le.i (by omega))|exact⟨rfl,rfl,rfl⟩|exact⟨rfl,zzb rfl⟩|exact dir_seal (by assumption)|exact dir_sealR (by assumption) (fun l hl=>by rcases l with _|_|_|_|_|l<;>first|rfl|omega)|exact fun i hi=>fL.refl _|exact ai.le ai.d SV.Le.nil|exact ai.le (ai.sl rfl rfl (by omega)) (SV.Le.sl fun i hi=>by simp only[Q19]));done)|fail "no"):p:=h
theorem zA9{p:Prop}(h:p:=by first|((first|exact Les.nil|exact SV.Le.rfl _|exact SV.Le.sl (fun i hi=>by(rcases i with _|_|_|_|i)<;>first|rfl|(exfalso;omega)));done)|fail "no"):p:=h
theorem zB9{p:Prop}(h:p:=by first|((first|exact trivial|exact ae.rfl rfl|exact ae.sl rfl|exact⟨rfl,rfl,rfl⟩|exact fun i hi=>rfl|exact fun i hi=>ite_row);done)|fail "no"):p:=h
theorem zC9{p:Prop}(h:p:=by first|((first|exact trivial|exact ai.any|exact ai.d|exact ai.sl14|exact ai.ptrL rfl|exact ai.slL rfl|exact ai.lt0 (SV.Lt.of rfl)|exact ai.same (by assumption) (zzb rfl) (fun i hi=>id13 (Nat.lt_of_lt_of_le hi (zzb rfl)))|exact ai.le ai.d (SV.Le.i (by omega))|exact⟨rfl,rfl,rfl⟩|exact⟨rfl,zzb rfl⟩|exact l8 (by assumption)|exact pt (by assumption) (fun l hl=>by rcases l with _|_|_|_|_|_|_|_|_|_|_|_|_|l<;>first|rfl|omega)|exact aR (cu _ _)|exact aw (cu _ _) rfl|exact pR _ _|exact fun i hi=>fL.refl _|exact ai.le (ai.sl rfl rfl (by omega)) (SV.Le.sl fun i hi=>by simp only[Q19]));done)|fail "no"):p:=h
theorem zD9{p:Prop}(h:p:=by first|((first|exact trivial|exact ai.d|exact ai.ptrM rfl|exact ai.sameM (by assumption)|exact ai.lt0 (SV.Lt.of rfl)|exact ai.sameM (SV.Lt.of rfl));done)|fail "no"):p:=h
theorem zE9{p:Prop}(h:p:=by first|((first|exact trivial|exact ae.rfl rfl|exact ae.sl13|exact ae.sl rfl|exact⟨rfl,rfl,rfl⟩|exact⟨rfl,zzb rfl⟩|exact dR (by assumption)|exact cI (by assumption) (fun l hl=>by rcases l with _|_|_|_|_|_|_|_|_|_|_|_|_|l<;>first|rfl|omega)|exact eh (cu _ _)|exact s5 _ _ (by first|rfl|omega)|exact b8 (cu _ _) rfl|exact fun i hi=>rfl);done)|fail "no"):p:=h
theorem zF9{p:Prop}(h:p:=by first|((first|exact trivial|exact ae.rfl rfl|exact ae.ptr rfl|exact ae.sl rfl);done)|fail "no"):p:=h
theorem zG9{p:Prop}(h:p:=by first|((first|exact trivial|exact SV.Le.rfl _|exact⟨rfl,rfl,rfl⟩|exact⟨rfl,zzb rfl⟩|exact dR (by assumption)|exact cI (by assumption) (fun l hl=>by rcases l with _|_|_|_|_|_|_|_|_|_|_|_|_|l<;>first|rfl|omega)|exact eh (cu _ _)|exact b8 (cu _ _) rfl|exact fun i hi=>rfl);done)|fail "no"):p:=h
theorem zH9{p:Prop}(h:p:=by first|((first|exact trivial|exact SV.Lt.mono (zzb rfl) hlt);done)|fail "no"):p:=h
theorem zI9{p:Prop}(h:p:=by first|((first|exact trivial|exact ae.rfl rfl|exact ae.sl rfl|exact⟨rfl,rfl,rfl⟩|exact⟨rfl,zzb rfl⟩|exact eh (cu _ _)|exact fun i hi=>rfl);done)|fail "no"):p:=h
theorem zJ9{p:Prop}(h:p:=by first|((first|exact trivial|exact ai.d|exact ai.sl14|exact ai.slL rfl|exact⟨rfl,rfl,rfl⟩|exact⟨rfl,zzb rfl⟩|exact aw (cu _ _) rfl|exact fun i hi=>fL.refl _);done)|fail "no"):p:=h
theorem zK9{p:Prop}(h:p:=by first|((first|exact trivial|exact ae.rfl rfl|exact ae.ptr rfl|exact ae.sl rfl|exact⟨rfl,rfl,rfl⟩|exact⟨rfl,zzb rfl⟩|exact zzb rfl|exact(fun j _=>cu _ _ j)|exact fun i hi=>rfl);done)|fail "no"):p:=h
theorem zL9{p:Prop}(h:p:=by first|((first|exact trivial|exact ai.d|exact ai.slX (zzb rfl) rfl|exact⟨rfl,rfl,rfl⟩|exact⟨rfl,zzb rfl⟩|exact aw (cu _ _) rfl|exact fun i hi=>fL.refl _);done)|fail "no"):p:=h
theorem zM9{p:Prop}(h:p:=by first|((first|exact trivial|exact bH (by decide) (fun l hl=>by rcases l with _|_|_|_|l<;>first|exact⟨zzb rfl,rfl⟩|exact⟨zzb rfl,rfl,rfl⟩|omega) (fun q hq=>by rcases q with _|_|_|_|_|_|_|_|_|q<;>first|exact⟨zzb rfl,rfl⟩|omega)|exact cm (by decide) (by decide) (fun l hl=>by rcases l with _|_|_|_|l<;>first|exact⟨zzb rfl,rfl⟩|exact⟨zzb rfl,rfl,rfl⟩|omega) (fun q hq=>by rcases q with _|_|_|_|_|_|_|_|_|q<;>first|exact⟨zzb rfl,rfl⟩|omega)|exact ae.rfl rfl|exact ae.ptr rfl|exact ae.sl rfl|exact⟨rfl,rfl,rfl⟩|exact⟨rfl,zzb rfl⟩|exact di (by assumption) rfl|exact fM (by assumption)|exact fun i hi=>rfl);done)|fail "no"):p:=h
theorem zN9{p:Prop}(h:p:=by first|((first|exact trivial|exact ai.d|exact ib (by decide) (fun l hl=>by rcases l with _|_|_|_|l<;>first|exact⟨zzb rfl,rfl⟩|exact⟨zzb rfl,rfl,rfl⟩|omega) (fun q hq=>by rcases q with _|_|_|_|_|_|_|_|_|q<;>first|exact⟨zzb rfl,rfl⟩|omega)|exact ai.slX (zzb rfl) rfl|exact ai.ptrL rfl|exact⟨rfl,rfl,rfl⟩|exact⟨rfl,zzb rfl⟩|exact np (by assumption) rfl|exact fun i hi=>fL.refl _);done)|fail "no"):p:=h
theorem wz9:(∀{p:Prop} [Decidable p],(decide p=true)=p)∧(∀{p:Prop} [Decidable p],decide p=false↔¬p)∧(∀{a b:Bool},((a&&b)=true)=(a=true∧b=true))∧(∀{a b:Bool},((a||b)=true)=(a=true∨b=true))∧(∀(x y:Bool),((x&&y)=false)=(x=false∨y=false))∧(∀(x y:Bool),((x||y)=false)=(x=false∧y=false))∧(∀{b:Bool},((!b)=true)=(b=false))∧(∀{b:Bool},((!b)=false)=(b=true))∧(∀{α:Type} [BEq α] [LawfulBEq α] {a b:α},(a==b)=true↔a=b)∧(∀{α:Type} [BEq α] [LawfulBEq α] {a b:α},(a != b)=true↔a≠b)∧(∀{α:Type} (a b:α),(a≠b)=¬(a=b))∧(∀{α:Type} [BEq α] [LawfulBEq α] {a b:α},(a==b)=false↔a≠b)∧(∀{α:Type} [BEq α] [LawfulBEq α] {a b:α},(a != b)=false↔a=b)∧(∀(b:Bool),(¬(b=true))=(b=false))∧(∀(b:Bool),(¬(b=false))=(b=true)):=⟨by intros;first|(simp;done)|(rename_i x y;cases x<;>cases y<;>simp),by intros;first|(simp;done)|(rename_i x y;cases x<;>cases y<;>simp),by intros;first|(simp;done)|(rename_i x y;cases x<;>cases y<;>simp),by intros;first|(simp;done)|(rename_i x y;cases x<;>cases y<;>simp),by intros;first|(simp;done)|(rename_i x y;cases x<;>cases y<;>simp),by intros;first|(simp;done)|(rename_i x y;cases x<;>cases y<;>simp),by intros;first|(simp;done)|(rename_i x y;cases x<;>cases y<;>simp),by intros;first|(simp;done)|(rename_i x y;cases x<;>cases y<;>simp),by intros;first|(simp;done)|(rename_i x y;cases x<;>cases y<;>simp),by intros;first|(simp;done)|(rename_i x y;cases x<;>cases y<;>simp),by intros;first|(simp;done)|(rename_i x y;cases x<;>cases y<;>simp),by intros;first|(simp;done)|(rename_i x y;cases x<;>cases y<;>simp),by intros;first|(simp;done)|(rename_i x y;cases x<;>cases y<;>simp),by intros;first|(simp;done)|(rename_i x y;cases x<;>cases y<;>simp),by intros;first|(simp;done)|(rename_i x y;cases x<;>cases y<;>simp)⟩
def wpCan:Code→Bool
 | .seq _ _=>true
 | .block _ _=>true
 | .skip=>true
 | .ret=>true
 | .exit _=>true
 | .region _ _ _=>true
 | .cond _ _ _=>true
 | _=>false
def wpA(C:Cx)(c:Code)(S:St)(Q:Exit→St→Prop):Prop :=
 match c with
 | .seq x y=>Wp C x S (thenQ C y Q)
 | .block id c=>Wp C c S (oK id Q)
 | .skip=>Q .normal S
 | .ret=>Q .ret S
 | .exit id=>Q (.exit id) S
 | .region _ ⟨l⟩ false=>nb C l l S (Q .normal)
 | .region _ ⟨l⟩ true=>match S with
  | ⟨nt,nx,fr,hp⟩=>cntK l nx fun m=>cB C l nx l 0 ⟨nt,m,fr,hp⟩ fun efs Sn=>dy l efs nx ⟨nt,m,fr,hp⟩=true∧Q .normal Sn
 | .cond x c d=>condK C (ev S x) S c d Q
 | _=>False
theorem Wp.any{C:Cx}{c:Code}{S:St}{Q:Exit→St→Prop}(hm:C.P.follows .mixedOrders=true)(hc:wpCan c=true)(h:wpA C c S Q):Wp C c S Q:=by
 cases c with
 | seq x y=>exact .seq h
 | block id c=>exact .block h
 | skip=>exact .skip h
 | ret=>exact .ret h
 | exit id=>exact .exit h
 | region id a b =>
  obtain⟨l⟩:=a
  cases b with
  | false=>exact .region h
  | true=>obtain⟨nt,nx,fr,hp⟩:=S;exact .drawL hm h
 | cond x c d=>exact .cond h
 | _=>exact h.elim
theorem zN{a b:Nat}(h:Nat.ble a b=true:=by exact rfl):a≤b:=zzb h
theorem zV{a b c d}{q:Prop}(h2:q)(h:dy a b c d=true:=by kernel_rfl):dy a b c d=true∧q:=⟨h,h2⟩
theorem zz0{p:Prop}(h:p:=by first|(((conv=>whnf);(repeat' (first|exact zC9|((refine ai.fn ?_);(conv=>whnf))|((refine ai.tup ?_);(conv=>whnf))|((refine ai.iref ?_);(conv=>whnf))|((refine And.intro ?_ ?_)<;>(conv=>whnf)))));done)|fail "no"):p:=h
theorem zz1{p:Prop}(h:p:=by first|((((conv=>whnf);repeat' (first|exact zE9|exact eh (qo _)|((with_reducible refine And.intro ?_ ?_)<;>(conv=>whnf)))));done)|fail "no"):p:=h
theorem zz2{p:Prop}(h:p:=by first|(((conv=>whnf);(repeat' (first|exact zC9|exact aR (qo _)|((refine And.intro ?_ ?_)<;>(conv=>whnf)))));done)|fail "no"):p:=h
theorem zz3{p:Prop}(h:p:=by first|((((conv=>whnf);repeat' (first|exact zM9|((with_reducible refine And.intro ?_ ?_)<;>(conv=>whnf)))));done)|fail "no"):p:=h
theorem zz4{p:Prop}(h:p:=by first|(((conv=>whnf);(repeat' (first|exact zC9|exact aw (qo _) rfl|((refine And.intro ?_ ?_)<;>(conv=>whnf)))));done)|fail "no"):p:=h
theorem zz5{p:Prop}(h:p:=by first|(((conv=>whnf);(repeat' (first|exact zC9|exact aR (qo _)|((refine And.intro ?_ ?_)<;>(conv=>whnf))|(intro i hi;refine fL.of ?_;dsimp only;first|(rw[if_neg (by assumption)];done)|(rw[if_pos (by assumption)];rfl)))));done)|fail "no"):p:=h
theorem zz6{p:Prop}(h:p:=by first|(((conv=>whnf);(repeat' (first|exact zC9|((refine ai.ptr rfl rfl ?_);(conv=>whnf))|((refine ai.fn ?_);(conv=>whnf))|((refine ai.tup ?_);(conv=>whnf))|((refine ai.iref ?_);(conv=>whnf))|((refine And.intro ?_ ?_)<;>(conv=>whnf)))));done)|fail "no"):p:=h
theorem zz7{p:Prop}(h:p:=by first|((((conv=>whnf);repeat' (first|exact zH9|((with_reducible refine And.intro ?_ ?_)<;>(conv=>whnf)))));done)|fail "no"):p:=h
theorem zz8{p:Prop}(h:p:=by first|((((conv=>whnf);repeat' (first|exact trivial|((with_reducible refine And.intro ?_ ?_)<;>(conv=>whnf)))));done)|fail "no"):p:=h
theorem zz9{p:Prop}(h:p:=by first|((exact oH zN (by omega));done)|fail "no"):p:=h
theorem s4{p:Prop}(h:p:=by first|((((conv=>whnf);repeat' (first|exact zH9|exact SV.Lt.mono zN (aO lt2 (fun l hl=>by rcases l with _|_|_|_|_|l<;>first|exact zN|omega) rfl)|((with_reducible refine And.intro ?_ ?_)<;>(conv=>whnf)))));done)|fail "no"):p:=h
theorem s3{p:Prop}(h:p:=by first|((exact su (fun l hl=>by rcases l with _|_|_|_|_|l<;>first|exact⟨by decide,rfl⟩|rfl|omega) (lt_caps hlt5));done)|fail "no"):p:=h
theorem sZ{p:Prop}(h:p:=by first|((((conv=>whnf);repeat' (first|exact zI9|exact r7 q5 (fun l hl=>bm hl) (fun l hl=>by rcases l with _|_|_|_|_|_|_|_|_|_|_|_|_|l<;>first|exact⟨by decide,rfl⟩|rfl|omega) zN|exact eh (qo _)|((with_reducible refine And.intro ?_ ?_)<;>(conv=>whnf)))));done)|fail "no"):p:=h
theorem sY{p:Prop}(h:p:=by first|((((conv=>whnf);repeat' (first|exact trivial|exact renL_z lt2 (fun l hl=>by rcases l with _|_|_|_|_|l<;>first|exact .inl zN|exact .inr rfl|omega)|((with_reducible refine And.intro ?_ ?_)<;>(conv=>whnf)))));done)|fail "no"):p:=h
theorem sX{p:Prop}(h:p:=by first|((exact⟨ae.ptr rfl,trivial⟩);done)|fail "no"):p:=h
theorem sW{p:Prop}(h:p:=by first|((((conv=>whnf);repeat' (first|exact zK9|exact g1_arg (by decide) hn hne (fun l hl=>by rcases l with _|_|_|_|l<;>first|exact⟨zzb rfl,rfl,rfl⟩|exact⟨zzb rfl,rfl⟩|omega) (fun k hk hne'=>by rcases k with _|_|_|_|_|_|_|_|_|k<;>first|exact⟨zzb rfl,rfl⟩|exact absurd rfl hne'|omega)|exact eh (qo _)|((with_reducible refine And.intro ?_ ?_)<;>(conv=>whnf)))));done)|fail "no"):p:=h
theorem zz16{p:Prop}(h:p:=by first|(((conv=>whnf);(repeat' (first|exact zC9)));done)|fail "no"):p:=h
theorem zz17{p:Prop}(h:p:=by first|((((conv=>whnf);repeat' (first|exact zE9|exact b8 (qo _) rfl|((with_reducible refine And.intro ?_ ?_)<;>(conv=>whnf)))));done)|fail "no"):p:=h
theorem zz18{p:Prop}(h:p:=by first|((((conv=>whnf);repeat' (first|exact zF9|((refine ae.iref ?_);(conv=>whnf))|((with_reducible refine And.intro ?_ ?_)<;>(conv=>whnf)))));done)|fail "no"):p:=h
theorem zz19{p:Prop}(h:p:=by first|((((conv=>whnf);repeat' (first|exact zF9|((refine ae.fn ?_);(conv=>whnf))|((refine ae.iref ?_);(conv=>whnf))|((with_reducible refine And.intro ?_ ?_)<;>(conv=>whnf)))));done)|fail "no"):p:=h
theorem zz20{p:Prop}(h:p:=by first|(((conv=>whnf);(repeat' (first|exact ai.d)));done)|fail "no"):p:=h
theorem zz21{p:Prop}(h:p:=by first|(((conv=>whnf);(repeat' (first|exact zC9|((refine ai.tup ?_);(conv=>whnf))|((refine And.intro ?_ ?_)<;>(conv=>whnf)))));done)|fail "no"):p:=h
theorem zz22{p:Prop}(h:p:=by first|((((conv=>whnf);repeat' (first|exact zF9|((with_reducible refine And.intro ?_ ?_)<;>(conv=>whnf)))));done)|fail "no"):p:=h
theorem zz23{p:Prop}(h:p:=by first|((((conv=>whnf);(refine And.intro (pu rfl rfl q5 (fun l hl=>by rcases l with _|_|_|_|_|_|_|_|_|_|_|_|_|l<;>first|rfl|omega) rfl) ?_);(conv=>whnf);(refine And.intro rfl ?_);(conv=>whnf);(refine And.intro rfl ?_);(conv=>whnf);(refine And.intro (cK (n:=9) (f:=xF who x) rfl rfl (cu who x) rfl rfl) ?_);(conv=>whnf);(refine And.intro (cK (n:=(o 0).n) (f:=(o 0).f) rfl rfl (qo 0) rfl rfl) ?_);(conv=>whnf);(refine And.intro (cK (n:=(o 1).n) (f:=(o 1).f) rfl rfl (qo 1) rfl rfl) ?_);(conv=>whnf);(refine And.intro (cK (n:=(o 2).n) (f:=(o 2).f) rfl rfl (qo 2) rfl rfl) ?_);(conv=>whnf);(refine And.intro (cK (n:=(o 3).n) (f:=(o 3).f) rfl rfl (qo 3) rfl rfl) ?_);(conv=>whnf);(refine And.intro (cK (n:=(o 4).n) (f:=(o 4).f) rfl rfl (qo 4) rfl rfl) ?_);(conv=>whnf);(refine And.intro (cK (n:=(o 5).n) (f:=(o 5).f) rfl rfl (qo 5) rfl rfl) ?_);(conv=>whnf);(refine And.intro (cK (n:=(o 6).n) (f:=(o 6).f) rfl rfl (qo 6) rfl rfl) ?_);(conv=>whnf);(refine And.intro (cK (n:=(o 7).n) (f:=(o 7).f) rfl rfl (qo 7) rfl rfl) ?_);(conv=>whnf);exact trivial));done)|fail "no"):p:=h
theorem zz24{p:Prop}(h:p:=by first|((((conv=>whnf);repeat' (first|exact zB9|((with_reducible refine And.intro ?_ ?_)<;>(conv=>whnf)))));done)|fail "no"):p:=h
end
abbrev zP:=ec Tryz.prog
theorem zT{P:Program}{t:Nat}{i:TI}(h:ec P t i:=by exact⟨by kernel_rfl,by kernel_rfl,fun h=>by cases h⟩):ec P t i:=h
def ti1:TI:=⟨.func,1,8,[.nilFunc],false⟩
theorem ti1_ok:zP 1 ti1:=zT
def ti2:TI:=⟨.int .i64,1,8,[.int .i64 0],false⟩
theorem ti2_ok:zP 2 ti2:=zT
def ti3:TI:=⟨.int .i64,1,8,[.int .i64 0],false⟩
theorem ti3_ok:zP 3 ti3:=zT
def ti4:TI:=⟨.bool,1,1,[.bool false],false⟩
theorem ti4_ok:zP 4 ti4:=zT
def ti5:TI:=⟨.int .u8,1,1,[.int .u8 0],false⟩
theorem ti5_ok:zP 5 ti5:=zT
def ti6:TI:=⟨.int .u8,1,1,[.int .u8 0],false⟩
theorem ti6_ok:zP 6 ti6:=zT
def ti7:TI:=⟨.struct [(0,2),(1,3),(2,4),(3,6)],4,24,[.int .i64 0,.int .i64 0,.bool false,.int .u8 0],false⟩
theorem ti7_ok:zP 7 ti7:=zT
def ti8:TI:=⟨.struct [(0,2),(1,3),(2,4),(3,6)],4,24,[.int .i64 0,.int .i64 0,.bool false,.int .u8 0],false⟩
theorem ti8_ok:zP 8 ti8:=zT
def ti9:TI:=⟨.str,1,16,[.string ⟨#[]⟩],false⟩
theorem ti9_ok:zP 9 ti9:=zT
def ti10:TI:=⟨.str,1,16,[.string ⟨#[]⟩],false⟩
theorem ti10_ok:zP 10 ti10:=zT
def ti11:TI:=⟨.str,1,16,[.string ⟨#[]⟩],false⟩
theorem ti11_ok:zP 11 ti11:=zT
def ti12:TI:=⟨.int .u64,1,8,[.int .u64 0],false⟩
theorem ti12_ok:zP 12 ti12:=zT
def ti13:TI:=⟨.struct [(0,9),(1,12)],2,24,[.string ⟨#[]⟩,.int .u64 0],false⟩
theorem ti13_ok:zP 13 ti13:=zT
def ti14:TI:=⟨.struct [(0,9),(1,12)],2,24,[.string ⟨#[]⟩,.int .u64 0],false⟩
theorem ti14_ok:zP 14 ti14:=zT
def ti15:TI:=⟨.ptr 247,1,8,[.pointer none],false⟩
theorem ti15_ok:zP 15 ti15:=zT
def ti16:TI:=⟨.ptr 250,1,8,[.pointer none],false⟩
theorem ti16_ok:zP 16 ti16:=zT
def ti17:TI:=⟨.ptr 258,1,8,[.pointer none],false⟩
theorem ti17_ok:zP 17 ti17:=zT
def ti18:TI:=⟨.struct [(0,17)],1,8,[.pointer none],false⟩
theorem ti18_ok:zP 18 ti18:=zT
def ti19:TI:=⟨.struct [(0,17)],1,8,[.pointer none],false⟩
theorem ti19_ok:zP 19 ti19:=zT
def ti20:TI:=⟨.other,1,16,[.nilIface],false⟩
theorem ti20_ok:zP 20 ti20:=zT
def ti21:TI:=⟨.int .i32,1,4,[.int .i32 0],false⟩
theorem ti21_ok:zP 21 ti21:=zT
def ti22:TI:=⟨.func,1,8,[.nilFunc],false⟩
theorem ti22_ok:zP 22 ti22:=zT
def ti23:TI:=⟨.slice 50,1,24,[.slice none 0 0],false⟩
theorem ti23_ok:zP 23 ti23:=zT
def ti24:TI:=⟨.func,1,8,[.nilFunc],false⟩
theorem ti24_ok:zP 24 ti24:=zT
def ti25:TI:=⟨.slice 29,1,24,[.slice none 0 0],false⟩
theorem ti25_ok:zP 25 ti25:=zT
def ti26:TI:=⟨.slice 34,1,24,[.slice none 0 0],false⟩
theorem ti26_ok:zP 26 ti26:=zT
def ti27:TI:=⟨.struct [(0,23),(1,3),(2,25),(3,26),(4,4)],5,88,[.slice none 0 0,.int .i64 0,.slice none 0 0,.slice none 0 0,.bool false],false⟩
theorem ti27_ok:zP 27 ti27:=zT
def ti28:TI:=⟨.struct [(0,23),(1,3),(2,25),(3,26),(4,4)],5,88,[.slice none 0 0,.int .i64 0,.slice none 0 0,.slice none 0 0,.bool false],false⟩
theorem ti28_ok:zP 28 ti28:=zT
def ti29:TI:=⟨.slice 32,1,24,[.slice none 0 0],false⟩
theorem ti29_ok:zP 29 ti29:=zT
def ti30:TI:=⟨.slice 5,1,24,[.slice none 0 0],false⟩
theorem ti30_ok:zP 30 ti30:=zT
def ti31:TI:=⟨.struct [(0,5),(1,3),(2,30),(3,2)],4,48,[.int .u8 0,.int .i64 0,.slice none 0 0,.int .i64 0],false⟩
theorem ti31_ok:zP 31 ti31:=zT
def ti32:TI:=⟨.struct [(0,5),(1,3),(2,30),(3,2)],4,48,[.int .u8 0,.int .i64 0,.slice none 0 0,.int .i64 0],false⟩
theorem ti32_ok:zP 32 ti32:=zT
def ti33:TI:=⟨.struct [(0,3),(1,2)],2,16,[.int .i64 0,.int .i64 0],true⟩
theorem ti33_ok:zP 33 ti33:=⟨by kernel_rfl,by kernel_rfl,fun _=>⟨by kernel_rfl,by kernel_rfl,by kernel_rfl⟩⟩
def ti34:TI:=⟨.struct [(0,3),(1,2)],2,16,[.int .i64 0,.int .i64 0],true⟩
theorem ti34_ok:zP 34 ti34:=⟨by kernel_rfl,by kernel_rfl,fun _=>⟨by kernel_rfl,by kernel_rfl,by kernel_rfl⟩⟩
def ti35:TI:=⟨.slice 46,1,24,[.slice none 0 0],false⟩
theorem ti35_ok:zP 35 ti35:=zT
def ti36:TI:=⟨.slice 104,1,24,[.slice none 0 0],false⟩
theorem ti36_ok:zP 36 ti36:=zT
def ti37:TI:=⟨.struct [(0,35),(1,36),(2,2),(3,3),(4,2),(5,3)],6,80,[.slice none 0 0,.slice none 0 0,.int .i64 0,.int .i64 0,.int .i64 0,.int .i64 0],false⟩
theorem ti37_ok:zP 37 ti37:=zT
def ti38:TI:=⟨.struct [(0,35),(1,36),(2,2),(3,3),(4,2),(5,3)],6,80,[.slice none 0 0,.slice none 0 0,.int .i64 0,.int .i64 0,.int .i64 0,.int .i64 0],false⟩
theorem ti38_ok:zP 38 ti38:=zT
def ti39:TI:=⟨.int .i64,1,8,[.int .i64 0],false⟩
theorem ti39_ok:zP 39 ti39:=zT
def ti41:TI:=⟨.func,1,8,[.nilFunc],false⟩
theorem ti41_ok:zP 41 ti41:=zT
def ti42:TI:=⟨.func,1,8,[.nilFunc],false⟩
theorem ti42_ok:zP 42 ti42:=zT
def ti43:TI:=⟨.struct [(0,39),(1,4),(2,2),(3,2),(4,2),(5,2)],6,48,[.int .i64 0,.bool false,.int .i64 0,.int .i64 0,.int .i64 0,.int .i64 0],true⟩
theorem ti43_ok:zP 43 ti43:=⟨by kernel_rfl,by kernel_rfl,fun _=>⟨by kernel_rfl,by kernel_rfl,by kernel_rfl⟩⟩
def ti44:TI:=⟨.struct [(0,39),(1,4),(2,2),(3,2),(4,2),(5,2)],6,48,[.int .i64 0,.bool false,.int .i64 0,.int .i64 0,.int .i64 0,.int .i64 0],true⟩
theorem ti44_ok:zP 44 ti44:=⟨by kernel_rfl,by kernel_rfl,fun _=>⟨by kernel_rfl,by kernel_rfl,by kernel_rfl⟩⟩
def ti45:TI:=⟨.struct [(0,3),(1,32),(5,3),(6,3),(7,44)],13,120,[.int .i64 0,.int .u8 0,.int .i64 0,.slice none 0 0,.int .i64 0,.int .i64 0,.int .i64 0,.int .i64 0,.bool false,.int .i64 0,.int .i64 0,.int .i64 0,.int .i64 0],false⟩
theorem ti45_ok:zP 45 ti45:=zT
def ti46:TI:=⟨.struct [(0,3),(1,32),(5,3),(6,3),(7,44)],13,120,[.int .i64 0,.int .u8 0,.int .i64 0,.slice none 0 0,.int .i64 0,.int .i64 0,.int .i64 0,.int .i64 0,.bool false,.int .i64 0,.int .i64 0,.int .i64 0,.int .i64 0],false⟩
theorem ti46_ok:zP 46 ti46:=zT
def ti47:TI:=⟨.struct [(0,2),(1,2)],2,16,[.int .i64 0,.int .i64 0],true⟩
theorem ti47_ok:zP 47 ti47:=⟨by kernel_rfl,by kernel_rfl,fun _=>⟨by kernel_rfl,by kernel_rfl,by kernel_rfl⟩⟩
def ti48:TI:=⟨.struct [(0,2),(1,2)],2,16,[.int .i64 0,.int .i64 0],true⟩
theorem ti48_ok:zP 48 ti48:=⟨by kernel_rfl,by kernel_rfl,fun _=>⟨by kernel_rfl,by kernel_rfl,by kernel_rfl⟩⟩
def ti49:TI:=⟨.struct [(0,5),(1,48),(3,3)],4,32,[.int .u8 0,.int .i64 0,.int .i64 0,.int .i64 0],true⟩
theorem ti49_ok:zP 49 ti49:=⟨by kernel_rfl,by kernel_rfl,fun _=>⟨by kernel_rfl,by kernel_rfl,by kernel_rfl⟩⟩
def ti50:TI:=⟨.struct [(0,5),(1,48),(3,3)],4,32,[.int .u8 0,.int .i64 0,.int .i64 0,.int .i64 0],true⟩
theorem ti50_ok:zP 50 ti50:=⟨by kernel_rfl,by kernel_rfl,fun _=>⟨by kernel_rfl,by kernel_rfl,by kernel_rfl⟩⟩
def ti51:TI:=⟨.func,1,8,[.nilFunc],false⟩
theorem ti51_ok:zP 51 ti51:=zT
def ti52:TI:=⟨.ptr 84,1,8,[.pointer none],false⟩
theorem ti52_ok:zP 52 ti52:=zT
def ti54:TI:=⟨.func,1,8,[.nilFunc],false⟩
theorem ti54_ok:zP 54 ti54:=zT
def ti55:TI:=⟨.ptr 58,1,8,[.pointer none],false⟩
theorem ti55_ok:zP 55 ti55:=zT
def ti56:TI:=⟨.slice 60,1,24,[.slice none 0 0],false⟩
theorem ti56_ok:zP 56 ti56:=zT
def ti57:TI:=⟨.struct [(0,52),(1,56),(2,38)],8,112,[.pointer none,.slice none 0 0,.slice none 0 0,.slice none 0 0,.int .i64 0,.int .i64 0,.int .i64 0,.int .i64 0],false⟩
theorem ti57_ok:zP 57 ti57:=zT
def ti58:TI:=⟨.struct [(0,52),(1,56),(2,38)],8,112,[.pointer none,.slice none 0 0,.slice none 0 0,.slice none 0 0,.int .i64 0,.int .i64 0,.int .i64 0,.int .i64 0],false⟩
theorem ti58_ok:zP 58 ti58:=zT
def ti59:TI:=⟨.struct [(0,29),(1,32),(5,3)],6,80,[.slice none 0 0,.int .u8 0,.int .i64 0,.slice none 0 0,.int .i64 0,.int .i64 0],false⟩
theorem ti59_ok:zP 59 ti59:=zT
def ti60:TI:=⟨.struct [(0,29),(1,32),(5,3)],6,80,[.slice none 0 0,.int .u8 0,.int .i64 0,.slice none 0 0,.int .i64 0,.int .i64 0],false⟩
theorem ti60_ok:zP 60 ti60:=zT
def ti62:TI:=⟨.func,1,8,[.nilFunc],false⟩
theorem ti62_ok:zP 62 ti62:=zT
def ti63:TI:=⟨.func,1,8,[.nilFunc],false⟩
theorem ti63_ok:zP 63 ti63:=zT
def ti64:TI:=⟨.func,1,8,[.nilFunc],false⟩
theorem ti64_ok:zP 64 ti64:=zT
def ti65:TI:=⟨.func,1,8,[.nilFunc],false⟩
theorem ti65_ok:zP 65 ti65:=zT
def ti66:TI:=⟨.func,1,8,[.nilFunc],false⟩
theorem ti66_ok:zP 66 ti66:=zT
def ti67:TI:=⟨.func,1,8,[.nilFunc],false⟩
theorem ti67_ok:zP 67 ti67:=zT
def ti68:TI:=⟨.func,1,8,[.nilFunc],false⟩
theorem ti68_ok:zP 68 ti68:=zT
def ti69:TI:=⟨.func,1,8,[.nilFunc],false⟩
theorem ti69_ok:zP 69 ti69:=zT
def ti70:TI:=⟨.func,1,8,[.nilFunc],false⟩
theorem ti70_ok:zP 70 ti70:=zT
def ti71:TI:=⟨.ptr 111,1,8,[.pointer none],false⟩
theorem ti71_ok:zP 71 ti71:=zT
def ti73:TI:=⟨.func,1,8,[.nilFunc],false⟩
theorem ti73_ok:zP 73 ti73:=zT
def ti74:TI:=⟨.func,1,8,[.nilFunc],false⟩
theorem ti74_ok:zP 74 ti74:=zT
def ti75:TI:=⟨.int .u64,1,8,[.int .u64 0],false⟩
theorem ti75_ok:zP 75 ti75:=zT
def ti76:TI:=⟨.ptr 91,1,8,[.pointer none],false⟩
theorem ti76_ok:zP 76 ti76:=zT
def ti77:TI:=⟨.func,1,8,[.nilFunc],false⟩
theorem ti77_ok:zP 77 ti77:=zT
def ti78:TI:=⟨.func,1,8,[.nilFunc],false⟩
theorem ti78_ok:zP 78 ti78:=zT
def ti79:TI:=⟨.func,1,8,[.nilFunc],false⟩
theorem ti79_ok:zP 79 ti79:=zT
def ti80:TI:=⟨.func,1,8,[.nilFunc],false⟩
theorem ti80_ok:zP 80 ti80:=zT
def ti81:TI:=⟨.array 64 80,64,512,(.replicate 64 (.nilFunc)),false⟩
theorem ti81_ok:zP 81 ti81:=zT
def ti82:TI:=⟨.array 64 80,64,512,(.replicate 64 (.nilFunc)),false⟩
theorem ti82_ok:zP 82 ti82:=zT
def ti83:TI:=⟨.struct [(0,23),(1,75),(2,76),(3,82)],67,552,[.slice none 0 0,.int .u64 0,.pointer none,.nilFunc,.nilFunc,.nilFunc,.nilFunc,.nilFunc,.nilFunc,.nilFunc,.nilFunc,.nilFunc,.nilFunc,.nilFunc,.nilFunc,.nilFunc,.nilFunc,.nilFunc,.nilFunc,.nilFunc,.nilFunc,.nilFunc,.nilFunc,.nilFunc,.nilFunc,.nilFunc,.nilFunc,.nilFunc,.nilFunc,.nilFunc,.nilFunc,.nilFunc,.nilFunc,.nilFunc,.nilFunc,.nilFunc,.nilFunc,.nilFunc,.nilFunc,.nilFunc,.nilFunc,.nilFunc,.nilFunc,.nilFunc,.nilFunc,.nilFunc,.nilFunc,.nilFunc,.nilFunc,.nilFunc,.nilFunc,.nilFunc,.nilFunc,.nilFunc,.nilFunc,.nilFunc,.nilFunc,.nilFunc,.nilFunc,.nilFunc,.nilFunc,.nilFunc,.nilFunc,.nilFunc,.nilFunc,.nilFunc,.nilFunc],false⟩
theorem ti83_ok:zP 83 ti83:=zT
def ti84:TI:=⟨.struct [(0,23),(1,75),(2,76),(3,82)],67,552,[.slice none 0 0,.int .u64 0,.pointer none,.nilFunc,.nilFunc,.nilFunc,.nilFunc,.nilFunc,.nilFunc,.nilFunc,.nilFunc,.nilFunc,.nilFunc,.nilFunc,.nilFunc,.nilFunc,.nilFunc,.nilFunc,.nilFunc,.nilFunc,.nilFunc,.nilFunc,.nilFunc,.nilFunc,.nilFunc,.nilFunc,.nilFunc,.nilFunc,.nilFunc,.nilFunc,.nilFunc,.nilFunc,.nilFunc,.nilFunc,.nilFunc,.nilFunc,.nilFunc,.nilFunc,.nilFunc,.nilFunc,.nilFunc,.nilFunc,.nilFunc,.nilFunc,.nilFunc,.nilFunc,.nilFunc,.nilFunc,.nilFunc,.nilFunc,.nilFunc,.nilFunc,.nilFunc,.nilFunc,.nilFunc,.nilFunc,.nilFunc,.nilFunc,.nilFunc,.nilFunc,.nilFunc,.nilFunc,.nilFunc,.nilFunc,.nilFunc,.nilFunc,.nilFunc],false⟩
theorem ti84_ok:zP 84 ti84:=zT
def ti85:TI:=⟨.ptr 123,1,8,[.pointer none],false⟩
theorem ti85_ok:zP 85 ti85:=zT
def ti86:TI:=⟨.slice 36,1,24,[.slice none 0 0],false⟩
theorem ti86_ok:zP 86 ti86:=zT
def ti87:TI:=⟨.struct [(0,85),(1,86)],2,32,[.pointer none,.slice none 0 0],false⟩
theorem ti87_ok:zP 87 ti87:=zT
def ti88:TI:=⟨.struct [(0,85),(1,86)],2,32,[.pointer none,.slice none 0 0],false⟩
theorem ti88_ok:zP 88 ti88:=zT
def ti89:TI:=⟨.ptr 88,1,8,[.pointer none],false⟩
theorem ti89_ok:zP 89 ti89:=zT
def ti90:TI:=⟨.struct [(0,89),(1,78)],2,16,[.pointer none,.nilFunc],false⟩
theorem ti90_ok:zP 90 ti90:=zT
def ti91:TI:=⟨.struct [(0,89),(1,78)],2,16,[.pointer none,.nilFunc],false⟩
theorem ti91_ok:zP 91 ti91:=zT
def ti92:TI:=⟨.ptr 60,1,8,[.pointer none],false⟩
theorem ti92_ok:zP 92 ti92:=zT
def ti93:TI:=⟨.func,1,8,[.nilFunc],false⟩
theorem ti93_ok:zP 93 ti93:=zT
def ti94:TI:=⟨.func,1,8,[.nilFunc],false⟩
theorem ti94_ok:zP 94 ti94:=zT
def ti95:TI:=⟨.struct [(0,4),(1,44)],7,56,[.bool false,.int .i64 0,.bool false,.int .i64 0,.int .i64 0,.int .i64 0,.int .i64 0],true⟩
theorem ti95_ok:zP 95 ti95:=⟨by kernel_rfl,by kernel_rfl,fun _=>⟨by kernel_rfl,by kernel_rfl,by kernel_rfl⟩⟩
def ti96:TI:=⟨.struct [(0,4),(1,44)],7,56,[.bool false,.int .i64 0,.bool false,.int .i64 0,.int .i64 0,.int .i64 0,.int .i64 0],true⟩
theorem ti96_ok:zP 96 ti96:=⟨by kernel_rfl,by kernel_rfl,fun _=>⟨by kernel_rfl,by kernel_rfl,by kernel_rfl⟩⟩
def ti98:TI:=⟨.func,1,8,[.nilFunc],false⟩
theorem ti98_ok:zP 98 ti98:=zT
def ti99:TI:=⟨.func,1,8,[.nilFunc],false⟩
theorem ti99_ok:zP 99 ti99:=zT
def ti100:TI:=⟨.func,1,8,[.nilFunc],false⟩
theorem vR:zP 100 ti100:=zT
def ti101:TI:=⟨.func,1,8,[.nilFunc],false⟩
theorem vQ:zP 101 ti101:=zT
def ti102:TI:=⟨.slice 2,1,24,[.slice none 0 0],false⟩
theorem vP:zP 102 ti102:=zT
def ti103:TI:=⟨.struct [(0,3),(1,30),(2,2),(3,102)],4,64,[.int .i64 0,.slice none 0 0,.int .i64 0,.slice none 0 0],false⟩
theorem vO:zP 103 ti103:=zT
def ti104:TI:=⟨.struct [(0,3),(1,30),(2,2),(3,102)],4,64,[.int .i64 0,.slice none 0 0,.int .i64 0,.slice none 0 0],false⟩
theorem vN:zP 104 ti104:=zT
def ti105:TI:=⟨.func,1,8,[.nilFunc],false⟩
theorem vM:zP 105 ti105:=zT
def ti107:TI:=⟨.func,1,8,[.nilFunc],false⟩
theorem vL:zP 107 ti107:=zT
def ti108:TI:=⟨.func,1,8,[.nilFunc],false⟩
theorem vK:zP 108 ti108:=zT
def ti109:TI:=⟨.func,1,8,[.nilFunc],false⟩
theorem vJ:zP 109 ti109:=zT
def ti110:TI:=⟨.struct [(0,23),(1,3),(2,36)],3,56,[.slice none 0 0,.int .i64 0,.slice none 0 0],false⟩
theorem vI:zP 110 ti110:=zT
def ti111:TI:=⟨.struct [(0,23),(1,3),(2,36)],3,56,[.slice none 0 0,.int .i64 0,.slice none 0 0],false⟩
theorem vH:zP 111 ti111:=zT
def ti112:TI:=⟨.func,1,8,[.nilFunc],false⟩
theorem vG:zP 112 ti112:=zT
def ti113:TI:=⟨.func,1,8,[.nilFunc],false⟩
theorem vF:zP 113 ti113:=zT
def ti114:TI:=⟨.func,1,8,[.nilFunc],false⟩
theorem vE:zP 114 ti114:=zT
def ti116:TI:=⟨.func,1,8,[.nilFunc],false⟩
theorem vD:zP 116 ti116:=zT
def ti118:TI:=⟨.func,1,8,[.nilFunc],false⟩
theorem vC:zP 118 ti118:=zT
def ti119:TI:=⟨.func,1,8,[.nilFunc],false⟩
theorem vB:zP 119 ti119:=zT
def ti120:TI:=⟨.slice 75,1,24,[.slice none 0 0],false⟩
theorem vA:zP 120 ti120:=zT
def ti121:TI:=⟨.slice 168,1,24,[.slice none 0 0],false⟩
theorem vz:zP 121 ti121:=zT
def ti122:TI:=⟨.struct [(0,120),(1,2),(2,3),(3,121)],4,64,[.slice none 0 0,.int .i64 0,.int .i64 0,.slice none 0 0],false⟩
theorem vy:zP 122 ti122:=zT
def ti123:TI:=⟨.struct [(0,120),(1,2),(2,3),(3,121)],4,64,[.slice none 0 0,.int .i64 0,.int .i64 0,.slice none 0 0],false⟩
theorem vx:zP 123 ti123:=zT
def ti124:TI:=⟨.ptr 127,1,8,[.pointer none],false⟩
theorem vw:zP 124 ti124:=zT
def ti125:TI:=⟨.func,1,8,[.nilFunc],false⟩
theorem vu:zP 125 ti125:=zT
def ti126:TI:=⟨.struct [(0,32),(4,52),(5,3),(6,75),(7,4),(8,2)],9,88,[.int .u8 0,.int .i64 0,.slice none 0 0,.int .i64 0,.pointer none,.int .i64 0,.int .u64 0,.bool false,.int .i64 0],false⟩
theorem vt:zP 126 ti126:=zT
def ti127:TI:=⟨.struct [(0,32),(4,52),(5,3),(6,75),(7,4),(8,2)],9,88,[.int .u8 0,.int .i64 0,.slice none 0 0,.int .i64 0,.pointer none,.int .i64 0,.int .u64 0,.bool false,.int .i64 0],false⟩
theorem vr:zP 127 ti127:=zT
def ti128:TI:=⟨.func,1,8,[.nilFunc],false⟩
theorem vq:zP 128 ti128:=zT
def ti129:TI:=⟨.func,1,8,[.nilFunc],false⟩
theorem vp:zP 129 ti129:=zT
def ti131:TI:=⟨.func,1,8,[.nilFunc],false⟩
theorem vo:zP 131 ti131:=zT
def ti132:TI:=⟨.slice 3,1,24,[.slice none 0 0],false⟩
theorem vn:zP 132 ti132:=zT
def ti133:TI:=⟨.func,1,8,[.nilFunc],false⟩
theorem vm:zP 133 ti133:=zT
def ti134:TI:=⟨.func,1,8,[.nilFunc],false⟩
theorem vl:zP 134 ti134:=zT
def ti135:TI:=⟨.func,1,8,[.nilFunc],false⟩
theorem vh:zP 135 ti135:=zT
def ti136:TI:=⟨.int .u64,1,8,[.int .u64 0],false⟩
theorem vg:zP 136 ti136:=zT
def ti137:TI:=⟨.func,1,8,[.nilFunc],false⟩
theorem vf:zP 137 ti137:=zT
def ti139:TI:=⟨.func,1,8,[.nilFunc],false⟩
theorem ve:zP 139 ti139:=zT
def ti140:TI:=⟨.func,1,8,[.nilFunc],false⟩
theorem vd:zP 140 ti140:=zT
def ti142:TI:=⟨.func,1,8,[.nilFunc],false⟩
theorem vc:zP 142 ti142:=zT
def ti144:TI:=⟨.func,1,8,[.nilFunc],false⟩
theorem u9:zP 144 ti144:=zT
def ti145:TI:=⟨.func,1,8,[.nilFunc],false⟩
theorem u7:zP 145 ti145:=zT
def ti146:TI:=⟨.func,1,8,[.nilFunc],false⟩
theorem u6:zP 146 ti146:=zT
def ti147:TI:=⟨.func,1,8,[.nilFunc],false⟩
theorem u5:zP 147 ti147:=zT
def ti148:TI:=⟨.func,1,8,[.nilFunc],false⟩
theorem u4:zP 148 ti148:=zT
def ti149:TI:=⟨.func,1,8,[.nilFunc],false⟩
theorem u3:zP 149 ti149:=zT
def ti150:TI:=⟨.func,1,8,[.nilFunc],false⟩
theorem u2:zP 150 ti150:=zT
def ti152:TI:=⟨.func,1,8,[.nilFunc],false⟩
theorem u1:zP 152 ti152:=zT
def ti153:TI:=⟨.func,1,8,[.nilFunc],false⟩
theorem u0:zP 153 ti153:=zT
def ti154:TI:=⟨.ptr 82,1,8,[.pointer none],false⟩
theorem uZ:zP 154 ti154:=zT
def ti155:TI:=⟨.func,1,8,[.nilFunc],false⟩
theorem uY:zP 155 ti155:=zT
def ti156:TI:=⟨.int .i64,1,8,[.int .i64 0],false⟩
theorem uX:zP 156 ti156:=zT
def ti158:TI:=⟨.func,1,8,[.nilFunc],false⟩
theorem uW:zP 158 ti158:=zT
def ti159:TI:=⟨.func,1,8,[.nilFunc],false⟩
theorem uV:zP 159 ti159:=zT
def ti160:TI:=⟨.func,1,8,[.nilFunc],false⟩
theorem uU:zP 160 ti160:=zT
def ti161:TI:=⟨.func,1,8,[.nilFunc],false⟩
theorem uT:zP 161 ti161:=zT
def ti162:TI:=⟨.func,1,8,[.nilFunc],false⟩
theorem uS:zP 162 ti162:=zT
def ti163:TI:=⟨.int .u32,1,4,[.int .u32 0],false⟩
theorem uR:zP 163 ti163:=zT
def ti164:TI:=⟨.func,1,8,[.nilFunc],false⟩
theorem uQ:zP 164 ti164:=zT
def ti165:TI:=⟨.func,1,8,[.nilFunc],false⟩
theorem uP:zP 165 ti165:=zT
def ti166:TI:=⟨.func,1,8,[.nilFunc],false⟩
theorem uO:zP 166 ti166:=zT
def ti167:TI:=⟨.struct [(0,3),(1,5),(2,3),(3,75),(4,75),(5,4)],6,48,[.int .i64 0,.int .u8 0,.int .i64 0,.int .u64 0,.int .u64 0,.bool false],true⟩
theorem uN:zP 167 ti167:=⟨by kernel_rfl,by kernel_rfl,fun _=>⟨by kernel_rfl,by kernel_rfl,by kernel_rfl⟩⟩
def ti168:TI:=⟨.struct [(0,3),(1,5),(2,3),(3,75),(4,75),(5,4)],6,48,[.int .i64 0,.int .u8 0,.int .i64 0,.int .u64 0,.int .u64 0,.bool false],true⟩
theorem uM:zP 168 ti168:=⟨by kernel_rfl,by kernel_rfl,fun _=>⟨by kernel_rfl,by kernel_rfl,by kernel_rfl⟩⟩
def ti169:TI:=⟨.func,1,8,[.nilFunc],false⟩
theorem uL:zP 169 ti169:=zT
def ti170:TI:=⟨.func,1,8,[.nilFunc],false⟩
theorem uK:zP 170 ti170:=zT
def ti171:TI:=⟨.func,1,8,[.nilFunc],false⟩
theorem uJ:zP 171 ti171:=zT
def ti172:TI:=⟨.func,1,8,[.nilFunc],false⟩
theorem uI:zP 172 ti172:=zT
def ti173:TI:=⟨.func,1,8,[.nilFunc],false⟩
theorem uH:zP 173 ti173:=zT
def ti174:TI:=⟨.func,1,8,[.nilFunc],false⟩
theorem uG:zP 174 ti174:=zT
def ti175:TI:=⟨.func,1,8,[.nilFunc],false⟩
theorem uF:zP 175 ti175:=zT
def ti176:TI:=⟨.func,1,8,[.nilFunc],false⟩
theorem uE:zP 176 ti176:=zT
def ti177:TI:=⟨.func,1,8,[.nilFunc],false⟩
theorem uD:zP 177 ti177:=zT
def ti178:TI:=⟨.func,1,8,[.nilFunc],false⟩
theorem uC:zP 178 ti178:=zT
def ti179:TI:=⟨.func,1,8,[.nilFunc],false⟩
theorem uB:zP 179 ti179:=zT
def ti180:TI:=⟨.struct [(0,3),(1,75),(2,36)],3,40,[.int .i64 0,.int .u64 0,.slice none 0 0],false⟩
theorem uA:zP 180 ti180:=zT
def ti181:TI:=⟨.struct [(0,3),(1,75),(2,36)],3,40,[.int .i64 0,.int .u64 0,.slice none 0 0],false⟩
theorem uz:zP 181 ti181:=zT
def ti183:TI:=⟨.func,1,8,[.nilFunc],false⟩
theorem uy:zP 183 ti183:=zT
def ti184:TI:=⟨.func,1,8,[.nilFunc],false⟩
theorem ux:zP 184 ti184:=zT
def ti185:TI:=⟨.func,1,8,[.nilFunc],false⟩
theorem uw:zP 185 ti185:=zT
def ti187:TI:=⟨.func,1,8,[.nilFunc],false⟩
theorem uv:zP 187 ti187:=zT
def ti188:TI:=⟨.func,1,8,[.nilFunc],false⟩
theorem ut:zP 188 ti188:=zT
def ti189:TI:=⟨.func,1,8,[.nilFunc],false⟩
theorem ur:zP 189 ti189:=zT
def ti190:TI:=⟨.int .u64,1,8,[.int .u64 0],false⟩
theorem uq:zP 190 ti190:=zT
def ti191:TI:=⟨.func,1,8,[.nilFunc],false⟩
theorem uo:zP 191 ti191:=zT
def ti193:TI:=⟨.func,1,8,[.nilFunc],false⟩
theorem un:zP 193 ti193:=zT
def ti194:TI:=⟨.ptr 3,1,8,[.pointer none],false⟩
theorem ul:zP 194 ti194:=zT
def ti195:TI:=⟨.func,1,8,[.nilFunc],false⟩
theorem uj:zP 195 ti195:=zT
def ti196:TI:=⟨.func,1,8,[.nilFunc],false⟩
theorem ug:zP 196 ti196:=zT
def ti197:TI:=⟨.func,1,8,[.nilFunc],false⟩
theorem uf:zP 197 ti197:=zT
def ti198:TI:=⟨.func,1,8,[.nilFunc],false⟩
theorem ue:zP 198 ti198:=zT
def ti199:TI:=⟨.func,1,8,[.nilFunc],false⟩
theorem ud:zP 199 ti199:=zT
def ti200:TI:=⟨.func,1,8,[.nilFunc],false⟩
theorem uc:zP 200 ti200:=zT
def ti201:TI:=⟨.func,1,8,[.nilFunc],false⟩
theorem ub:zP 201 ti201:=zT
def ti202:TI:=⟨.func,1,8,[.nilFunc],false⟩
theorem ua:zP 202 ti202:=zT
def ti203:TI:=⟨.func,1,8,[.nilFunc],false⟩
theorem t9:zP 203 ti203:=zT
def ti204:TI:=⟨.func,1,8,[.nilFunc],false⟩
theorem t8:zP 204 ti204:=zT
def ti205:TI:=⟨.func,1,8,[.nilFunc],false⟩
theorem t7:zP 205 ti205:=zT
def ti206:TI:=⟨.func,1,8,[.nilFunc],false⟩
theorem t6:zP 206 ti206:=zT
def ti207:TI:=⟨.func,1,8,[.nilFunc],false⟩
theorem t5:zP 207 ti207:=zT
def ti208:TI:=⟨.func,1,8,[.nilFunc],false⟩
theorem t4:zP 208 ti208:=zT
def ti209:TI:=⟨.func,1,8,[.nilFunc],false⟩
theorem t3:zP 209 ti209:=zT
def ti210:TI:=⟨.struct [(0,3),(1,102)],2,32,[.int .i64 0,.slice none 0 0],false⟩
theorem t0:zP 210 ti210:=zT
def ti211:TI:=⟨.struct [(0,3),(1,102)],2,32,[.int .i64 0,.slice none 0 0],false⟩
theorem tZ:zP 211 ti211:=zT
def ti213:TI:=⟨.func,1,8,[.nilFunc],false⟩
theorem tY:zP 213 ti213:=zT
def ti214:TI:=⟨.func,1,8,[.nilFunc],false⟩
theorem tX:zP 214 ti214:=zT
def ti215:TI:=⟨.func,1,8,[.nilFunc],false⟩
theorem tW:zP 215 ti215:=zT
def ti216:TI:=⟨.ptr 190,1,8,[.pointer none],false⟩
theorem tV:zP 216 ti216:=zT
def ti218:TI:=⟨.func,1,8,[.nilFunc],false⟩
theorem tU:zP 218 ti218:=zT
def ti219:TI:=⟨.ptr 96,1,8,[.pointer none],false⟩
theorem tT:zP 219 ti219:=zT
def ti220:TI:=⟨.func,1,8,[.nilFunc],false⟩
theorem tS:zP 220 ti220:=zT
def ti221:TI:=⟨.struct [(0,4),(1,2),(2,2),(3,2)],4,32,[.bool false,.int .i64 0,.int .i64 0,.int .i64 0],true⟩
theorem tR:zP 221 ti221:=⟨by kernel_rfl,by kernel_rfl,fun _=>⟨by kernel_rfl,by kernel_rfl,by kernel_rfl⟩⟩
def ti222:TI:=⟨.struct [(0,4),(1,2),(2,2),(3,2)],4,32,[.bool false,.int .i64 0,.int .i64 0,.int .i64 0],true⟩
theorem tQ:zP 222 ti222:=⟨by kernel_rfl,by kernel_rfl,fun _=>⟨by kernel_rfl,by kernel_rfl,by kernel_rfl⟩⟩
def ti224:TI:=⟨.func,1,8,[.nilFunc],false⟩
theorem tP:zP 224 ti224:=zT
def ti225:TI:=⟨.func,1,8,[.nilFunc],false⟩
theorem tO:zP 225 ti225:=zT
def ti226:TI:=⟨.func,1,8,[.nilFunc],false⟩
theorem tN:zP 226 ti226:=zT
def ti227:TI:=⟨.func,1,8,[.nilFunc],false⟩
theorem tM:zP 227 ti227:=zT
def ti228:TI:=⟨.func,1,8,[.nilFunc],false⟩
theorem tL:zP 228 ti228:=zT
def ti229:TI:=⟨.func,1,8,[.nilFunc],false⟩
theorem tK:zP 229 ti229:=zT
def ti230:TI:=⟨.func,1,8,[.nilFunc],false⟩
theorem tJ:zP 230 ti230:=zT
def ti231:TI:=⟨.func,1,8,[.nilFunc],false⟩
theorem tI:zP 231 ti231:=zT
def ti232:TI:=⟨.func,1,8,[.nilFunc],false⟩
theorem tH:zP 232 ti232:=zT
def ti233:TI:=⟨.func,1,8,[.nilFunc],false⟩
theorem tG:zP 233 ti233:=zT
def ti234:TI:=⟨.func,1,8,[.nilFunc],false⟩
theorem tF:zP 234 ti234:=zT
def ti235:TI:=⟨.func,1,8,[.nilFunc],false⟩
theorem tE:zP 235 ti235:=zT
def ti236:TI:=⟨.func,1,8,[.nilFunc],false⟩
theorem tD:zP 236 ti236:=zT
def ti237:TI:=⟨.func,1,8,[.nilFunc],false⟩
theorem tC:zP 237 ti237:=zT
def ti238:TI:=⟨.func,1,8,[.nilFunc],false⟩
theorem tB:zP 238 ti238:=zT
def ti240:TI:=⟨.func,1,8,[.nilFunc],false⟩
theorem tA:zP 240 ti240:=zT
def ti241:TI:=⟨.func,1,8,[.nilFunc],false⟩
theorem tz:zP 241 ti241:=zT
def ti243:TI:=⟨.func,1,8,[.nilFunc],false⟩
theorem tx:zP 243 ti243:=zT
def ti244:TI:=⟨.func,1,8,[.nilFunc],false⟩
theorem tw:zP 244 ti244:=zT
def ti245:TI:=⟨.func,1,8,[.nilFunc],false⟩
theorem tv:zP 245 ti245:=zT
def ti247:TI:=⟨.struct [(0,17),(1,17),(2,17),(3,9)],4,40,[.pointer none,.pointer none,.pointer none,.string ⟨#[]⟩],false⟩
theorem tu:zP 247 ti247:=zT
def ti248:TI:=⟨.array 0 16,0,0,[],false⟩
theorem tq:zP 248 ti248:=zT
def ti249:TI:=⟨.struct [(0,248)],0,0,[],false⟩
theorem tp:zP 249 ti249:=zT
def ti250:TI:=⟨.struct [(0,248)],0,0,[],false⟩
theorem tn:zP 250 ti250:=zT
def ti251:TI:=⟨.int .u8,1,1,[.int .u8 0],false⟩
theorem tm:zP 251 ti251:=zT
def ti252:TI:=⟨.int .u8,1,1,[.int .u8 0],false⟩
theorem tl:zP 252 ti252:=zT
def ti253:TI:=⟨.func,1,8,[.nilFunc],false⟩
theorem tk:zP 253 ti253:=zT
def ti254:TI:=⟨.ptr 5,1,8,[.pointer none],false⟩
theorem tj:zP 254 ti254:=zT
def ti255:TI:=⟨.int .i32,1,4,[.int .i32 0],false⟩
theorem ti:zP 255 ti255:=zT
def ti256:TI:=⟨.int .i32,1,4,[.int .i32 0],false⟩
theorem th:zP 256 ti256:=zT
def ti257:TI:=⟨.struct [(0,12),(1,12),(2,163),(3,251),(4,5),(5,5),(6,252),(7,253),(8,254),(9,255),(10,256)],11,48,[.int .u64 0,.int .u64 0,.int .u32 0,.int .u8 0,.int .u8 0,.int .u8 0,.int .u8 0,.nilFunc,.pointer none,.int .i32 0,.int .i32 0],false⟩
theorem tg:zP 257 ti257:=zT
def ti258:TI:=⟨.struct [(0,12),(1,12),(2,163),(3,251),(4,5),(5,5),(6,252),(7,253),(8,254),(9,255),(10,256)],11,48,[.int .u64 0,.int .u64 0,.int .u32 0,.int .u8 0,.int .u8 0,.int .u8 0,.int .u8 0,.nilFunc,.pointer none,.int .i32 0,.int .i32 0],false⟩
theorem tf:zP 258 ti258:=zT
def xh:cr:=.node (.node (.node (.node (.node (.node (.node (.node (.leaf) 1 ti1 (.leaf)) 2 ti2 (.node (.leaf) 3 ti3 (.leaf))) 4 ti4 (.node (.node (.leaf) 5 ti5 (.leaf)) 6 ti6 (.node (.leaf) 7 ti7 (.leaf)))) 8 ti8 (.node (.node (.node (.leaf) 9 ti9 (.leaf)) 10 ti10 (.node (.leaf) 11 ti11 (.leaf))) 12 ti12 (.node (.node (.leaf) 13 ti13 (.leaf)) 14 ti14 (.leaf)))) 15 ti15 (.node (.node (.node (.node (.leaf) 16 ti16 (.leaf)) 17 ti17 (.node (.leaf) 18 ti18 (.leaf))) 19 ti19 (.node (.node (.leaf) 20 ti20 (.leaf)) 21 ti21 (.node (.leaf) 22 ti22 (.leaf)))) 23 ti23 (.node (.node (.node (.leaf) 24 ti24 (.leaf)) 25 ti25 (.node (.leaf) 26 ti26 (.leaf))) 27 ti27 (.node (.node (.leaf) 28 ti28 (.leaf)) 29 ti29 (.leaf))))) 30 ti30 (.node (.node (.node (.node (.node (.leaf) 31 ti31 (.leaf)) 32 ti32 (.node (.leaf) 33 ti33 (.leaf))) 34 ti34 (.node (.node (.leaf) 35 ti35 (.leaf)) 36 ti36 (.node (.leaf) 37 ti37 (.leaf)))) 38 ti38 (.node (.node (.node (.leaf) 39 ti39 (.leaf)) 41 ti41 (.node (.leaf) 42 ti42 (.leaf))) 43 ti43 (.node (.node (.leaf) 44 ti44 (.leaf)) 45 ti45 (.leaf)))) 46 ti46 (.node (.node (.node (.node (.leaf) 47 ti47 (.leaf)) 48 ti48 (.node (.leaf) 49 ti49 (.leaf))) 50 ti50 (.node (.node (.leaf) 51 ti51 (.leaf)) 52 ti52 (.leaf))) 54 ti54 (.node (.node (.node (.leaf) 55 ti55 (.leaf)) 56 ti56 (.node (.leaf) 57 ti57 (.leaf))) 58 ti58 (.node (.node (.leaf) 59 ti59 (.leaf)) 60 ti60 (.leaf)))))) 62 ti62 (.node (.node (.node (.node (.node (.node (.leaf) 63 ti63 (.leaf)) 64 ti64 (.node (.leaf) 65 ti65 (.leaf))) 66 ti66 (.node (.node (.leaf) 67 ti67 (.leaf)) 68 ti68 (.node (.leaf) 69 ti69 (.leaf)))) 70 ti70 (.node (.node (.node (.leaf) 71 ti71 (.leaf)) 73 ti73 (.node (.leaf) 74 ti74 (.leaf))) 75 ti75 (.node (.node (.leaf) 76 ti76 (.leaf)) 77 ti77 (.leaf)))) 78 ti78 (.node (.node (.node (.node (.leaf) 79 ti79 (.leaf)) 80 ti80 (.node (.leaf) 81 ti81 (.leaf))) 82 ti82 (.node (.node (.leaf) 83 ti83 (.leaf)) 84 ti84 (.node (.leaf) 85 ti85 (.leaf)))) 86 ti86 (.node (.node (.node (.leaf) 87 ti87 (.leaf)) 88 ti88 (.node (.leaf) 89 ti89 (.leaf))) 90 ti90 (.node (.node (.leaf) 91 ti91 (.leaf)) 92 ti92 (.leaf))))) 93 ti93 (.node (.node (.node (.node (.node (.leaf) 94 ti94 (.leaf)) 95 ti95 (.node (.leaf) 96 ti96 (.leaf))) 98 ti98 (.node (.node (.leaf) 99 ti99 (.leaf)) 100 ti100 (.node (.leaf) 101 ti101 (.leaf)))) 102 ti102 (.node (.node (.node (.leaf) 103 ti103 (.leaf)) 104 ti104 (.node (.leaf) 105 ti105 (.leaf))) 107 ti107 (.node (.node (.leaf) 108 ti108 (.leaf)) 109 ti109 (.leaf)))) 110 ti110 (.node (.node (.node (.node (.leaf) 111 ti111 (.leaf)) 112 ti112 (.node (.leaf) 113 ti113 (.leaf))) 114 ti114 (.node (.node (.leaf) 116 ti116 (.leaf)) 118 ti118 (.leaf))) 119 ti119 (.node (.node (.node (.leaf) 120 ti120 (.leaf)) 121 ti121 (.node (.leaf) 122 ti122 (.leaf))) 123 ti123 (.node (.node (.leaf) 124 ti124 (.leaf)) 125 ti125 (.leaf))))))) 126 ti126 (.node (.node (.node (.node (.node (.node (.node (.leaf) 127 ti127 (.leaf)) 128 ti128 (.node (.leaf) 129 ti129 (.leaf))) 131 ti131 (.node (.node (.leaf) 132 ti132 (.leaf)) 133 ti133 (.node (.leaf) 134 ti134 (.leaf)))) 135 ti135 (.node (.node (.node (.leaf) 136 ti136 (.leaf)) 137 ti137 (.node (.leaf) 139 ti139 (.leaf))) 140 ti140 (.node (.node (.leaf) 142 ti142 (.leaf)) 144 ti144 (.leaf)))) 145 ti145 (.node (.node (.node (.node (.leaf) 146 ti146 (.leaf)) 147 ti147 (.node (.leaf) 148 ti148 (.leaf))) 149 ti149 (.node (.node (.leaf) 150 ti150 (.leaf)) 152 ti152 (.node (.leaf) 153 ti153 (.leaf)))) 154 ti154 (.node (.node (.node (.leaf) 155 ti155 (.leaf)) 156 ti156 (.node (.leaf) 158 ti158 (.leaf))) 159 ti159 (.node (.node (.leaf) 160 ti160 (.leaf)) 161 ti161 (.leaf))))) 162 ti162 (.node (.node (.node (.node (.node (.leaf) 163 ti163 (.leaf)) 164 ti164 (.node (.leaf) 165 ti165 (.leaf))) 166 ti166 (.node (.node (.leaf) 167 ti167 (.leaf)) 168 ti168 (.node (.leaf) 169 ti169 (.leaf)))) 170 ti170 (.node (.node (.node (.leaf) 171 ti171 (.leaf)) 172 ti172 (.node (.leaf) 173 ti173 (.leaf))) 174 ti174 (.node (.node (.leaf) 175 ti175 (.leaf)) 176 ti176 (.leaf)))) 177 ti177 (.node (.node (.node (.node (.leaf) 178 ti178 (.leaf)) 179 ti179 (.node (.leaf) 180 ti180 (.leaf))) 181 ti181 (.node (.node (.leaf) 183 ti183 (.leaf)) 184 ti184 (.leaf))) 185 ti185 (.node (.node (.node (.leaf) 187 ti187 (.leaf)) 188 ti188 (.node (.leaf) 189 ti189 (.leaf))) 190 ti190 (.node (.node (.leaf) 191 ti191 (.leaf)) 193 ti193 (.leaf)))))) 194 ti194 (.node (.node (.node (.node (.node (.node (.leaf) 195 ti195 (.leaf)) 196 ti196 (.node (.leaf) 197 ti197 (.leaf))) 198 ti198 (.node (.node (.leaf) 199 ti199 (.leaf)) 200 ti200 (.node (.leaf) 201 ti201 (.leaf)))) 202 ti202 (.node (.node (.node (.leaf) 203 ti203 (.leaf)) 204 ti204 (.node (.leaf) 205 ti205 (.leaf))) 206 ti206 (.node (.node (.leaf) 207 ti207 (.leaf)) 208 ti208 (.leaf)))) 209 ti209 (.node (.node (.node (.node (.leaf) 210 ti210 (.leaf)) 211 ti211 (.node (.leaf) 213 ti213 (.leaf))) 214 ti214 (.node (.node (.leaf) 215 ti215 (.leaf)) 216 ti216 (.node (.leaf) 218 ti218 (.leaf)))) 219 ti219 (.node (.node (.node (.leaf) 220 ti220 (.leaf)) 221 ti221 (.node (.leaf) 222 ti222 (.leaf))) 224 ti224 (.node (.node (.leaf) 225 ti225 (.leaf)) 226 ti226 (.leaf))))) 227 ti227 (.node (.node (.node (.node (.node (.leaf) 228 ti228 (.leaf)) 229 ti229 (.node (.leaf) 230 ti230 (.leaf))) 231 ti231 (.node (.node (.leaf) 232 ti232 (.leaf)) 233 ti233 (.node (.leaf) 234 ti234 (.leaf)))) 235 ti235 (.node (.node (.node (.leaf) 236 ti236 (.leaf)) 237 ti237 (.node (.leaf) 238 ti238 (.leaf))) 240 ti240 (.node (.node (.leaf) 241 ti241 (.leaf)) 243 ti243 (.leaf)))) 244 ti244 (.node (.node (.node (.node (.leaf) 245 ti245 (.leaf)) 247 ti247 (.node (.leaf) 248 ti248 (.leaf))) 249 ti249 (.node (.node (.leaf) 250 ti250 (.leaf)) 251 ti251 (.leaf))) 252 ti252 (.node (.node (.node (.leaf) 253 ti253 (.leaf)) 254 ti254 (.node (.leaf) 255 ti255 (.leaf))) 256 ti256 (.node (.node (.leaf) 257 ti257 (.leaf)) 258 ti258 (.leaf)))))))
theorem pY:xh.allP (ec Tryz.prog):=⟨⟨⟨⟨⟨⟨⟨⟨trivial,ti1_ok,trivial⟩,ti2_ok,⟨trivial,ti3_ok,trivial⟩⟩,ti4_ok,⟨⟨trivial,ti5_ok,trivial⟩,ti6_ok,⟨trivial,ti7_ok,trivial⟩⟩⟩,ti8_ok,⟨⟨⟨trivial,ti9_ok,trivial⟩,ti10_ok,⟨trivial,ti11_ok,trivial⟩⟩,ti12_ok,⟨⟨trivial,ti13_ok,trivial⟩,ti14_ok,trivial⟩⟩⟩,ti15_ok,⟨⟨⟨⟨trivial,ti16_ok,trivial⟩,ti17_ok,⟨trivial,ti18_ok,trivial⟩⟩,ti19_ok,⟨⟨trivial,ti20_ok,trivial⟩,ti21_ok,⟨trivial,ti22_ok,trivial⟩⟩⟩,ti23_ok,⟨⟨⟨trivial,ti24_ok,trivial⟩,ti25_ok,⟨trivial,ti26_ok,trivial⟩⟩,ti27_ok,⟨⟨trivial,ti28_ok,trivial⟩,ti29_ok,trivial⟩⟩⟩⟩,ti30_ok,⟨⟨⟨⟨⟨trivial,ti31_ok,trivial⟩,ti32_ok,⟨trivial,ti33_ok,trivial⟩⟩,ti34_ok,⟨⟨trivial,ti35_ok,trivial⟩,ti36_ok,⟨trivial,ti37_ok,trivial⟩⟩⟩,ti38_ok,⟨⟨⟨trivial,ti39_ok,trivial⟩,ti41_ok,⟨trivial,ti42_ok,trivial⟩⟩,ti43_ok,⟨⟨trivial,ti44_ok,trivial⟩,ti45_ok,trivial⟩⟩⟩,ti46_ok,⟨⟨⟨⟨trivial,ti47_ok,trivial⟩,ti48_ok,⟨trivial,ti49_ok,trivial⟩⟩,ti50_ok,⟨⟨trivial,ti51_ok,trivial⟩,ti52_ok,trivial⟩⟩,ti54_ok,⟨⟨⟨trivial,ti55_ok,trivial⟩,ti56_ok,⟨trivial,ti57_ok,trivial⟩⟩,ti58_ok,⟨⟨trivial,ti59_ok,trivial⟩,ti60_ok,trivial⟩⟩⟩⟩⟩,ti62_ok,⟨⟨⟨⟨⟨⟨trivial,ti63_ok,trivial⟩,ti64_ok,⟨trivial,ti65_ok,trivial⟩⟩,ti66_ok,⟨⟨trivial,ti67_ok,trivial⟩,ti68_ok,⟨trivial,ti69_ok,trivial⟩⟩⟩,ti70_ok,⟨⟨⟨trivial,ti71_ok,trivial⟩,ti73_ok,⟨trivial,ti74_ok,trivial⟩⟩,ti75_ok,⟨⟨trivial,ti76_ok,trivial⟩,ti77_ok,trivial⟩⟩⟩,ti78_ok,⟨⟨⟨⟨trivial,ti79_ok,trivial⟩,ti80_ok,⟨trivial,ti81_ok,trivial⟩⟩,ti82_ok,⟨⟨trivial,ti83_ok,trivial⟩,ti84_ok,⟨trivial,ti85_ok,trivial⟩⟩⟩,ti86_ok,⟨⟨⟨trivial,ti87_ok,trivial⟩,ti88_ok,⟨trivial,ti89_ok,trivial⟩⟩,ti90_ok,⟨⟨trivial,ti91_ok,trivial⟩,ti92_ok,trivial⟩⟩⟩⟩,ti93_ok,⟨⟨⟨⟨⟨trivial,ti94_ok,trivial⟩,ti95_ok,⟨trivial,ti96_ok,trivial⟩⟩,ti98_ok,⟨⟨trivial,ti99_ok,trivial⟩,vR,⟨trivial,vQ,trivial⟩⟩⟩,vP,⟨⟨⟨trivial,vO,trivial⟩,vN,⟨trivial,vM,trivial⟩⟩,vL,⟨⟨trivial,vK,trivial⟩,vJ,trivial⟩⟩⟩,vI,⟨⟨⟨⟨trivial,vH,trivial⟩,vG,⟨trivial,vF,trivial⟩⟩,vE,⟨⟨trivial,vD,trivial⟩,vC,trivial⟩⟩,vB,⟨⟨⟨trivial,vA,trivial⟩,vz,⟨trivial,vy,trivial⟩⟩,vx,⟨⟨trivial,vw,trivial⟩,vu,trivial⟩⟩⟩⟩⟩⟩,vt,⟨⟨⟨⟨⟨⟨⟨trivial,vr,trivial⟩,vq,⟨trivial,vp,trivial⟩⟩,vo,⟨⟨trivial,vn,trivial⟩,vm,⟨trivial,vl,trivial⟩⟩⟩,vh,⟨⟨⟨trivial,vg,trivial⟩,vf,⟨trivial,ve,trivial⟩⟩,vd,⟨⟨trivial,vc,trivial⟩,u9,trivial⟩⟩⟩,u7,⟨⟨⟨⟨trivial,u6,trivial⟩,u5,⟨trivial,u4,trivial⟩⟩,u3,⟨⟨trivial,u2,trivial⟩,u1,⟨trivial,u0,trivial⟩⟩⟩,uZ,⟨⟨⟨trivial,uY,trivial⟩,uX,⟨trivial,uW,trivial⟩⟩,uV,⟨⟨trivial,uU,trivial⟩,uT,trivial⟩⟩⟩⟩,uS,⟨⟨⟨⟨⟨trivial,uR,trivial⟩,uQ,⟨trivial,uP,trivial⟩⟩,uO,⟨⟨trivial,uN,trivial⟩,uM,⟨trivial,uL,trivial⟩⟩⟩,uK,⟨⟨⟨trivial,uJ,trivial⟩,uI,⟨trivial,uH,trivial⟩⟩,uG,⟨⟨trivial,uF,trivial⟩,uE,trivial⟩⟩⟩,uD,⟨⟨⟨⟨trivial,uC,trivial⟩,uB,⟨trivial,uA,trivial⟩⟩,uz,⟨⟨trivial,uy,trivial⟩,ux,trivial⟩⟩,uw,⟨⟨⟨trivial,uv,trivial⟩,ut,⟨trivial,ur,trivial⟩⟩,uq,⟨⟨trivial,uo,trivial⟩,un,trivial⟩⟩⟩⟩⟩,ul,⟨⟨⟨⟨⟨⟨trivial,uj,trivial⟩,ug,⟨trivial,uf,trivial⟩⟩,ue,⟨⟨trivial,ud,trivial⟩,uc,⟨trivial,ub,trivial⟩⟩⟩,ua,⟨⟨⟨trivial,t9,trivial⟩,t8,⟨trivial,t7,trivial⟩⟩,t6,⟨⟨trivial,t5,trivial⟩,t4,trivial⟩⟩⟩,t3,⟨⟨⟨⟨trivial,t0,trivial⟩,tZ,⟨trivial,tY,trivial⟩⟩,tX,⟨⟨trivial,tW,trivial⟩,tV,⟨trivial,tU,trivial⟩⟩⟩,tT,⟨⟨⟨trivial,tS,trivial⟩,tR,⟨trivial,tQ,trivial⟩⟩,tP,⟨⟨trivial,tO,trivial⟩,tN,trivial⟩⟩⟩⟩,tM,⟨⟨⟨⟨⟨trivial,tL,trivial⟩,tK,⟨trivial,tJ,trivial⟩⟩,tI,⟨⟨trivial,tH,trivial⟩,tG,⟨trivial,tF,trivial⟩⟩⟩,tE,⟨⟨⟨trivial,tD,trivial⟩,tC,⟨trivial,tB,trivial⟩⟩,tA,⟨⟨trivial,tz,trivial⟩,tx,trivial⟩⟩⟩,tw,⟨⟨⟨⟨trivial,tv,trivial⟩,tu,⟨trivial,tq,trivial⟩⟩,tp,⟨⟨trivial,tn,trivial⟩,tm,trivial⟩⟩,tl,⟨⟨⟨trivial,tk,trivial⟩,tj,⟨trivial,ti,trivial⟩⟩,th,⟨⟨trivial,tg,trivial⟩,tf,trivial⟩⟩⟩⟩⟩⟩⟩
noncomputable def TC:Cx:=⟨Tryz.prog,xh.look,cr.look_ok pY⟩
theorem ac:TC.P.follows .mixedOrders=true:=by kernel_rfl
section
open Go.Shelf
theorem Pure.val{C:Cx}{g:Nat}{xs:List Value}{r:Value}(ent:d5 C.P g)(hr:r.oneCell'=true)(h:∀w,Calls C.P g xs.toArray w fun e w'=>e=.returned r∧w'=w):Pure C g (xs.map fun v=>.d (.val v)) (.d (.val r)):=by
 refine⟨ent,fun E w vs hIm hsz hargs=>?_⟩
 have:vs=xs.toArray:=by
  apply Array.ext (by simpa using hsz)
  intro i h1 h2
  have h3:=hargs i (by simpa using h2)
  rw[List.getElem_map]at h3
  have:=h3.val_inv
  simpa[Array.getD,h1]using this
 subst this
 refine(h w).mono ?_
 rintro e w' ⟨rfl,rfl⟩
 exact⟨r,rfl,Kp.refl _,.d _ _ (.val _ hr)⟩
theorem Pure.val2{C:Cx}{g:Nat}{xs:List Value}{r s:Value}(ent:d5 C.P g)(hr:r.oneCell'=true)(hs:s.oneCell'=true)(h:∀w,Calls C.P g xs.toArray w fun e w'=>e=.returned (.tuple #[r,s])∧w'=w):Pure C g (xs.map fun v=>.d (.val v)) (.tup [.d (.val r),.d (.val s)]):=by
 refine⟨ent,fun E w vs hIm hsz hargs=>?_⟩
 have:vs=xs.toArray:=by
  apply Array.ext (by simpa using hsz)
  intro i h1 h2
  have h3:=hargs i (by simpa using h2)
  rw[List.getElem_map]at h3
  have:=h3.val_inv
  simpa[Array.getD,h1]using this
 subst this
 refine(h w).mono ?_
 rintro e w' ⟨rfl,rfl⟩
 refine⟨_,rfl,Kp.refl _,.tup _ _ rfl fun j hj=>?_⟩
 have:j=0∨j=1:=by simp at hj;omega
 rcases this with rfl|rfl
 ·exact .d _ _ (.val _ hr)
 ·exact .d _ _ (.val _ hs)
def mulRen:Go.Shelf.Ren:=⟨fun|264=>175|n=>n,fun|53=>75|46=>136|n=>n,fun|n=>n⟩
theorem mulLays:Go.Proofs.Lays.n264 Tryz.prog mulRen:={
 mixed:=by kernel_rfl
 f264:=Tryz.func175.trans (congrArg some (by kernel_rfl))
 t46:=Tryz.underlying136
 a46:=Tryz.isAgg136
 z46:=Tryz.sizeOf136
 v46:=Tryz.zeroValue136
 t53:=Tryz.underlying75
 a53:=Tryz.isAgg75
 z53:=Tryz.sizeOf75
 v53:=Tryz.zeroValue75 }
def hiI(x:Int):Int:=x/18446744073709551616
def loI(x:Int):Int:=x%18446744073709551616
theorem bits_Mul64(x y:Int)(hx:0≤x)(hx2:x<18446744073709551616)(hy:0≤y)(hy2:y<18446744073709551616):Pure TC 175 [.i .u64 x,.i .u64 y] (.tup [.i .u64 (hiI (x*y)),.i .u64 (loI (x*y))]):=by
 obtain⟨n,rfl⟩:=Int.eq_ofNat_of_zero_le hx
 obtain⟨m,rfl⟩:=Int.eq_ofNat_of_zero_le hy
 refine Pure.val2 (xs:=[.int .u64 n,.int .u64 m]) (.mk Tryz.func175 rfl rfl) rfl rfl fun w=>?_
 refine(Any.bits_Mul64 mulLays n m (by omega) (by omega) w).mono ?_
 rintro e w' ⟨rfl,rfl⟩
 refine⟨?_,rfl⟩
 simp[hiI,loI]
end
def ao{α:Type}[Inhabited α](esz:Nat)(enc:α→List D)(xs:List α):D:=.sl esz xs.length fun i=>enc (xs.getD i default)
def bc(k:IntKind)(n:Int):List D:=[.val (.int k n)]
def dk(n:Int):Bool:=decide (0≤n)&&decide (n≤4611686018427387903)
theorem lj(n:Int):dk n=true↔0≤n∧n≤4611686018427387903:=by simp[dk]
def limE(T tau:Int):Int:=if dk T=true∧1≤T∧dk tau=true then 0 else 1
theorem cD(n:Int):Pure TC 18 [.i .i64 n] (.b (dk n)):=by
 refine Pure.mk' Tryz.func18 rfl rfl zN ?_
 (repeat' (first|((first|refine Wp.any ac rfl ?_|(with_reducible first|refine Go.mk ?_|apply aj.of));conv=>whnf)|((refine ap (fun hc=>?_) (fun hc=>?_))<;>(try simp only[wz9]at hc)<;>(try (exfalso;omega))<;>(conv=>whnf))))
 all_goals exact .b (by simp[dk];omega)
theorem jf(T tau:Int):Pure TC 51 [.agg [.i .i64 T,.i .i64 tau]] (.i .i64 (limE T tau)):=by
 refine Pure.mk' Tryz.func51 rfl rfl zN ?_
 (repeat' (first|((first|refine Wp.any ac rfl ?_|(with_reducible first|refine Go.mk ?_|apply aj.of|refine ab.pure (cD _) rfl rfl ?_));conv=>whnf)|((refine ap (fun hc=>?_) (fun hc=>?_))<;>(try simp only[wz9]at hc)<;>(try (exfalso;omega))<;>(conv=>whnf))))
 all_goals exact .i (by simp[limE, *];try omega)
structure Pol where
 kind:Int
 T:Int
 tau:Int
 permits:Int
 deriving Inhabited
def Pol.D(p:Pol):List D:=[.val (.int .u8 p.kind),.val (.int .i64 p.T),.val (.int .i64 p.tau),.val (.int .i64 p.permits)]
def m5(k T tau m:Int):Bool:=if k=1 then limE T tau==0 else if k=2 then decide (1≤m)&&decide (m≤64)else false
theorem sk(k T tau m:Int):Pure TC 34 [.agg [.i .u8 k,.i .i64 T,.i .i64 tau,.i .i64 m]] (.b (m5 k T tau m)):=by
 refine Pure.mk' Tryz.func34 rfl rfl zN ?_
 (repeat' (first|((first|refine Wp.any ac rfl ?_|(with_reducible first|refine Go.mk ?_|apply aj.of|refine ab.pure (jf _ _) rfl rfl ?_));conv=>whnf)|((refine ap (fun hc=>?_) (fun hc=>?_))<;>(try simp only[wz9]at hc)<;>(try (exfalso;omega))<;>(conv=>whnf))))
 all_goals exact .b (by simp[m5, *])
def cO(ps:List Pol):Int:=if 32<ps.length then 2 else if ps.all (fun p=>m5 p.kind p.T p.tau p.permits)then 0 else 3
theorem lF{ps:List Pol}(h:¬32<ps.length):cO ps=if ps.all (fun p=>m5 p.kind p.T p.tau p.permits)then 0 else 3:=by simp[cO,h]
theorem e7{α:Type}[Inhabited α]{f:α→Bool}{xs:List α}{k:Nat}(hk:k<xs.length)(h:(xs.take k).all f=true)(h2:f (xs.getD k default)=true):(xs.take (k+1)).all f=true:=by
 rw[List.take_succ_eq_append_getElem hk,List.all_append,h]
 simp only[List.getD,Q0 hk,Option.getD_some]at h2
 simp[h2]
theorem qT{α:Type}[Inhabited α]{f:α→Bool}{xs:List α}{k:Nat}(hk:k<xs.length)(h2:f (xs.getD k default)=false):xs.all f=false:=by
 simp only[List.getD,Q0 hk,Option.getD_some]at h2
 rw[List.all_eq_false]
 exact⟨_,Q14 hk,by simp[h2]⟩
theorem da(ps:List Pol):Pure TC 16 [.d (ao 4 Pol.D ps)] (.i .i64 (cO ps)):=by
 refine Pure.mk' Tryz.func16 rfl rfl zN ?_
 (repeat' (first|((first|refine Wp.any ac rfl ?_|(with_reducible first|refine Go.mk ?_|apply aj.of));conv=>whnf)|((refine ap (fun hc=>?_) (fun hc=>?_))<;>(try simp only[wz9]at hc)<;>(try (exfalso;omega))<;>(conv=>whnf))))
 ·exact .i (by simp[cO];omega)
 ·refine Wp.loopP (fun k=>k≤ps.length∧(ps.take k).all (fun p=>m5 p.kind p.T p.tau p.permits)=true) (fun k=>⟨⟨Tryz.f16.ntmps,0⟩,0,[(8,.d (ao 4 Pol.D ps)),(9,.i .i64 ps.length),(10,.i .i64 k)],[]⟩) (fun k=>ps.length-k) 0 ⟨by simp,by simp⟩ ?_ ?_
  ·(refine Le.by [] rfl rfl rfl rfl ?_ ?_<;>(conv=>whnf)<;>(repeat' (first|exact trivial|exact ae.rfl rfl|((with_reducible refine And.intro ?_ ?_)<;>(conv=>whnf)))))
  ·rintro k ⟨hk,hall⟩
   (repeat' (first|((first|refine Wp.any ac rfl ?_|(with_reducible first|refine Go.mk ?_|apply aj.of|refine Ov.ok zO ?_|refine And.intro zC ?_|refine ab.pure (sk _ _ _ _) rfl rfl ?_));conv=>whnf)|((refine ap (fun hc=>?_) (fun hc=>?_))<;>(try simp only[wz9]at hc)<;>(try (exfalso;omega))<;>(conv=>whnf))))
   ·exact .i (by rw[lF (by omega),qT (k:=k) (by omega) (by simpa using hc)];rfl)
   ·refine⟨k+1,⟨by omega,e7 (by omega) hall (by simpa using hc)⟩,by dsimp only;omega,?_⟩
    (refine Le.by [] rfl rfl rfl rfl ?_ ?_<;>(conv=>whnf)<;>(repeat' (first|exact trivial|exact ae.rfl rfl|((with_reducible refine And.intro ?_ ?_)<;>(conv=>whnf)))))
   ·rw[Q21 (by omega)]at hall
    exact .i (by rw[lF (by omega),hall];rfl)
def wv(op:Int):Int:=if op=1 then 1 else if op=2∨op=3 then 2 else 0
theorem sj(op:Int):Pure TC 35 [.i .u8 op] (.i .u8 (wv op)):=by
 refine Pure.mk' Tryz.func35 rfl rfl zN ?_
 (repeat' (first|((first|refine Wp.any ac rfl ?_|(with_reducible first|refine Go.mk ?_|apply aj.of));conv=>whnf)|((refine ap (fun hc=>?_) (fun hc=>?_))<;>(try simp only[wz9]at hc)<;>(try (exfalso;omega))<;>(conv=>whnf))))
 all_goals exact .i (by simp[wv, *])
def bsF(lt:Nat→Bool):Nat→Nat→Nat→Nat
 | 0,i,_=>i
 | n+1,i,j=>if i<j then(if lt ((i+j)/2)then bsF lt n ((i+j)/2+1) j else bsF lt n i ((i+j)/2))else i
def bs(lt:Nat→Bool)(n:Nat):Nat:=bsF lt (n+1) 0 n
theorem si{lt:Nat→Bool}{q i j:Nat}(h:¬i<j):bsF lt q i j=i:=by cases q<;>simp[bsF,h]
def ni(ps:List Pol)(op pol:Int)(key:List Int)(n:Int):Int :=
 if op<1∨6<op∨(op=1∧dk n=false)then 1
 else if op≤4∧255<key.length then 2
 else if cO ps≠0 then cO ps
 else if op≤4∧(pol<0∨ps.length≤pol∨(wv op≠0∧(ps.getD pol.toNat default).kind≠wv op))then 6 else 0
theorem aU(ps:List Pol)(op pol:Int)(key:List Int)(n:Int):Pure TC 17 [.d (ao 4 Pol.D ps),.agg [.i .u8 op,.i .i64 pol,.d (ao 1 (bc .u8) key),.i .i64 n]] (.i .i64 (ni ps op pol key n)):=by
 refine Pure.mk' Tryz.func17 rfl rfl zN ?_
 (repeat' (first|((first|refine Wp.any ac rfl ?_|(with_reducible first|refine Go.mk ?_|apply aj.of)|refine zV ?_|(with_reducible first|refine And.intro zC ?_|refine ab.pure (cD _) rfl rfl ?_|refine ab.pure (da _) rfl rfl ?_|refine ag.pure (sj _) rfl rfl ?_));conv=>whnf)|((refine ap (fun hc=>?_) (fun hc=>?_))<;>(try simp only[wz9]at hc)<;>(try (exfalso;omega))<;>(conv=>whnf))))
 all_goals exact .i (by
  unfold ni
  repeat' split
  all_goals first|rfl|omega|(exfalso;simp_all;try omega)|simp_all)
def k8(a b:Int):Int:=if dk a&&dk b then 0 else 1
theorem kZ(a b:Int):k8 a b=0↔(0≤a∧a≤4611686018427387903)∧0≤b∧b≤4611686018427387903:=by simp[k8,dk];omega
theorem xw(T tau:Int):limE T tau=0↔(1≤T∧T≤4611686018427387903)∧0≤tau∧tau≤4611686018427387903:=by simp[limE,dk];omega
theorem li(a b:Int):Pure TC 55 [.i .i64 a,.i .i64 b] (.i .i64 (k8 a b)):=by
 refine Pure.mk' Tryz.func55 rfl rfl zN ?_
 (repeat' (first|((first|refine Wp.any ac rfl ?_|(with_reducible first|refine Go.mk ?_|apply aj.of|refine ab.pure (cD _) rfl rfl ?_));conv=>whnf)|((refine ap (fun hc=>?_) (fun hc=>?_))<;>(try simp only[wz9]at hc)<;>(try (exfalso;omega))<;>(conv=>whnf))))
 all_goals exact .i (by simp[k8, *])
def mc(n:Int):Int:=min (max n 0) 4611686018427387903
theorem iX(n:Int):Pure TC 56 [.i .i64 n] (.i .i64 (mc n)):=by
 refine Pure.mk' Tryz.func56 rfl rfl zN ?_
 (repeat' (first|((first|refine Wp.any ac rfl ?_|(with_reducible first|refine Go.mk ?_|apply aj.of));conv=>whnf)))
 all_goals exact .i (by unfold mc;omega)
def tc(a b:Int):Int:=if k8 a b=0 then max (a-b) 0 else 0
theorem td(a b:Int):Pure TC 141 [.i .i64 a,.i .i64 b] (.tup [.i .i64 (tc a b),.i .i64 (k8 a b)]):=by
 refine Pure.mk' Tryz.func141 rfl rfl zN ?_
 (repeat' (first|((first|refine Wp.any ac rfl ?_|(with_reducible first|refine Go.mk ?_|apply aj.of|refine Ov.ok zO ?_|refine ab.pure (li _ _) rfl rfl ?_|refine ab.pure (iX _) rfl rfl ?_));conv=>whnf)|((refine ap (fun hc=>?_) (fun hc=>?_))<;>(try simp only[wz9,kZ]at hc)<;>(try (exfalso;omega))<;>(conv=>whnf))))
 ·exact .of_eq (by rw[tc,if_neg (by rw[kZ];omega)])
 ·exact .of_eq (by rw[tc,if_pos (by rw[kZ];omega),show k8 a b=0 by rw[kZ];omega,show mc (a-b)=max (a-b) 0 by unfold mc;omega])
theorem lE(a T:Int)(ha:0≤a)(hT:1≤T):0≤a/T∧a/T≤a:=⟨Int.ediv_nonneg ha (by omega),Int.ediv_le_self _ ha⟩
def dh(T tau tat now:Int):Int:=if tau<max tat now-now then 0 else min ((tau-(max tat now-now))/T+1) ((4611686018427387903-max tat now)/T)
theorem lR(T tau tat now:Int)(hT:1≤T)(hT2:T≤4611686018427387903)(h1:0≤tau)(h2:tau≤4611686018427387903)(h3:0≤tat)(h4:tat≤4611686018427387903)(h5:0≤now)(h6:now≤4611686018427387903) :
  Pure TC 159 [.agg [.i .i64 T,.i .i64 tau],.i .i64 tat,.i .i64 now] (.i .i64 (dh T tau tat now)):=by
 have q1:¬(if now>tat then now else tat)-now>tau→_:=fun h=>lE (tau-((if now>tat then now else tat)-now)) T (by omega) hT
 have q2:=lE (4611686018427387903-(if now>tat then now else tat)) T (by omega) hT
 refine Pure.mk' Tryz.func159 rfl rfl zN ?_
 (repeat' (first|((first|refine Wp.any ac rfl ?_|(with_reducible first|refine Go.mk ?_|apply aj.of|refine Ov.ok zO ?_|refine Ov.quo (by omega) (by omega) (by omega) (fun _ _=>?_))|refine zV ?_|with_reducible refine And.intro zC ?_);conv=>whnf)|((refine ap (fun hc=>?_) (fun hc=>?_))<;>(try simp only[wz9]at hc)<;>(try (exfalso;omega))<;>(conv=>whnf))))
 ·exact .i (by unfold dh;omega)
 ·refine .i ?_
  have e:max tat now=if now>tat then now else tat:=by omega
  rw[dh,e,if_neg (show ¬tau<(if now>tat then now else tat)-now by omega)]
  omega
theorem xp{x y:Int}(hx:0≤x)(hx2:x≤4611686018427387903)(hy:0≤y)(hy2:y≤4611686018427387903):0≤x*y∧x*y≤4611686018427387903*4611686018427387903 :=
 ⟨Int.mul_nonneg hx hy,Int.mul_le_mul hx2 hy2 hy (by omega)⟩
def iG(T n:Int):Int:=IntKind.i64.wrap (loI ((n-1)*T))
theorem hi_0{p:Int}(h:0≤p):(hiI p=0→loI p=p)∧(hiI p≠0→18446744073709551616≤p):=by unfold hiI loI;omega
theorem pg(T tau n:Int)(hT:1≤T)(hT2:T≤4611686018427387903)(h1:0≤tau)(h2:tau≤4611686018427387903)(h3:1≤n)(h4:n≤4611686018427387903) :
  Pure TC 172 [.agg [.i .i64 T,.i .i64 tau],.i .i64 n] (.tup [.i .i64 (iG T n),.b (decide ((n-1)*T≤tau))]):=by
 obtain⟨m1,m2⟩:=xp (x:=n-1) (y:=T) (by omega) (by omega) (by omega) hT2
 refine Pure.mk' Tryz.func172 rfl rfl zN ?_
 (repeat' (first|((first|refine Wp.any ac rfl ?_|(with_reducible first|refine Go.mk ?_|apply aj.of|refine Ov.ok zO ?_)|refine zV ?_|(with_reducible first|refine ab.pure (bits_Mul64 _ _ (by omega) (by omega) (by omega) (by omega)) rfl rfl ?_|refine Ov.mk ?_));conv=>whnf)|((refine ap (fun hc=>?_) (fun hc=>?_))<;>(try simp only[wz9]at hc)<;>(try (exfalso;omega))<;>(conv=>whnf))))
 ·rw[(hi_0 m1).1 hc]
  exact .of_eq (by unfold iG;rw[(hi_0 m1).1 hc])
 ·have:=(hi_0 m1).2 hc
  exact .of_eq (by rw[show decide ((n-1)*T≤tau)=false by simp;omega];rfl)
def pW(T tau tat now n:Int):Int :=
 if(n-1)*T≤tau∧n≤(4611686018427387903-max tat now)/T then tat-now-(tau-(n-1)*T)else 4611686018427387903
theorem w7{T tau n:Int}(h0:0≤(n-1)*T)(h:(n-1)*T≤tau)(ht:tau≤4611686018427387903):iG T n=(n-1)*T:=by
 unfold iG loI
 generalize (n-1)*T=p at *
 rw[show p%18446744073709551616=p by omega,IntWalk.i64_in _ (by omega)]
theorem rG(T tau tat now n:Int)(hT:1≤T)(hT2:T≤4611686018427387903)(h1:0≤tau)(h2:tau≤4611686018427387903)(h3:0≤tat)(h4:tat≤4611686018427387903)(h5:0≤now)(h6:now≤4611686018427387903)(h7:1≤n)(h8:n≤4611686018427387903) :
  Pure TC 167 [.agg [.i .i64 T,.i .i64 tau],.i .i64 tat,.i .i64 now,.i .i64 n] (.i .i64 (pW T tau tat now n)):=by
 obtain⟨m1,m2⟩:=xp (x:=n-1) (y:=T) (by omega) (by omega) (by omega) hT2
 have q2:=lE (4611686018427387903-(if now>tat then now else tat)) T (by omega) hT
 have q3:(n-1)*T≤tau→iG T n=(n-1)*T:=fun h=>w7 m1 h h2
 refine Pure.mk' Tryz.func167 rfl rfl zN ?_
 have e:max tat now=if now>tat then now else tat:=by omega
 (repeat' (first|((first|refine Wp.any ac rfl ?_|(with_reducible first|refine Go.mk ?_|apply aj.of|refine Ov.ok zO ?_|refine Ov.quo (by omega) (by omega) (by omega) (fun _ _=>?_)|refine And.intro zC ?_|refine ab.pure (pg T tau n hT hT2 h1 h2 h7 h8) rfl rfl ?_));conv=>whnf)|((refine ap (fun hc=>?_) (fun hc=>?_))<;>(try simp only[wz9]at hc)<;>(try (exfalso;omega))<;>(conv=>whnf))))
 ·exact .i (by rw[pW,if_neg (by omega)])
 ·exact .i (by rw[pW,e,if_neg (show ¬((n-1)*T≤tau∧n≤(4611686018427387903-(if now>tat then now else tat))/T)by omega)])
 ·exact .i (by rw[pW,e,if_pos (show(n-1)*T≤tau∧n≤(4611686018427387903-(if now>tat then now else tat))/T by omega),q3 (by omega)])
structure Ans where
 g:Bool
 tat:Int
 wait:Int
 left:Int
def Ans.S(a:Ans):SV:=.agg [.b a.g,.i .i64 a.tat,.i .i64 a.wait,.i .i64 a.left]
def tatI(T tau tat now n:Int):Int:=if n≤dh T tau tat now∧0<n then max tat now+n*T else tat
def decI(T tau tat now n:Int):Ans :=
 {g:=decide (n≤dh T tau tat now),tat:=tatI T tau tat now n
  wait:=if n≤dh T tau tat now then 0 else pW T tau tat now n,left:=dh T tau (tatI T tau tat now n) now }
theorem wr{T tau tat now:Int}(hT:1≤T)(h3:0≤tat)(h4:tat≤4611686018427387903)(h5:0≤now)(h6:now≤4611686018427387903){n:Int}(hn:n≤dh T tau tat now)(h0:0<n) :
  0≤n*T∧max tat now+n*T≤4611686018427387903:=by
 unfold dh at hn
 split at hn
 ·omega
 ·have h:n≤(4611686018427387903-max tat now)/T:=by omega
  rw[Int.le_ediv_iff_mul_le (by omega)]at h
  exact⟨Int.mul_nonneg (by omega) (by omega),by omega⟩
theorem lI{T tau tat now:Int}(hT:1≤T)(h3:0≤tat)(h4:tat≤4611686018427387903)(h5:0≤now)(h6:now≤4611686018427387903):0≤dh T tau tat now∧dh T tau tat now≤4611686018427387903:=by
 unfold dh
 split
 ·omega
 ·have h1:=lE (tau-(max tat now-now)) T (by omega) hT
  have h2:=lE (4611686018427387903-max tat now) T (by omega) hT
  omega
theorem mW(T tau tat now n:Int)(hT:1≤T)(hT2:T≤4611686018427387903)(h1:0≤tau)(h2:tau≤4611686018427387903)(h3:0≤tat)(h4:tat≤4611686018427387903)(h5:0≤now)(h6:now≤4611686018427387903)(h7:0≤n)(h8:n≤4611686018427387903) :
  Pure TC 160 [.agg [.i .i64 T,.i .i64 tau],.i .i64 tat,.i .i64 now,.i .i64 n] (decI T tau tat now n).S:=by
 have hl0:=lI (tau:=tau) hT h3 h4 h5 h6
 have hl1:n≤dh T tau tat now→0<n→_:=wr (n:=n) (tau:=tau) hT h3 h4 h5 h6
 have e:max tat now=if now>tat then now else tat:=by omega
 refine Pure.mk' Tryz.func160 rfl rfl zN ?_
 (repeat' (first|((first|refine Wp.any ac rfl ?_|(with_reducible first|refine Go.mk ?_|apply aj.of|refine Ov.ok zO ?_|refine ab.pure (lR _ _ _ _ hT hT2 h1 h2 (by omega) (by omega) h5 h6) rfl rfl ?_|refine ab.pure (rG _ _ _ _ _ hT hT2 h1 h2 (by omega) (by omega) h5 h6 (by omega) (by omega)) rfl rfl ?_));conv=>whnf)|((refine ap (fun hc=>?_) (fun hc=>?_))<;>(try simp only[wz9]at hc)<;>(try (exfalso;omega))<;>(conv=>whnf))))
 all_goals refine .of_eq ?_
 ·simp[Ans.S,decI,tatI,hc]
 ·have h9:n≤dh T tau tat now∧0<n:=by omega
  simp[Ans.S,decI,tatI,h9,e]
 ·have h9:¬(n≤dh T tau tat now∧0<n):=by omega
  have h8:n≤dh T tau tat now:=by omega
  simp only[Ans.S,decI,tatI,if_neg h9,if_pos h8]
def pO(T tau:Int)(xs:List Int):Int:=if xs.all dk then limE T tau else 1
theorem jr(T tau:Int)(xs:List Int):Pure TC 158 [.agg [.i .i64 T,.i .i64 tau],.d (ao 1 (bc .i64) xs)] (.i .i64 (pO T tau xs)):=by
 refine Pure.lens (.mk Tryz.func158 rfl rfl) fun hlen=>?_
 have hlen:=hlen xs.length (by simp[eE,ao])
 refine Pure.mk' Tryz.func158 rfl rfl zN ?_
 (repeat' (first|((first|refine Wp.any ac rfl ?_|(with_reducible first|refine Go.mk ?_|apply aj.of));conv=>whnf)))
 refine Wp.loopP (fun k=>k≤xs.length∧(xs.take k).all dk=true) (fun k=>⟨⟨Tryz.f158.ntmps,0⟩,1,[(2,.ptr 0 0),(7,.d (ao 1 (bc .i64) xs)),(8,.i .i64 xs.length),(9,.i .i64 k)],[(0,some (.cells [.i .i64 T,.i .i64 tau]))]⟩) (fun k=>xs.length-k) 0 ⟨by simp,by simp⟩ ?_ ?_
 ·(refine Le.by [0] rfl rfl rfl rfl ?_ ?_<;>(conv=>whnf)<;>(repeat' (first|exact trivial|exact ae.rfl rfl|exact ae.ptr rfl|((with_reducible refine And.intro ?_ ?_)<;>(conv=>whnf)))))
 ·rintro k ⟨hk,hall⟩
  (repeat' (first|((first|refine Wp.any ac rfl ?_|(with_reducible first|refine Go.mk ?_|apply aj.of|refine Ov.ok zO ?_|refine And.intro zC ?_|refine ab.pure (cD _) rfl rfl ?_|refine ab.pure (jf _ _) rfl rfl ?_));conv=>whnf)|((refine ap (fun hc=>?_) (fun hc=>?_))<;>(try simp only[wz9]at hc)<;>(try (exfalso;omega))<;>(conv=>whnf))))
  ·exact .i (by rw[pO,qT (k:=k) (by omega) (by simpa using hc)];rfl)
  ·refine⟨k+1,⟨by omega,e7 (by omega) hall (by simpa using hc)⟩,by dsimp only;omega,?_⟩
   (refine Le.by [0] rfl rfl rfl rfl ?_ ?_<;>(conv=>whnf)<;>(repeat' (first|exact trivial|exact ae.rfl rfl|exact ae.ptr rfl|((with_reducible refine And.intro ?_ ?_)<;>(conv=>whnf)))))
  ·rw[Q21 (by omega)]at hall
   exact .i (by rw[pO,hall];rfl)
theorem oE(T tau a b c:Int):pO T tau [a,b,c]=0↔((1≤T∧T≤4611686018427387903)∧0≤tau∧tau≤4611686018427387903)∧(0≤a∧a≤4611686018427387903)∧(0≤b∧b≤4611686018427387903)∧0≤c∧c≤4611686018427387903:=by
 rw[← xw];unfold pO
 simp only[List.all_cons,List.all_nil,Bool.and_true,Q5,lj]
 split<;>omega
theorem oF(T tau a b:Int):pO T tau [a,b]=0↔((1≤T∧T≤4611686018427387903)∧0≤tau∧tau≤4611686018427387903)∧(0≤a∧a≤4611686018427387903)∧0≤b∧b≤4611686018427387903:=by
 rw[← xw];unfold pO
 simp only[List.all_cons,List.all_nil,Bool.and_true,Q5,lj]
 split<;>omega
def decA(T tau tat now n:Int):Ans:=if pO T tau [tat,now,n]=0 then decI T tau tat now n else⟨false,0,0,0⟩
theorem mX(T tau tat now n:Int):Pure TC 151 [.agg [.i .i64 T,.i .i64 tau],.i .i64 tat,.i .i64 now,.i .i64 n] (.tup [(decA T tau tat now n).S,.i .i64 (pO T tau [tat,now,n])]):=by
 refine Pure.mk' Tryz.func151 rfl rfl zN ?_
 (repeat' (first|((first|refine Wp.any ac rfl ?_|(with_reducible first|refine Go.mk ?_|apply aj.of));conv=>whnf)|((with_reducible refine ab.pureI (jr T tau [tat,now,n]) rfl ?_);(conv=>whnf);(repeat' ((with_reducible refine And.intro (by omega) ?_);(conv=>whnf)));(refine And.intro (by(repeat' (first|exact zA9|with_reducible refine Les.cons ?_ ?_))) ?_);(conv=>whnf))|((with_reducible refine ab.pure (mW T tau tat now n (by omega) (by omega) (by omega) (by omega) (by omega) (by omega) (by omega) (by omega) (by omega) (by omega)) rfl rfl ?_);conv=>whnf)|((refine ap (fun hc=>?_) (fun hc=>?_))<;>(try simp only[wz9,oE]at hc)<;>(try (exfalso;omega))<;>(conv=>whnf))))
 ·exact .of_eq (by rw[decA,if_neg (by rw[oE];exact hc)];rfl)
 ·exact .of_eq (by rw[decA,if_pos (by rw[oE];exact hc),(oE ..).2 hc];rfl)
theorem rH(T tau tat now:Int):Pure TC 140 [.agg [.i .i64 T,.i .i64 tau],.i .i64 tat,.i .i64 now] (.tup [.i .i64 (if pO T tau [tat,now]=0 then dh T tau tat now else 0),.i .i64 (pO T tau [tat,now])]):=by
 refine Pure.mk' Tryz.func140 rfl rfl zN ?_
 (repeat' (first|((first|refine Wp.any ac rfl ?_|(with_reducible first|refine Go.mk ?_|apply aj.of));conv=>whnf)|((with_reducible refine ab.pureI (jr T tau [tat,now]) rfl ?_);(conv=>whnf);(repeat' ((with_reducible refine And.intro (by omega) ?_);(conv=>whnf)));(refine And.intro (by(repeat' (first|exact zA9|with_reducible refine Les.cons ?_ ?_))) ?_);(conv=>whnf))|((with_reducible refine ab.pure (lR T tau tat now (by omega) (by omega) (by omega) (by omega) (by omega) (by omega) (by omega) (by omega)) rfl rfl ?_);conv=>whnf)|((refine ap (fun hc=>?_) (fun hc=>?_))<;>(try simp only[wz9,oF]at hc)<;>(try (exfalso;omega))<;>(conv=>whnf))))
 ·exact .of_eq (by rw[if_neg (by rw[oF];exact hc)])
 ·exact .of_eq (by rw[if_pos (by rw[oF];exact hc),(oF ..).2 hc])
theorem r9(n:Int):Pure TC 170 [.i .i64 n] (.b false):=by
 refine Pure.mk' Tryz.func170 rfl rfl zN ?_
 (repeat' (first|((first|refine Wp.any ac rfl ?_|(with_reducible first|refine Go.mk ?_|apply aj.of));conv=>whnf)))
 all_goals exact .b (by simp)
theorem lz(n:Int):Pure TC 164 [.i .i64 n] (.b false):=by
 refine Pure.mk' Tryz.func164 rfl rfl zN ?_
 (repeat' (first|((first|refine Wp.any ac rfl ?_|(with_reducible first|refine Go.mk ?_|apply aj.of));conv=>whnf)))
 all_goals exact .b (by simp)
theorem wL(a b:Int):Pure TC 163 [.i .i64 a,.i .i64 b] (.b (decide (a<b))):=by
 refine Pure.mk' Tryz.func163 rfl rfl zN ?_
 (repeat' (first|((first|refine Wp.any ac rfl ?_|(with_reducible first|refine Go.mk ?_|apply aj.of|refine ab.pure (r9 _) rfl rfl ?_));conv=>whnf)))
 all_goals exact .b (by simp;try omega)
def sS(xs:List Int)(t:Int):Nat:=bs (fun k=>decide (xs.getD k default<t)) xs.length
def pM(xs:List Int)(t:Int):Bool:=decide (sS xs t<xs.length)&&decide (xs.getD (sS xs t) default=t)
theorem i7(xs:List Int)(t:Int)(hlen:xs.length≤4611686018427387903):Pure TC 155 [.d (ao 1 (bc .i64) xs),.i .i64 t] (.tup [.i .i64 (sS xs t),.b (pM xs t)]):=by
 refine Pure.mk' Tryz.func155 rfl rfl zN ?_
 (repeat' (first|((first|refine Wp.any ac rfl ?_|(with_reducible first|refine Go.mk ?_|apply aj.of));conv=>whnf)))
 refine Wp.loopP (ι:=Nat×Nat×Nat) (fun k=>k.1≤k.2.1∧k.2.1≤xs.length∧k.2.1-k.1<k.2.2∧bsF (fun k=>decide (xs.getD k default<t)) k.2.2 k.1 k.2.1=sS xs t) (fun k=>⟨⟨Tryz.f155.ntmps,0⟩,0,[(0,.d (ao 1 (bc .i64) xs)),(1,.i .i64 t),(6,.i .i64 xs.length),(7,.i .i64 k.1),(8,.i .i64 k.2.1)],[]⟩) (fun k=>k.2.1-k.1) (0,xs.length,xs.length+1) ⟨by simp,by simp,by simp,rfl⟩ ?_ ?_
 ·(refine Le.by [] rfl rfl rfl rfl ?_ ?_<;>(conv=>whnf)<;>(repeat' (first|exact trivial|exact ae.rfl rfl|((with_reducible refine And.intro ?_ ?_)<;>(conv=>whnf)))))
 ·rintro⟨i,j,q⟩ ⟨h1,h2,h3,h4⟩
  dsimp only at h1 h2 h3 h4⊢
  (repeat' (first|((first|refine Wp.any ac rfl ?_|(with_reducible first|refine Go.mk ?_|apply aj.of|refine Ov.ok zO ?_));conv=>whnf)|(with_reducible refine Ov.sh1 (by with_unfolding_all exact rfl) ?_)|((with_reducible first|refine And.intro zC ?_|refine ab.pure (wL _ _) rfl rfl ?_|refine ab.pure (lz _) rfl rfl ?_);conv=>whnf)|((refine ap (fun hc=>?_) (fun hc=>?_))<;>(try simp only[wz9]at hc)<;>(try (exfalso;omega))<;>(conv=>whnf))))
  ·rw[show(((i:Int)+j)/2).toNat=(i+j)/2 by omega]at hc
   have hh:decide (xs.getD ((i+j)/2) default<t)=true:=by simpa using hc
   refine⟨((i+j)/2+1,j,q-1),⟨by dsimp only;omega,h2,by dsimp only;omega,?_⟩,by dsimp only;omega,?_⟩
   ·rw[← h4]
    obtain⟨q,rfl⟩:∃r,q=r+1:=⟨q-1,by omega⟩
    rw[bsF,if_pos (by omega),if_pos hh];rfl
   ·(refine Le.by [] rfl rfl rfl rfl ?_ ?_<;>(conv=>whnf)<;>(repeat' (first|exact trivial|exact ae.rfl rfl|((with_reducible refine And.intro ?_ ?_)<;>(conv=>whnf)))))
  ·rw[show(((i:Int)+j)/2).toNat=(i+j)/2 by omega]at hc
   have hh:¬decide (xs.getD ((i+j)/2) default<t)=true:=by simpa using hc
   refine⟨(i,(i+j)/2,q-1),⟨by dsimp only;omega,by dsimp only;omega,by dsimp only;omega,?_⟩,by dsimp only;omega,?_⟩
   ·rw[← h4]
    obtain⟨q,rfl⟩:∃r,q=r+1:=⟨q-1,by omega⟩
    rw[bsF,if_pos (by omega),if_neg hh];rfl
   ·(refine Le.by [] rfl rfl rfl rfl ?_ ?_<;>(conv=>whnf)<;>(repeat' (first|exact trivial|exact ae.rfl rfl|((with_reducible refine And.intro ?_ ?_)<;>(conv=>whnf)))))
  all_goals rw[si (by omega)]at h4
  all_goals subst h4
  ·exact .of_eq (by simp[pM];simp_all)
  ·exact .of_eq (by simp[pM];simp_all)
  ·exact .of_eq (by simp[pM];intros;omega)
def serB(n:Int):Bool:=decide (1≤n)&&decide (n≤4611686018427387903)
theorem gX(n:Int):Pure TC 161 [.i .i64 n] (.b (serB n)):=by
 refine Pure.mk' Tryz.func161 rfl rfl zN ?_
 (repeat' (first|((first|refine Wp.any ac rfl ?_|(with_reducible first|refine Go.mk ?_|apply aj.of));conv=>whnf)|((refine ap (fun hc=>?_) (fun hc=>?_))<;>(try simp only[wz9]at hc)<;>(try (exfalso;omega))<;>(conv=>whnf))))
 all_goals exact .b (by simp[serB];try omega)
def lD:Int→List Int→Bool
 | _,[]=>true
 | l,x::r=>serB x&&decide (l<x)&&lD x r
def i6(p:Int)(xs:List Int):Int:=if 1≤p∧p≤64∧(xs.length:Int)≤p∧lD 0 xs=true then 0 else 3
theorem eV{α:Type}[Inhabited α]{xs:List α}{k:Nat}(h:k<xs.length):xs.drop k=xs.getD k default::xs.drop (k+1):=by
 rw[List.drop_eq_getElem_cons h];simp[List.getD,Q0 h]
theorem jl(p:Int)(xs:List Int):Pure TC 154 [.agg [.i .i64 p,.d (ao 1 (bc .i64) xs)]] (.i .i64 (i6 p xs)):=by
 refine Pure.mk' Tryz.func154 rfl rfl zN ?_
 (repeat' (first|((first|refine Wp.any ac rfl ?_|(with_reducible first|refine Go.mk ?_|apply aj.of));conv=>whnf)|((refine ap (fun hc=>?_) (fun hc=>?_))<;>(try simp only[wz9]at hc)<;>(try (exfalso;omega))<;>(conv=>whnf))))
 ·exact .i (by rw[i6,if_neg (by omega)])
 ·exact .i (by rw[i6,if_neg (by omega)])
 ·exact .i (by rw[i6,if_neg (by omega)])
 refine Wp.loopP (ι:=Nat×Int) (fun k=>k.1≤xs.length∧lD k.2 (xs.drop k.1)=lD 0 xs) (fun k=>⟨⟨Tryz.f154.ntmps,0⟩,0,[(3,.i .i64 k.2),(23,.d (ao 1 (bc .i64) xs)),(24,.i .i64 xs.length),(25,.i .i64 k.1)],[]⟩) (fun k=>xs.length-k.1) (0,0) ⟨by simp,by simp⟩ ?_ ?_
 ·(refine Le.by [] rfl rfl rfl rfl ?_ ?_<;>(conv=>whnf)<;>(repeat' (first|exact trivial|exact ae.rfl rfl|((with_reducible refine And.intro ?_ ?_)<;>(conv=>whnf)))))
 ·rintro⟨k,l⟩ ⟨h1,h2⟩
  dsimp only at h1 h2⊢
  (repeat' (first|((first|refine Wp.any ac rfl ?_|(with_reducible first|refine Go.mk ?_|apply aj.of|refine Ov.ok zO ?_|refine And.intro zC ?_|refine ab.pure (gX _) rfl rfl ?_));conv=>whnf)|((refine ap (fun hc=>?_) (fun hc=>?_))<;>(try simp only[wz9]at hc)<;>(try (exfalso;omega))<;>(conv=>whnf))))
  all_goals try simp only[Q13]at *
  ·rw[eV (by omega),lD,hc]at h2
   exact .i (by rw[i6,if_neg (by rw[← h2];simp)])
  ·rw[eV (by omega),lD,decide_eq_false (by omega)]at h2
   exact .i (by rw[i6,if_neg (by rw[← h2];simp)])
  ·rename_i hs
   rw[eV (by omega),lD,hs,decide_eq_true (by omega)]at h2
   refine⟨(k+1,xs.getD k default),⟨by dsimp only;omega,by simpa using h2⟩,by dsimp only;omega,?_⟩
   (refine Le.by [] rfl rfl rfl rfl ?_ ?_<;>(conv=>whnf)<;>(repeat' (first|exact trivial|exact ae.rfl rfl|((with_reducible refine And.intro ?_ ?_)<;>(conv=>whnf)))))
  ·rw[List.drop_eq_nil_of_le (by omega),lD]at h2
   exact .i (by rw[i6,if_pos ⟨by omega,by omega,by omega,h2.symm⟩])
end Go.Proofs.YtgkpjebgcfjfnaaGreat
