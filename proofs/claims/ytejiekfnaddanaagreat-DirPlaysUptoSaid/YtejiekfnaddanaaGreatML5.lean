/- Lemmas of Sx24, Ty, Sx20, Bk1, Bk7a, Br1, Br2, Br3a, Sx23. No condition. -/
import Derived.Test.YtejiekfnaddanaaGreatML4
import Derived.IntWalk
import Derived.Test.YtejiekfnaddanaaGreatRows
import Derived.Lib.BytesEntry
import Derived.Laws.Externs
import Derived.WalkKit
import Derived.WalkSpells
import Derived.WalkLawsBesides
import Derived.BigQuiet
import Derived.Deep.QuietTactic
import Derived.StillTailTactics
import Derived.Deep.RegionWith
import Derived.Deep.RegionHeld3
import Derived.Lib.Hide
import Derived.Deep.Slices
import Derived.ReadAgain
import Derived.ChangeSame
import Derived.ProofKit
import Derived.OpenShut
import Derived.JoinedCond
import Derived.WideWitness
set_option linter.unusedVariables false
set_option linter.unusedSimpArgs false
set_option linter.unusedSectionVars false
set_option maxHeartbeats 80000000
set_option maxRecDepth 100000
namespace Go.Proofs.YtejiekfnaddanaaGreat
open Go.RowKit
section
structure ak(S:St)(L:List Nat)(x y:SV):Prop where
 out:∀O E a w v,Sat O E S a w→RS E S.nx w x v→RS (E.end S L) L.length w y v
def eL(S:St)(L:List Nat):List SV→List SV→Prop
 | [],[]=>True
 | x::xs,y::ys=>ak S L x y∧eL S L xs ys
 | _,_=>False
theorem eL.out{S:St}{L:List Nat}:∀{xs ys:List SV},eL S L xs ys→xs.length=ys.length∧∀(j:Nat) (y:SV),ys[j]?=some y→∃x,xs[j]?=some x∧ak S L x y
 | [],[],_=>⟨rfl,fun j y h=>by simp at h⟩
 | x::xs,y::ys,⟨h1,h2⟩=>by
  obtain⟨g1,g2⟩:=eL.out h2
  refine⟨by simp[g1],fun j z hz=>?_⟩
  cases j with
  | zero=>simp at hz;subst hz;exact⟨x,rfl,h1⟩
  | succ j=>simp at hz;exact g2 j z hz
 | [],_::_,h=>h.elim
 | _::_,[],h=>h.elim
theorem eL.at{S:St}{L:List Nat}{xs ys:List SV}(h:eL S L xs ys){j:Nat}(hj:j<ys.length):∃hj':j<xs.length,ak S L xs[j] ys[j]:=by
 obtain⟨h1,h2⟩:=h.out
 obtain⟨x,g1,g2⟩:=h2 j _ (Q0 hj)
 obtain⟨q1,q2⟩:=Q3 g1
 exact⟨q1,by rw[q2];exact g2⟩
variable{S:St}{L:List Nat}
theorem ak.any{x:SV}:ak S L x .any:=⟨fun _ _ _ _ _ _ _=>.any _⟩
theorem ak.d{x:D}:ak S L (.d x) (.d x):=⟨fun O E a w v hs hv=>by cases hv with|d _ _ hv=>exact .d _ _ (hv.mono (fun _ hb=>Or.inl hb) fun _ _=>rfl)⟩
theorem ak.le{x y z:SV}(h:ak S L x y)(hl:SV.Le y z):ak S L x z:=⟨fun O E a w v hs hv=>hl.out _ _ _ _ (h.out O E a w v hs hv)⟩
theorem ak.ptrL{l o i:Nat}(hi:iO L l=some i):ak S L (.ptr l o) (.ptr i o):=by
 obtain⟨h1,h2⟩:=bA hi
 refine⟨fun O E a w v hs hv=>?_⟩
 cases hv with
 | ptr _ _ hl =>
  have:=RS.ptr (E:=E.end S L) (nx:=L.length) (w:=w) i o h1
  simp only[Env.end,h2]at this;exact this
theorem ak.slL{l z o n i:Nat}(hi:iO L l=some i):ak S L (.sl l z o n) (.sl i z o n):=by
 obtain⟨h1,h2⟩:=bA hi
 refine⟨fun O E a w v hs hv=>?_⟩
 cases hv with
 | sl _ _ _ _ ad cap hl hc hm ha h0=>exact .sl i z o n ad cap h1 hc hm (by simp only[Env.end,h2];exact ha) (by simp only[Env.end,h2];exact h0)
theorem ak.ptr{l o:Nat}{cs ds:List SV}(hi:iO L l=none)(hl:lkh S.hp l=some (.cells cs))(h:eL S L cs ds):ak S L (.ptr l o) (.iref ds o):=by
 refine⟨fun O E a w v hs hv=>?_⟩
 cases hv with
 | ptr _ _ hlx =>
  obtain⟨vs,T,g1,g2,g3⟩:=hs.hp l _ hl
  have hlen:=h.out.1
  have:=RS.iref (E:=E.end S L) (nx:=L.length) (w:=w) ds o (E.ρ l) 0 (fun j=>vs.getD j undef) (Or.inr ⟨l,_,hl,trivial,rfl,fU hi⟩) (fun j hj=>by
    have hj':j<vs.size:=by omega
    simp[World.cell?,g1,Array.getD,hj']) (fun j hj=>(g3 j (by omega)).2) (fun j hj=>by
    obtain⟨q1,q2⟩:=h.at hj
    exact q2.out O E a w _ hs (g3 j q1).1)
  rwa [Q19]at this
theorem ak.sl{l e z o n m:Nat}{f:Nat→List D}(hi:iO L l=none)(hl:lkh S.hp l=some (.row e z m f))(hn:o+n≤m):ak S L (.sl l z o n) (.d (.sl z n fun i=>f (o+i))):=by
 refine⟨fun O E a w v hs hv=>?_⟩
 have hI:∀b,E.Im b→(E.end S L).Im b:=fun b hb=>Or.inl hb
 obtain⟨y,h1,h2⟩:=gH (ρ':=(E.end S L).ρ) (κ':=(E.end S L).κ) (m':=L.length) (k:=fun y=>y=.d (.sl z n fun i=>f (o+i))) hs hI hv (fun l' b hl' hb hr=>by
   have:SV.lab (.sl l z o n)=some l:=rfl
   rw[this]at hl';cases hl';exact Or.inr ⟨l,b,hb,hr,rfl,fU hi⟩) (by simp only[fB,hl];simp[hn])
 rw[h1]at h2;exact h2
theorem ak.fn{f:Fn}{cs ds:List SV}(h:eL S L cs ds):ak S L (.fn f cs) (.fn f ds):=by
 refine⟨fun O E a w v hs hv=>?_⟩
 cases hv with
 | fn _ _ us hsz hh=>exact .fn _ _ us (by have:=h.out.1;omega) fun j hj=>by obtain⟨q1,q2⟩:=h.at hj;exact q2.out O E a w _ hs (hh j q1)
theorem ak.tup{cs ds:List SV}(h:eL S L cs ds):ak S L (.tup cs) (.tup ds):=by
 refine⟨fun O E a w v hs hv=>?_⟩
 cases hv with
 | tup _ us hsz hh=>exact .tup _ us (by have:=h.out.1;omega) fun j hj=>by obtain⟨q1,q2⟩:=h.at hj;exact q2.out O E a w _ hs (hh j q1)
theorem ak.iref{cs ds:List SV}{o:Nat}(h:eL S L cs ds):ak S L (.iref cs o) (.iref ds o):=by
 refine⟨fun O E a w v hs hv=>?_⟩
 have hlen:=h.out.1
 cases hv with
 | iref _ _ b p g hb hcell h1 hh=>exact .iref _ _ b p g (Or.inl hb) (fun j hj=>hcell j (by omega)) (fun j hj=>h1 j (by omega)) fun j hj=>by obtain⟨q1,q2⟩:=h.at hj;exact q2.out O E a w _ hs (hh j q1)
theorem ak.lt0{x:SV}(h:SV.Lt 0 x):ak S L x x:=⟨fun O E a w v hs hv=>RS.congr (E:=E) (m:=0) (fun l hl=>by omega) (Nat.zero_le _) (fun _ hb=>Or.inl hb) h hv⟩
theorem ak.same{x:SV}{m:Nat}(h:SV.Lt m x)(hm:m≤L.length)(hid:∀i,i<m→L.getD i 0=i):ak S L x x :=
 ⟨fun O E a w v hs hv=>RS.congr (E:=E) (m:=m) (fun l hl=>by simp only[Env.end];rw[hid l hl];exact⟨rfl,rfl⟩) hm (fun _ hb=>Or.inl hb) h hv⟩
structure DLe(x y:D):Prop where
 out:∀w Im v,RD w Im x v→RD w Im y v
theorem DLe.refl(x:D):DLe x x:=⟨fun _ _ _ h=>h⟩
theorem DLe.nil{z:Nat}{f:Nat→List D}:DLe (.val (.slice none 0 0)) (.sl z 0 f):=⟨fun w Im v h=>by
 cases h with|val _ _=>exact .sl z 0 f none 0 (fun _ _=>undef) (Q4 _) (by unfold maxLen;omega) (fun i hi=>by omega) (fun h=>by omega) (fun i j hi=>by omega)⟩
def bX:List D→List D→Prop
 | [],[]=>True
 | x::xs,y::ys=>DLe x y∧bX xs ys
 | _,_=>False
theorem bX.refl:∀xs:List D,bX xs xs
 | []=>trivial
 | x::xs=>⟨.refl x,bX.refl xs⟩
theorem bX.of{xs ys:List D}(h:xs=ys):bX xs ys:=by subst h;exact .refl _
theorem bX.out:∀{xs ys:List D},bX xs ys→xs.length=ys.length∧∀(j:Nat) (hx:j<xs.length) (hy:j<ys.length),DLe xs[j] ys[j]
 | [],[],_=>⟨rfl,fun j hx=>by simp at hx⟩
 | x::xs,y::ys,⟨h1,h2⟩=>by
  obtain⟨g1,g2⟩:=bX.out h2
  refine⟨by simp[g1],fun j hx hy=>?_⟩
  cases j with
  | zero=>exact h1
  | succ j=>exact g2 j (by simpa using hx) (by simpa using hy)
 | [],_::_,h=>h.elim
 | _::_,[],h=>h.elim
def blkS(S:St)(L:List Nat):Option Blk→Blk→Prop
 | some (.cells cs),.cells cs'=>eL S L cs cs'
 | some (.row e z n f),.row e' z' n' f'=>(e=e'∧z=z'∧n=n')∧∀i,i<n→bX (f i) (f' i)
 | some (.cf _ n g),.cf m' n' g'=>(n=n'∧m'≤L.length)∧∀j,j<n'→ak S L (g j) (g' j)∧SV.Lt m' (g' j)
 | some (.cells cs),.cf m' n' g'=>m'≤L.length∧eL S L cs ((List.range n').map g')∧∀j,j<n'→SV.Lt m' (g' j)
 | _,_=>False
def l8(S:St)(L:List Nat):List (Nat×Option Blk)→Prop
 | []=>True
 | (_,none)::r=>l8 S L r
 | (i,some b)::r=>bif Nat.blt i L.length then blkS S L (lkh S.hp (L.getD i 0)) b∧l8 S L r else False
theorem fV:∀{H:List (Nat×Option Blk)},l8 S L H→∀i b,lkh H i=some b→i<L.length∧blkS S L (lkh S.hp (L.getD i 0)) b
 | [],_,i,b,h=>by simp[lkh]at h
 | (j,none)::r,hk,i,b,h=>fV (H:=r) hk i b (aG h).2
 | (j,some b')::r,hk,i,b,h=>by
  unfold l8 at hk
  cases hb:Nat.blt j L.length with
  | false=>simp[hb]at hk
  | true =>
   simp only[hb,cond_true]at hk
   rw[aj]at h
   by_cases e:j=i
   ·subst e;rw[if_pos rfl]at h;cases h;exact⟨by simpa using hb,hk.1⟩
   ·rw[if_neg e]at h;exact fV hk.2 i b h
theorem af.laid{m m':Nat}{S:St}{x r:SV}{H':List (Nat×Option Blk)}(L:List Nat)(hlen:L.length=m')(hm:∀i,i<m→L.getD i 0=i)(hd:bR L=true)(hx:ak S L x r)(hH:l8 S L H'):af m S x m' r H':=by
 refine⟨fun O E a w v hO hs hv=>?_⟩
 subst hlen
 have hblk:∀i b,lkh H' i=some b→i<L.length∧(∃b0,lkh S.hp (L.getD i 0)=some b0∧(b.real (E.κ (L.getD i 0))→b0.real (E.κ (L.getD i 0))))∧BS (E.end S L) L.length w i b:=by
  intro i b hb
  obtain⟨g1,g2⟩:=fV hH i b hb
  unfold blkS at g2
  split at g2
  ·rename_i cs cs' hl
   refine⟨g1,⟨_,hl,fun _=>trivial⟩,?_⟩
   obtain⟨vs,T,k1,k2,k3⟩:=hs.hp _ _ hl
   have hlen:=g2.out.1
   refine⟨vs,T,k1,by omega,fun j hj=>?_⟩
   obtain⟨q1,q2⟩:=g2.at hj
   exact⟨q2.out O E a w _ hs (k3 j q1).1,(k3 j q1).2⟩
  ·rename_i e z n f e' z' n' f' hl
   obtain⟨⟨rfl,rfl,rfl⟩,g3⟩:=g2
   refine⟨g1,⟨_,hl,fun h=>h⟩,?_⟩
   obtain⟨k1,k2,k3,k4,k5⟩:=hs.hp _ _ hl
   refine⟨k1,k2,k3,fun i hi=>by rw[← (g3 i hi).out.1];exact k4 i hi,fun hk=>?_⟩
   obtain⟨vs,q1,q2,q3,q4⟩:=k5 hk
   refine⟨vs,q1,q2,q3,fun i j hi hj=>?_⟩
   obtain⟨p1,p2⟩:=(g3 i hi).out
   exact((p2 j (by omega) hj).out _ _ _ (q4 i j hi (by omega))).mono (fun b hb=>Or.inl hb) fun _ _=>rfl
  ·rename_i m n g m' n' g' hl
   obtain⟨⟨rfl,hm'⟩,g3⟩:=g2
   refine⟨g1,⟨_,hl,fun h=>h⟩,?_⟩
   obtain⟨k0,hh⟩:=hs.hp _ _ hl
   refine⟨hm',fun hp=>?_⟩
   obtain⟨vs,T,k1,k2,k3⟩:=hh hp
   exact⟨vs,T,k1,k2,fun j hj=>⟨(g3 j hj).2,(g3 j hj).1.out O E a w _ hs (k3 j hj).2.1,(k3 j hj).2.2⟩⟩
  ·rename_i cs m' n' g' hl
   obtain⟨hm',g3,g4⟩:=g2
   refine⟨g1,⟨_,hl,fun _=>trivial⟩,?_⟩
   obtain⟨vs,T,k1,k2,k3⟩:=hs.hp _ _ hl
   have hlen:=g3.out.1
   refine⟨hm',fun _=>⟨vs,T,k1,by simp at hlen;omega,fun j hj=>?_⟩⟩
   obtain⟨q1,q2⟩:=g3.at (j:=j) (by simpa using hj)
   simp only[List.getElem_map,List.getElem_range]at q2
   exact⟨g4 j hj,q2.out O E a w _ hs (k3 j q1).1,(k3 j q1).2⟩
  ·exact g2.elim
 have hmem:∀i,i<L.length→L.getD i 0∈L:=fun i hi=>by simp[List.getD,Q0 hi]
 refine⟨E.end S L,⟨fun i b hb=>(hblk i b hb).2.2,fun i b hb=>(hblk i b hb).1,?_,?_⟩,fun l hl=>by simp only[Env.end];rw[hm l hl];exact⟨rfl,rfl⟩,?_,?_,fun b hb=>Or.inl hb,hx.out O E a w v hs hv⟩
 ·intro i j b b' hi hj hr hr' hne
  obtain⟨g1,⟨b0,g2,g3⟩,_⟩:=hblk i b hi
  obtain⟨g4,⟨b1,g5,g6⟩,_⟩:=hblk j b' hj
  exact hs.inj _ _ _ _ g2 g5 (g3 hr) (g6 hr') (bJ hd g1 g4 hne)
 ·intro b hb
  rcases hb with hb|⟨l,y,hl,hr,rfl,hn⟩
  ·obtain⟨k1,_,k3⟩:=hs.im b hb
   refine⟨k1,fun i z hz hzr=>?_⟩
   obtain⟨g1,⟨b0,g2,g3⟩,_⟩:=hblk i z hz
   exact k3 _ _ g2 (g3 hzr)
  ·refine⟨(hs.hp _ _ hl).lt hr,fun i z hz hzr=>?_⟩
   obtain⟨g1,⟨b0,g2,g3⟩,_⟩:=hblk i z hz
   exact hs.inj _ _ _ _ g2 hl (g3 hzr) hr (fun e=>hn (e▸hmem i g1))
 ·rintro b ⟨i,z,hz,hzr,rfl⟩
  obtain⟨g1,⟨b0,g2,g3⟩,_⟩:=hblk i z hz
  exact⟨_,_,g2,g3 hzr,rfl⟩
 ·rintro b (hb|⟨l,y,hl,hr,rfl,hn⟩)
  ·exact Or.inl hb
  ·exact Or.inr ⟨l,y,hl,hr,rfl⟩
theorem af.sealB{m m':Nat}{S:St}{x r:SV}{H':List (Nat×Option Blk)}(L:List Nat)(hlen:L.length=m')(hm:idP L m=true)(hd:bR L=true)(hx:ak S L x r)(hH:l8 S L H'):af m S x m' r H' :=
 af.laid L hlen (fun i hi=>by unfold idP at hm;rw[Q23]at hm;exact Q2 (hm i (by simpa using hi))) hd hx hH
theorem el{m i:Nat}(h:i<m):(List.range m).getD i 0=i:=by simp[List.getD,h]
theorem aY{m l:Nat}(h:m≤l):iO (List.range m) l=none:=by
 cases e:iO (List.range m) l with
 | none=>rfl
 | some j =>
  obtain⟨h1,h2⟩:=bA e
  have h1:j<m:=by simpa using h1
  rw[el h1]at h2
  omega
theorem la:∀{L:List Nat},L.Nodup→bR L=true
 | [],_=>rfl
 | x::r,h=>by
  rw[List.nodup_cons]at h
  unfold bR
  have:r.any (Nat.beq x)=false:=by
   rw[List.any_eq_false];intro y hy hb
   exact h.1 (Q2 hb▸hy)
  rw[this];exact la h.2
theorem af.sealM{m:Nat}{S:St}{x r:SV}(hx:ak S (List.range m) x r):af m S x m r [] :=
 af.laid (List.range m) (by simp) (fun i hi=>el hi) (la List.nodup_range) hx trivial
theorem ak.ptrN{S:St}{m l o:Nat}{cs ds:List SV}(h:Nat.ble m l=true)(hl:lkh S.hp l=some (.cells cs))(hs:eL S (List.range m) cs ds):ak S (List.range m) (.ptr l o) (.iref ds o):=.ptr (aY (zzb h)) hl hs
theorem ak.sameM{S:St}{m:Nat}{x:SV}(h:SV.Lt m x):ak S (List.range m) x x:=.same h (by simp) fun i hi=>el hi
theorem ac.iref{L:List Nat}{cs cs0:List SV}{o:Nat}(h:aC L cs cs0):ac L (.iref cs o) (.iref cs0 o):=by
 obtain⟨h1,h2⟩:=h.out
 refine⟨fun E nx w v hv=>?_⟩
 cases hv with
 | iref _ _ b p g hb hcell h3 hh =>
  refine .iref _ _ b p g hb (fun j hj=>hcell j (by omega)) (fun j hj=>h3 j (by omega)) fun j hj=>?_
  obtain⟨x,g1,g2⟩:=h2 j _ (Q0 hj)
  obtain⟨q1,q2⟩:=Q3 g1
  have:=hh j q1
  rw[q2]at this
  exact g2.out _ _ _ _ this
theorem ac.same{L:List Nat}{x:SV}{m:Nat}(h:SV.Lt m x)(hm:m≤L.length)(hid:∀i,i<m→L.getD i 0=i):ac L x x :=
 ⟨fun E nx w v hv=>RS.congr (E:=E) (m:=m) (fun l hl=>by simp only;rw[hid l hl];exact⟨_root_.rfl,_root_.rfl⟩) hm (fun _ hb=>hb) h hv⟩
theorem zA{p:Prop}(h:p:=by first|((((conv=>whnf);repeat' (first|exact trivial|exact ac.rfl rfl|exact ac.ptr rfl|exact ac.sl rfl|((with_reducible refine ac.fn ?_);(conv=>whnf))|((refine ac.iref ?_);(conv=>whnf))|exact ac.free SV.Le.nil rfl|((with_reducible refine And.intro ?_ ?_)<;>(conv=>whnf))|((refine ac.free ?_ rfl);(repeat' (first|exact SV.Le.rfl _|exact SV.Le.nil|exact SV.Le.sl (fun i hi=>by(rcases i with _|_|_|_|i)<;>first|rfl|(exfalso;omega))|with_reducible refine SV.Le.agg ?_|exact Les.nil|with_reducible refine Les.cons ?_ ?_))))));done)|fail "no"):p:=h
theorem zH{p:Prop}(h:p:=by first|((((conv=>whnf);repeat' (first|exact trivial|exact ac.rfl rfl|exact ac.ptr rfl|exact ac.sl rfl|((with_reducible refine ac.fn ?_);(conv=>whnf))|((refine ac.iref ?_);(conv=>whnf))|exact ac.free SV.Le.nil rfl|exact⟨rfl,rfl,rfl⟩|exact fun i hi=>rfl|exact(fun i hi=>by(rcases i with _|i)<;>first|rfl|(exfalso;omega))|((with_reducible refine And.intro ?_ ?_)<;>(conv=>whnf)))));done)|fail "no"):p:=h
theorem zD{p:Prop}(h:p:=by first|((((conv=>whnf);repeat' (first|exact trivial|exact ac.rfl rfl|exact ac.ptr rfl|exact ac.sl rfl|exact⟨rfl,rfl,rfl⟩|exact⟨rfl,zzb rfl⟩|exact cB (by assumption)|exact d4 (by assumption) (fun l hl=>by rcases l with _|_|_|_|_|l<;>first|rfl|omega)|exact fun i hi=>rfl|((with_reducible refine And.intro ?_ ?_)<;>(conv=>whnf)))));done)|fail "no"):p:=h
theorem zG{p:Prop}(h:p:=by first|((((conv=>whnf);repeat' (first|exact trivial|exact ac.rfl rfl|exact ac.ptr rfl|exact ac.sl5|exact ac.sl rfl|exact⟨rfl,rfl,rfl⟩|exact⟨rfl,zzb rfl⟩|exact bu|exact bT (fun l hl=>by rcases l with _|_|_|_|l<;>first|rfl|omega)|exact fun i hi=>rfl|((with_reducible refine And.intro ?_ ?_)<;>(conv=>whnf)))));done)|fail "no"):p:=h
theorem zK{p:Prop}(h:p:=by first|(((conv=>whnf);repeat' (first|exact trivial|((refine And.intro rfl ?_);(conv=>whnf))));done)|fail "no"):p:=h
theorem zB{p:Prop}(h:p:=by first|((first|exact lK (zzb rfl) (by omega)|omega);done)|fail "no"):p:=h
theorem zO{p:Prop}(h:p:=by first|((first|exact IntWalk.i64_in _ (by omega)|exact IntWalk.u64_in _ (by omega)|exact IntWalk.u8_in _ (by omega)|exact IntWalk.u32_in _ (by omega)|exact IntWalk.i32_in _ (by omega)|exact IntWalk.u16_in _ (by omega));done)|fail "no"):p:=h
theorem zC{p:Prop}(h:p:=by first|((first|omega|exact zzb rfl);done)|fail "no"):p:=h
theorem zE{p:Prop}(h:p:=by first|((first|exact trivial|exact ak.any|exact ak.d|exact ak.ptrL rfl|exact ak.slL rfl|exact ak.lt0 (SV.Lt.of rfl)|exact ak.same (by assumption) (zzb rfl) (fun i hi=>id5 hi)|exact ak.le ak.d (SV.Le.i (by omega))|exact⟨rfl,rfl,rfl⟩|exact⟨rfl,zzb rfl⟩|exact lG (by assumption)|exact n7 (by assumption) (fun l hl=>by rcases l with _|_|_|_|_|l<;>first|rfl|omega)|exact fun i hi=>bX.refl _|exact ak.le ak.d SV.Le.nil|exact ak.le (ak.sl rfl rfl (by omega)) (SV.Le.sl fun i hi=>by simp only[Q19]));done)|fail "no"):p:=h
theorem zA9{p:Prop}(h:p:=by first|((first|exact trivial|exact ac.rfl rfl|exact ac.sl rfl|exact⟨rfl,rfl,rfl⟩|exact fun i hi=>rfl|exact fun i hi=>ite_row);done)|fail "no"):p:=h
theorem zB9{p:Prop}(h:p:=by first|((first|exact trivial|exact ak.d|exact ak.sameM (by assumption)|exact ak.lt0 (SV.Lt.of rfl)|exact ak.sameM (SV.Lt.of rfl)|exact ak.le ak.d SV.Le.nil);done)|fail "no"):p:=h
theorem zC9{p:Prop}(h:p:=by first|((first|exact trivial|exact⟨rfl,rfl,rfl⟩|exact fun i hi=>rfl);done)|fail "no"):p:=h
theorem zD9{p:Prop}(h:p:=by first|((first|exact trivial|exact ac.rfl rfl|exact ac.toAny|exact ac.rfl (by assumption)|exact ac.rfl fa.1|exact ac.rfl fb.1|exact ac.rfl fc.1|exact ac.rfl fd.1);done)|fail "no"):p:=h
theorem zE9{p:Prop}(h:p:=by first|((first|exact trivial|exact ac.rfl rfl|exact ac.ptr rfl|exact ac.same (m:=1) (.of rfl) (by decide) (fun i hi=>by have:i=0:=(by omega);subst this;rfl));done)|fail "no"):p:=h
theorem zF9{p:Prop}(h:p:=by first|((first|exact trivial|exact rfl|exact Nat.zero_le _);done)|fail "no"):p:=h
theorem zG9{p:Prop}(h:p:=by first|((first|exact trivial|exact ac.rfl rfl|exact ac.toAny);done)|fail "no"):p:=h
theorem zH9{p:Prop}(h:p:=by first|((first|exact trivial|exact rfl|exact Nat.zero_le _|exact(ar hF0).out.2);done)|fail "no"):p:=h
theorem wz9:(∀{p:Prop} [Decidable p],(decide p=true)=p)∧(∀{p:Prop} [Decidable p],decide p=false↔¬p)∧(∀{a b:Bool},((a&&b)=true)=(a=true∧b=true))∧(∀{a b:Bool},((a||b)=true)=(a=true∨b=true))∧(∀(x y:Bool),((x&&y)=false)=(x=false∨y=false))∧(∀(x y:Bool),((x||y)=false)=(x=false∧y=false))∧(∀{b:Bool},((!b)=true)=(b=false))∧(∀{b:Bool},((!b)=false)=(b=true))∧(∀{α:Type} [BEq α] [LawfulBEq α] {a b:α},(a==b)=true↔a=b)∧(∀{α:Type} [BEq α] [LawfulBEq α] {a b:α},(a != b)=true↔a≠b)∧(∀{α:Type} (a b:α),(a≠b)=¬(a=b))∧(∀{α:Type} [BEq α] [LawfulBEq α] {a b:α},(a==b)=false↔a≠b)∧(∀{α:Type} [BEq α] [LawfulBEq α] {a b:α},(a != b)=false↔a=b)∧(∀(b:Bool),(¬(b=true))=(b=false))∧(∀(b:Bool),(¬(b=false))=(b=true)):=⟨by intros;first|(simp;done)|(rename_i x y;cases x<;>cases y<;>simp),by intros;first|(simp;done)|(rename_i x y;cases x<;>cases y<;>simp),by intros;first|(simp;done)|(rename_i x y;cases x<;>cases y<;>simp),by intros;first|(simp;done)|(rename_i x y;cases x<;>cases y<;>simp),by intros;first|(simp;done)|(rename_i x y;cases x<;>cases y<;>simp),by intros;first|(simp;done)|(rename_i x y;cases x<;>cases y<;>simp),by intros;first|(simp;done)|(rename_i x y;cases x<;>cases y<;>simp),by intros;first|(simp;done)|(rename_i x y;cases x<;>cases y<;>simp),by intros;first|(simp;done)|(rename_i x y;cases x<;>cases y<;>simp),by intros;first|(simp;done)|(rename_i x y;cases x<;>cases y<;>simp),by intros;first|(simp;done)|(rename_i x y;cases x<;>cases y<;>simp),by intros;first|(simp;done)|(rename_i x y;cases x<;>cases y<;>simp),by intros;first|(simp;done)|(rename_i x y;cases x<;>cases y<;>simp),by intros;first|(simp;done)|(rename_i x y;cases x<;>cases y<;>simp),by intros;first|(simp;done)|(rename_i x y;cases x<;>cases y<;>simp)⟩
def wpCan:Code→Bool
 | .seq _ _=>true
 | .block _ _=>true
 | .skip=>true
 | .ret=>true
 | .exit _=>true
 | .region _ _ _=>true
 | .cond _ _ _=>true
 | _=>false
def wpA(C:Cx)(c:Code)(S:St)(Q:Exit→St→Prop):Prop :=
 match c with
 | .seq x y=>Wp C x S (thenQ C y Q)
 | .block id c=>Wp C c S (ov id Q)
 | .skip=>Q .normal S
 | .ret=>Q .ret S
 | .exit id=>Q (.exit id) S
 | .region _ ⟨l⟩ false=>ko C l l S (Q .normal)
 | .region _ ⟨l⟩ true=>match S with
  | ⟨nt,nx,fr,hp⟩=>cntK l nx fun m=>cz C l nx l 0 ⟨nt,m,fr,hp⟩ fun efs Sn=>eT l efs nx ⟨nt,m,fr,hp⟩=true∧Q .normal Sn
 | .cond x c d=>condK C (ev S x) S c d Q
 | _=>False
theorem Wp.any{C:Cx}{c:Code}{S:St}{Q:Exit→St→Prop}(hm:C.P.follows .mixedOrders=true)(hc:wpCan c=true)(h:wpA C c S Q):Wp C c S Q:=by
 cases c with
 | seq x y=>exact .seq h
 | block id c=>exact .block h
 | skip=>exact .skip h
 | ret=>exact .ret h
 | exit id=>exact .exit h
 | region id a b =>
  obtain⟨l⟩:=a
  cases b with
  | false=>exact .region h
  | true=>obtain⟨nt,nx,fr,hp⟩:=S;exact .drawL hm h
 | cond x c d=>exact .cond h
 | _=>exact h.elim
theorem zN{a b:Nat}(h:Nat.ble a b=true:=by exact rfl):a≤b:=zzb h
theorem zV{a b c d}{q:Prop}(h2:q)(h:eT a b c d=true:=by kernel_rfl):eT a b c d=true∧q:=⟨h,h2⟩
theorem zz0{p:Prop}(h:p:=by first|(((dsimp only;omega));done)|fail "no"):p:=h
theorem zz1{p:Prop}(h:p:=by first|((exact lK zN (by omega));done)|fail "no"):p:=h
theorem zz2{p:Prop}(h:p:=by first|((((conv=>whnf);repeat' (first|exact zF9|exact(ar hF).out.2|((with_reducible refine And.intro ?_ ?_)<;>(conv=>whnf)))));done)|fail "no"):p:=h
theorem zz3{p:Prop}(h:p:=by first|((((conv=>whnf);repeat' (first|exact zE9|((with_reducible refine And.intro ?_ ?_)<;>(conv=>whnf)))));done)|fail "no"):p:=h
theorem zz4{p:Prop}(h:p:=by first|((((conv=>whnf);repeat' (first|exact trivial|exact SV.Lt.mono zN hlt|exact SV.Lt.of rfl|exact SV.Lt.mono zN (io lt2 (fun l hl=>by rcases l with _|_|_|_|_|l<;>first|rfl|omega) rfl)|((with_reducible refine And.intro ?_ ?_)<;>(conv=>whnf)))));done)|fail "no"):p:=h
theorem zz5{p:Prop}(h:p:=by first|((((conv=>whnf);repeat' (first|exact zH9|((with_reducible refine And.intro ?_ ?_)<;>(conv=>whnf)))));done)|fail "no"):p:=h
theorem zz6{p:Prop}(h:p:=by first|((((conv=>whnf);repeat' (first|exact zA9|((with_reducible refine And.intro ?_ ?_)<;>(conv=>whnf)))));done)|fail "no"):p:=h
end
abbrev zP:=dF Tryz.prog
theorem zT{P:Program}{t:Nat}{i:TI}(h:dF P t i:=by exact⟨by kernel_rfl,by kernel_rfl,fun h=>by cases h⟩):dF P t i:=h
def ti1:TI:=⟨.func,1,8,[.nilFunc],false⟩
theorem ti1_ok:zP 1 ti1:=zT
def ti2:TI:=⟨.int .i64,1,8,[.int .i64 0],false⟩
theorem ti2_ok:zP 2 ti2:=zT
def ti3:TI:=⟨.int .i64,1,8,[.int .i64 0],false⟩
theorem ti3_ok:zP 3 ti3:=zT
def ti4:TI:=⟨.bool,1,1,[.bool false],false⟩
theorem ti4_ok:zP 4 ti4:=zT
def ti5:TI:=⟨.int .u8,1,1,[.int .u8 0],false⟩
theorem ti5_ok:zP 5 ti5:=zT
def ti6:TI:=⟨.int .u8,1,1,[.int .u8 0],false⟩
theorem ti6_ok:zP 6 ti6:=zT
def ti7:TI:=⟨.struct [(0,2),(1,3),(2,4),(3,6)],4,24,[.int .i64 0,.int .i64 0,.bool false,.int .u8 0],false⟩
theorem ti7_ok:zP 7 ti7:=zT
def ti8:TI:=⟨.struct [(0,2),(1,3),(2,4),(3,6)],4,24,[.int .i64 0,.int .i64 0,.bool false,.int .u8 0],false⟩
theorem ti8_ok:zP 8 ti8:=zT
def ti9:TI:=⟨.str,1,16,[.string ⟨#[]⟩],false⟩
theorem ti9_ok:zP 9 ti9:=zT
def ti10:TI:=⟨.str,1,16,[.string ⟨#[]⟩],false⟩
theorem ti10_ok:zP 10 ti10:=zT
def ti11:TI:=⟨.str,1,16,[.string ⟨#[]⟩],false⟩
theorem ti11_ok:zP 11 ti11:=zT
def ti12:TI:=⟨.int .u64,1,8,[.int .u64 0],false⟩
theorem ti12_ok:zP 12 ti12:=zT
def ti13:TI:=⟨.struct [(0,9),(1,12)],2,24,[.string ⟨#[]⟩,.int .u64 0],false⟩
theorem ti13_ok:zP 13 ti13:=zT
def ti14:TI:=⟨.struct [(0,9),(1,12)],2,24,[.string ⟨#[]⟩,.int .u64 0],false⟩
theorem ti14_ok:zP 14 ti14:=zT
def ti15:TI:=⟨.ptr 194,1,8,[.pointer none],false⟩
theorem ti15_ok:zP 15 ti15:=zT
def ti16:TI:=⟨.ptr 197,1,8,[.pointer none],false⟩
theorem ti16_ok:zP 16 ti16:=zT
def ti17:TI:=⟨.ptr 205,1,8,[.pointer none],false⟩
theorem ti17_ok:zP 17 ti17:=zT
def ti18:TI:=⟨.struct [(0,17)],1,8,[.pointer none],false⟩
theorem ti18_ok:zP 18 ti18:=zT
def ti19:TI:=⟨.struct [(0,17)],1,8,[.pointer none],false⟩
theorem ti19_ok:zP 19 ti19:=zT
def ti20:TI:=⟨.other,1,16,[.nilIface],false⟩
theorem ti20_ok:zP 20 ti20:=zT
def ti21:TI:=⟨.int .i32,1,4,[.int .i32 0],false⟩
theorem ti21_ok:zP 21 ti21:=zT
def ti22:TI:=⟨.slice 30,1,24,[.slice none 0 0],false⟩
theorem ti22_ok:zP 22 ti22:=zT
def ti23:TI:=⟨.func,1,8,[.nilFunc],false⟩
theorem ti23_ok:zP 23 ti23:=zT
def ti24:TI:=⟨.ptr 83,1,8,[.pointer none],false⟩
theorem ti24_ok:zP 24 ti24:=zT
def ti25:TI:=⟨.func,1,8,[.nilFunc],false⟩
theorem ti25_ok:zP 25 ti25:=zT
def ti26:TI:=⟨.ptr 64,1,8,[.pointer none],false⟩
theorem ti26_ok:zP 26 ti26:=zT
def ti27:TI:=⟨.func,1,8,[.nilFunc],false⟩
theorem ti27_ok:zP 27 ti27:=zT
def ti28:TI:=⟨.slice 5,1,24,[.slice none 0 0],false⟩
theorem ti28_ok:zP 28 ti28:=zT
def ti29:TI:=⟨.struct [(0,3),(1,5),(2,28),(3,2)],4,48,[.int .i64 0,.int .u8 0,.slice none 0 0,.int .i64 0],false⟩
theorem ti29_ok:zP 29 ti29:=zT
def ti30:TI:=⟨.struct [(0,3),(1,5),(2,28),(3,2)],4,48,[.int .i64 0,.int .u8 0,.slice none 0 0,.int .i64 0],false⟩
theorem ti30_ok:zP 30 ti30:=zT
def ti32:TI:=⟨.func,1,8,[.nilFunc],false⟩
theorem ti32_ok:zP 32 ti32:=zT
def ti33:TI:=⟨.int .i64,1,8,[.int .i64 0],false⟩
theorem ti33_ok:zP 33 ti33:=zT
def ti34:TI:=⟨.func,1,8,[.nilFunc],false⟩
theorem ti34_ok:zP 34 ti34:=zT
def ti35:TI:=⟨.func,1,8,[.nilFunc],false⟩
theorem ti35_ok:zP 35 ti35:=zT
def ti36:TI:=⟨.func,1,8,[.nilFunc],false⟩
theorem ti36_ok:zP 36 ti36:=zT
def ti37:TI:=⟨.struct [(0,4),(1,33),(2,2)],3,24,[.bool false,.int .i64 0,.int .i64 0],true⟩
theorem ti37_ok:zP 37 ti37:=⟨by kernel_rfl,by kernel_rfl,fun _=>⟨by kernel_rfl,by kernel_rfl,by kernel_rfl⟩⟩
def ti38:TI:=⟨.struct [(0,4),(1,33),(2,2)],3,24,[.bool false,.int .i64 0,.int .i64 0],true⟩
theorem ti38_ok:zP 38 ti38:=⟨by kernel_rfl,by kernel_rfl,fun _=>⟨by kernel_rfl,by kernel_rfl,by kernel_rfl⟩⟩
def ti40:TI:=⟨.func,1,8,[.nilFunc],false⟩
theorem ti40_ok:zP 40 ti40:=zT
def ti41:TI:=⟨.struct [(0,4),(1,3),(2,2)],3,24,[.bool false,.int .i64 0,.int .i64 0],true⟩
theorem ti41_ok:zP 41 ti41:=⟨by kernel_rfl,by kernel_rfl,fun _=>⟨by kernel_rfl,by kernel_rfl,by kernel_rfl⟩⟩
def ti42:TI:=⟨.struct [(0,4),(1,3),(2,2)],3,24,[.bool false,.int .i64 0,.int .i64 0],true⟩
theorem ti42_ok:zP 42 ti42:=⟨by kernel_rfl,by kernel_rfl,fun _=>⟨by kernel_rfl,by kernel_rfl,by kernel_rfl⟩⟩
def ti44:TI:=⟨.func,1,8,[.nilFunc],false⟩
theorem ti44_ok:zP 44 ti44:=zT
def ti45:TI:=⟨.func,1,8,[.nilFunc],false⟩
theorem ti45_ok:zP 45 ti45:=zT
def ti47:TI:=⟨.func,1,8,[.nilFunc],false⟩
theorem ti47_ok:zP 47 ti47:=zT
def ti48:TI:=⟨.func,1,8,[.nilFunc],false⟩
theorem ti48_ok:zP 48 ti48:=zT
def ti49:TI:=⟨.func,1,8,[.nilFunc],false⟩
theorem ti49_ok:zP 49 ti49:=zT
def ti50:TI:=⟨.func,1,8,[.nilFunc],false⟩
theorem ti50_ok:zP 50 ti50:=zT
def ti51:TI:=⟨.func,1,8,[.nilFunc],false⟩
theorem ti51_ok:zP 51 ti51:=zT
def ti52:TI:=⟨.int .u64,1,8,[.int .u64 0],false⟩
theorem ti52_ok:zP 52 ti52:=zT
def ti53:TI:=⟨.array 32 52,32,256,(.replicate 32 (.int .u64 0)),false⟩
theorem ti53_ok:zP 53 ti53:=zT
def ti54:TI:=⟨.struct [(0,53)],32,256,(.replicate 32 (.int .u64 0)),false⟩
theorem ti54_ok:zP 54 ti54:=zT
def ti55:TI:=⟨.struct [(0,53)],32,256,(.replicate 32 (.int .u64 0)),false⟩
theorem ti55_ok:zP 55 ti55:=zT
def ti56:TI:=⟨.slice 102,1,24,[.slice none 0 0],false⟩
theorem ti56_ok:zP 56 ti56:=zT
def ti57:TI:=⟨.array 32 56,32,768,[.slice none 0 0,.slice none 0 0,.slice none 0 0,.slice none 0 0,.slice none 0 0,.slice none 0 0,.slice none 0 0,.slice none 0 0,.slice none 0 0,.slice none 0 0,.slice none 0 0,.slice none 0 0,.slice none 0 0,.slice none 0 0,.slice none 0 0,.slice none 0 0,.slice none 0 0,.slice none 0 0,.slice none 0 0,.slice none 0 0,.slice none 0 0,.slice none 0 0,.slice none 0 0,.slice none 0 0,.slice none 0 0,.slice none 0 0,.slice none 0 0,.slice none 0 0,.slice none 0 0,.slice none 0 0,.slice none 0 0,.slice none 0 0],false⟩
theorem ti57_ok:zP 57 ti57:=zT
def ti58:TI:=⟨.struct [(0,3),(1,3),(2,3),(3,4),(4,52),(5,3)],6,48,[.int .i64 0,.int .i64 0,.int .i64 0,.bool false,.int .u64 0,.int .i64 0],true⟩
theorem ti58_ok:zP 58 ti58:=⟨by kernel_rfl,by kernel_rfl,fun _=>⟨by kernel_rfl,by kernel_rfl,by kernel_rfl⟩⟩
def ti59:TI:=⟨.struct [(0,3),(1,3),(2,3),(3,4),(4,52),(5,3)],6,48,[.int .i64 0,.int .i64 0,.int .i64 0,.bool false,.int .u64 0,.int .i64 0],true⟩
theorem ti59_ok:zP 59 ti59:=⟨by kernel_rfl,by kernel_rfl,fun _=>⟨by kernel_rfl,by kernel_rfl,by kernel_rfl⟩⟩
def ti60:TI:=⟨.struct [(0,5),(1,28),(2,2),(3,52),(4,59)],10,96,[.int .u8 0,.slice none 0 0,.int .i64 0,.int .u64 0,.int .i64 0,.int .i64 0,.int .i64 0,.bool false,.int .u64 0,.int .i64 0],false⟩
theorem ti60_ok:zP 60 ti60:=zT
def ti61:TI:=⟨.struct [(0,5),(1,28),(2,2),(3,52),(4,59)],10,96,[.int .u8 0,.slice none 0 0,.int .i64 0,.int .u64 0,.int .i64 0,.int .i64 0,.int .i64 0,.bool false,.int .u64 0,.int .i64 0],false⟩
theorem ti61_ok:zP 61 ti61:=zT
def ti62:TI:=⟨.array 64 61,640,6144,[.int .u8 0,.slice none 0 0,.int .i64 0,.int .u64 0,.int .i64 0,.int .i64 0,.int .i64 0,.bool false,.int .u64 0,.int .i64 0,.int .u8 0,.slice none 0 0,.int .i64 0,.int .u64 0,.int .i64 0,.int .i64 0,.int .i64 0,.bool false,.int .u64 0,.int .i64 0,.int .u8 0,.slice none 0 0,.int .i64 0,.int .u64 0,.int .i64 0,.int .i64 0,.int .i64 0,.bool false,.int .u64 0,.int .i64 0,.int .u8 0,.slice none 0 0,.int .i64 0,.int .u64 0,.int .i64 0,.int .i64 0,.int .i64 0,.bool false,.int .u64 0,.int .i64 0,.int .u8 0,.slice none 0 0,.int .i64 0,.int .u64 0,.int .i64 0,.int .i64 0,.int .i64 0,.bool false,.int .u64 0,.int .i64 0,.int .u8 0,.slice none 0 0,.int .i64 0,.int .u64 0,.int .i64 0,.int .i64 0,.int .i64 0,.bool false,.int .u64 0,.int .i64 0,.int .u8 0,.slice none 0 0,.int .i64 0,.int .u64 0,.int .i64 0,.int .i64 0,.int .i64 0,.bool false,.int .u64 0,.int .i64 0,.int .u8 0,.slice none 0 0,.int .i64 0,.int .u64 0,.int .i64 0,.int .i64 0,.int .i64 0,.bool false,.int .u64 0,.int .i64 0,.int .u8 0,.slice none 0 0,.int .i64 0,.int .u64 0,.int .i64 0,.int .i64 0,.int .i64 0,.bool false,.int .u64 0,.int .i64 0,.int .u8 0,.slice none 0 0,.int .i64 0,.int .u64 0,.int .i64 0,.int .i64 0,.int .i64 0,.bool false,.int .u64 0,.int .i64 0,.int .u8 0,.slice none 0 0,.int .i64 0,.int .u64 0,.int .i64 0,.int .i64 0,.int .i64 0,.bool false,.int .u64 0,.int .i64 0,.int .u8 0,.slice none 0 0,.int .i64 0,.int .u64 0,.int .i64 0,.int .i64 0,.int .i64 0,.bool false,.int .u64 0,.int .i64 0,.int .u8 0,.slice none 0 0,.int .i64 0,.int .u64 0,.int .i64 0,.int .i64 0,.int .i64 0,.bool false,.int .u64 0,.int .i64 0,.int .u8 0,.slice none 0 0,.int .i64 0,.int .u64 0,.int .i64 0,.int .i64 0,.int .i64 0,.bool false,.int .u64 0,.int .i64 0,.int .u8 0,.slice none 0 0,.int .i64 0,.int .u64 0,.int .i64 0,.int .i64 0,.int .i64 0,.bool false,.int .u64 0,.int .i64 0,.int .u8 0,.slice none 0 0,.int .i64 0,.int .u64 0,.int .i64 0,.int .i64 0,.int .i64 0,.bool false,.int .u64 0,.int .i64 0,.int .u8 0,.slice none 0 0,.int .i64 0,.int .u64 0,.int .i64 0,.int .i64 0,.int .i64 0,.bool false,.int .u64 0,.int .i64 0,.int .u8 0,.slice none 0 0,.int .i64 0,.int .u64 0,.int .i64 0,.int .i64 0,.int .i64 0,.bool false,.int .u64 0,.int .i64 0,.int .u8 0,.slice none 0 0,.int .i64 0,.int .u64 0,.int .i64 0,.int .i64 0,.int .i64 0,.bool false,.int .u64 0,.int .i64 0,.int .u8 0,.slice none 0 0,.int .i64 0,.int .u64 0,.int .i64 0,.int .i64 0,.int .i64 0,.bool false,.int .u64 0,.int .i64 0,.int .u8 0,.slice none 0 0,.int .i64 0,.int .u64 0,.int .i64 0,.int .i64 0,.int .i64 0,.bool false,.int .u64 0,.int .i64 0,.int .u8 0,.slice none 0 0,.int .i64 0,.int .u64 0,.int .i64 0,.int .i64 0,.int .i64 0,.bool false,.int .u64 0,.int .i64 0,.int .u8 0,.slice none 0 0,.int .i64 0,.int .u64 0,.int .i64 0,.int .i64 0,.int .i64 0,.bool false,.int .u64 0,.int .i64 0,.int .u8 0,.slice none 0 0,.int .i64 0,.int .u64 0,.int .i64 0,.int .i64 0,.int .i64 0,.bool false,.int .u64 0,.int .i64 0,.int .u8 0,.slice none 0 0,.int .i64 0,.int .u64 0,.int .i64 0,.int .i64 0,.int .i64 0,.bool false,.int .u64 0,.int .i64 0,.int .u8 0,.slice none 0 0,.int .i64 0,.int .u64 0,.int .i64 0,.int .i64 0,.int .i64 0,.bool false,.int .u64 0,.int .i64 0,.int .u8 0,.slice none 0 0,.int .i64 0,.int .u64 0,.int .i64 0,.int .i64 0,.int .i64 0,.bool false,.int .u64 0,.int .i64 0,.int .u8 0,.slice none 0 0,.int .i64 0,.int .u64 0,.int .i64 0,.int .i64 0,.int .i64 0,.bool false,.int .u64 0,.int .i64 0,.int .u8 0,.slice none 0 0,.int .i64 0,.int .u64 0,.int .i64 0,.int .i64 0,.int .i64 0,.bool false,.int .u64 0,.int .i64 0,.int .u8 0,.slice none 0 0,.int .i64 0,.int .u64 0,.int .i64 0,.int .i64 0,.int .i64 0,.bool false,.int .u64 0,.int .i64 0,.int .u8 0,.slice none 0 0,.int .i64 0,.int .u64 0,.int .i64 0,.int .i64 0,.int .i64 0,.bool false,.int .u64 0,.int .i64 0,.int .u8 0,.slice none 0 0,.int .i64 0,.int .u64 0,.int .i64 0,.int .i64 0,.int .i64 0,.bool false,.int .u64 0,.int .i64 0,.int .u8 0,.slice none 0 0,.int .i64 0,.int .u64 0,.int .i64 0,.int .i64 0,.int .i64 0,.bool false,.int .u64 0,.int .i64 0,.int .u8 0,.slice none 0 0,.int .i64 0,.int .u64 0,.int .i64 0,.int .i64 0,.int .i64 0,.bool false,.int .u64 0,.int .i64 0,.int .u8 0,.slice none 0 0,.int .i64 0,.int .u64 0,.int .i64 0,.int .i64 0,.int .i64 0,.bool false,.int .u64 0,.int .i64 0,.int .u8 0,.slice none 0 0,.int .i64 0,.int .u64 0,.int .i64 0,.int .i64 0,.int .i64 0,.bool false,.int .u64 0,.int .i64 0,.int .u8 0,.slice none 0 0,.int .i64 0,.int .u64 0,.int .i64 0,.int .i64 0,.int .i64 0,.bool false,.int .u64 0,.int .i64 0,.int .u8 0,.slice none 0 0,.int .i64 0,.int .u64 0,.int .i64 0,.int .i64 0,.int .i64 0,.bool false,.int .u64 0,.int .i64 0,.int .u8 0,.slice none 0 0,.int .i64 0,.int .u64 0,.int .i64 0,.int .i64 0,.int .i64 0,.bool false,.int .u64 0,.int .i64 0,.int .u8 0,.slice none 0 0,.int .i64 0,.int .u64 0,.int .i64 0,.int .i64 0,.int .i64 0,.bool false,.int .u64 0,.int .i64 0,.int .u8 0,.slice none 0 0,.int .i64 0,.int .u64 0,.int .i64 0,.int .i64 0,.int .i64 0,.bool false,.int .u64 0,.int .i64 0,.int .u8 0,.slice none 0 0,.int .i64 0,.int .u64 0,.int .i64 0,.int .i64 0,.int .i64 0,.bool false,.int .u64 0,.int .i64 0,.int .u8 0,.slice none 0 0,.int .i64 0,.int .u64 0,.int .i64 0,.int .i64 0,.int .i64 0,.bool false,.int .u64 0,.int .i64 0,.int .u8 0,.slice none 0 0,.int .i64 0,.int .u64 0,.int .i64 0,.int .i64 0,.int .i64 0,.bool false,.int .u64 0,.int .i64 0,.int .u8 0,.slice none 0 0,.int .i64 0,.int .u64 0,.int .i64 0,.int .i64 0,.int .i64 0,.bool false,.int .u64 0,.int .i64 0,.int .u8 0,.slice none 0 0,.int .i64 0,.int .u64 0,.int .i64 0,.int .i64 0,.int .i64 0,.bool false,.int .u64 0,.int .i64 0,.int .u8 0,.slice none 0 0,.int .i64 0,.int .u64 0,.int .i64 0,.int .i64 0,.int .i64 0,.bool false,.int .u64 0,.int .i64 0,.int .u8 0,.slice none 0 0,.int .i64 0,.int .u64 0,.int .i64 0,.int .i64 0,.int .i64 0,.bool false,.int .u64 0,.int .i64 0,.int .u8 0,.slice none 0 0,.int .i64 0,.int .u64 0,.int .i64 0,.int .i64 0,.int .i64 0,.bool false,.int .u64 0,.int .i64 0,.int .u8 0,.slice none 0 0,.int .i64 0,.int .u64 0,.int .i64 0,.int .i64 0,.int .i64 0,.bool false,.int .u64 0,.int .i64 0,.int .u8 0,.slice none 0 0,.int .i64 0,.int .u64 0,.int .i64 0,.int .i64 0,.int .i64 0,.bool false,.int .u64 0,.int .i64 0,.int .u8 0,.slice none 0 0,.int .i64 0,.int .u64 0,.int .i64 0,.int .i64 0,.int .i64 0,.bool false,.int .u64 0,.int .i64 0,.int .u8 0,.slice none 0 0,.int .i64 0,.int .u64 0,.int .i64 0,.int .i64 0,.int .i64 0,.bool false,.int .u64 0,.int .i64 0,.int .u8 0,.slice none 0 0,.int .i64 0,.int .u64 0,.int .i64 0,.int .i64 0,.int .i64 0,.bool false,.int .u64 0,.int .i64 0,.int .u8 0,.slice none 0 0,.int .i64 0,.int .u64 0,.int .i64 0,.int .i64 0,.int .i64 0,.bool false,.int .u64 0,.int .i64 0,.int .u8 0,.slice none 0 0,.int .i64 0,.int .u64 0,.int .i64 0,.int .i64 0,.int .i64 0,.bool false,.int .u64 0,.int .i64 0,.int .u8 0,.slice none 0 0,.int .i64 0,.int .u64 0,.int .i64 0,.int .i64 0,.int .i64 0,.bool false,.int .u64 0,.int .i64 0,.int .u8 0,.slice none 0 0,.int .i64 0,.int .u64 0,.int .i64 0,.int .i64 0,.int .i64 0,.bool false,.int .u64 0,.int .i64 0,.int .u8 0,.slice none 0 0,.int .i64 0,.int .u64 0,.int .i64 0,.int .i64 0,.int .i64 0,.bool false,.int .u64 0,.int .i64 0,.int .u8 0,.slice none 0 0,.int .i64 0,.int .u64 0,.int .i64 0,.int .i64 0,.int .i64 0,.bool false,.int .u64 0,.int .i64 0,.int .u8 0,.slice none 0 0,.int .i64 0,.int .u64 0,.int .i64 0,.int .i64 0,.int .i64 0,.bool false,.int .u64 0,.int .i64 0,.int .u8 0,.slice none 0 0,.int .i64 0,.int .u64 0,.int .i64 0,.int .i64 0,.int .i64 0,.bool false,.int .u64 0,.int .i64 0,.int .u8 0,.slice none 0 0,.int .i64 0,.int .u64 0,.int .i64 0,.int .i64 0,.int .i64 0,.bool false,.int .u64 0,.int .i64 0,.int .u8 0,.slice none 0 0,.int .i64 0,.int .u64 0,.int .i64 0,.int .i64 0,.int .i64 0,.bool false,.int .u64 0,.int .i64 0],false⟩
theorem ti62_ok:zP 62 ti62:=zT
def ti63:TI:=⟨.struct [(0,55),(32,57),(64,3),(65,62)],705,7176,[.int .u64 0,.int .u64 0,.int .u64 0,.int .u64 0,.int .u64 0,.int .u64 0,.int .u64 0,.int .u64 0,.int .u64 0,.int .u64 0,.int .u64 0,.int .u64 0,.int .u64 0,.int .u64 0,.int .u64 0,.int .u64 0,.int .u64 0,.int .u64 0,.int .u64 0,.int .u64 0,.int .u64 0,.int .u64 0,.int .u64 0,.int .u64 0,.int .u64 0,.int .u64 0,.int .u64 0,.int .u64 0,.int .u64 0,.int .u64 0,.int .u64 0,.int .u64 0,.slice none 0 0,.slice none 0 0,.slice none 0 0,.slice none 0 0,.slice none 0 0,.slice none 0 0,.slice none 0 0,.slice none 0 0,.slice none 0 0,.slice none 0 0,.slice none 0 0,.slice none 0 0,.slice none 0 0,.slice none 0 0,.slice none 0 0,.slice none 0 0,.slice none 0 0,.slice none 0 0,.slice none 0 0,.slice none 0 0,.slice none 0 0,.slice none 0 0,.slice none 0 0,.slice none 0 0,.slice none 0 0,.slice none 0 0,.slice none 0 0,.slice none 0 0,.slice none 0 0,.slice none 0 0,.slice none 0 0,.slice none 0 0,.int .i64 0,.int .u8 0,.slice none 0 0,.int .i64 0,.int .u64 0,.int .i64 0,.int .i64 0,.int .i64 0,.bool false,.int .u64 0,.int .i64 0,.int .u8 0,.slice none 0 0,.int .i64 0,.int .u64 0,.int .i64 0,.int .i64 0,.int .i64 0,.bool false,.int .u64 0,.int .i64 0,.int .u8 0,.slice none 0 0,.int .i64 0,.int .u64 0,.int .i64 0,.int .i64 0,.int .i64 0,.bool false,.int .u64 0,.int .i64 0,.int .u8 0,.slice none 0 0,.int .i64 0,.int .u64 0,.int .i64 0,.int .i64 0,.int .i64 0,.bool false,.int .u64 0,.int .i64 0,.int .u8 0,.slice none 0 0,.int .i64 0,.int .u64 0,.int .i64 0,.int .i64 0,.int .i64 0,.bool false,.int .u64 0,.int .i64 0,.int .u8 0,.slice none 0 0,.int .i64 0,.int .u64 0,.int .i64 0,.int .i64 0,.int .i64 0,.bool false,.int .u64 0,.int .i64 0,.int .u8 0,.slice none 0 0,.int .i64 0,.int .u64 0,.int .i64 0,.int .i64 0,.int .i64 0,.bool false,.int .u64 0,.int .i64 0,.int .u8 0,.slice none 0 0,.int .i64 0,.int .u64 0,.int .i64 0,.int .i64 0,.int .i64 0,.bool false,.int .u64 0,.int .i64 0,.int .u8 0,.slice none 0 0,.int .i64 0,.int .u64 0,.int .i64 0,.int .i64 0,.int .i64 0,.bool false,.int .u64 0,.int .i64 0,.int .u8 0,.slice none 0 0,.int .i64 0,.int .u64 0,.int .i64 0,.int .i64 0,.int .i64 0,.bool false,.int .u64 0,.int .i64 0,.int .u8 0,.slice none 0 0,.int .i64 0,.int .u64 0,.int .i64 0,.int .i64 0,.int .i64 0,.bool false,.int .u64 0,.int .i64 0,.int .u8 0,.slice none 0 0,.int .i64 0,.int .u64 0,.int .i64 0,.int .i64 0,.int .i64 0,.bool false,.int .u64 0,.int .i64 0,.int .u8 0,.slice none 0 0,.int .i64 0,.int .u64 0,.int .i64 0,.int .i64 0,.int .i64 0,.bool false,.int .u64 0,.int .i64 0,.int .u8 0,.slice none 0 0,.int .i64 0,.int .u64 0,.int .i64 0,.int .i64 0,.int .i64 0,.bool false,.int .u64 0,.int .i64 0,.int .u8 0,.slice none 0 0,.int .i64 0,.int .u64 0,.int .i64 0,.int .i64 0,.int .i64 0,.bool false,.int .u64 0,.int .i64 0,.int .u8 0,.slice none 0 0,.int .i64 0,.int .u64 0,.int .i64 0,.int .i64 0,.int .i64 0,.bool false,.int .u64 0,.int .i64 0,.int .u8 0,.slice none 0 0,.int .i64 0,.int .u64 0,.int .i64 0,.int .i64 0,.int .i64 0,.bool false,.int .u64 0,.int .i64 0,.int .u8 0,.slice none 0 0,.int .i64 0,.int .u64 0,.int .i64 0,.int .i64 0,.int .i64 0,.bool false,.int .u64 0,.int .i64 0,.int .u8 0,.slice none 0 0,.int .i64 0,.int .u64 0,.int .i64 0,.int .i64 0,.int .i64 0,.bool false,.int .u64 0,.int .i64 0,.int .u8 0,.slice none 0 0,.int .i64 0,.int .u64 0,.int .i64 0,.int .i64 0,.int .i64 0,.bool false,.int .u64 0,.int .i64 0,.int .u8 0,.slice none 0 0,.int .i64 0,.int .u64 0,.int .i64 0,.int .i64 0,.int .i64 0,.bool false,.int .u64 0,.int .i64 0,.int .u8 0,.slice none 0 0,.int .i64 0,.int .u64 0,.int .i64 0,.int .i64 0,.int .i64 0,.bool false,.int .u64 0,.int .i64 0,.int .u8 0,.slice none 0 0,.int .i64 0,.int .u64 0,.int .i64 0,.int .i64 0,.int .i64 0,.bool false,.int .u64 0,.int .i64 0,.int .u8 0,.slice none 0 0,.int .i64 0,.int .u64 0,.int .i64 0,.int .i64 0,.int .i64 0,.bool false,.int .u64 0,.int .i64 0,.int .u8 0,.slice none 0 0,.int .i64 0,.int .u64 0,.int .i64 0,.int .i64 0,.int .i64 0,.bool false,.int .u64 0,.int .i64 0,.int .u8 0,.slice none 0 0,.int .i64 0,.int .u64 0,.int .i64 0,.int .i64 0,.int .i64 0,.bool false,.int .u64 0,.int .i64 0,.int .u8 0,.slice none 0 0,.int .i64 0,.int .u64 0,.int .i64 0,.int .i64 0,.int .i64 0,.bool false,.int .u64 0,.int .i64 0,.int .u8 0,.slice none 0 0,.int .i64 0,.int .u64 0,.int .i64 0,.int .i64 0,.int .i64 0,.bool false,.int .u64 0,.int .i64 0,.int .u8 0,.slice none 0 0,.int .i64 0,.int .u64 0,.int .i64 0,.int .i64 0,.int .i64 0,.bool false,.int .u64 0,.int .i64 0,.int .u8 0,.slice none 0 0,.int .i64 0,.int .u64 0,.int .i64 0,.int .i64 0,.int .i64 0,.bool false,.int .u64 0,.int .i64 0,.int .u8 0,.slice none 0 0,.int .i64 0,.int .u64 0,.int .i64 0,.int .i64 0,.int .i64 0,.bool false,.int .u64 0,.int .i64 0,.int .u8 0,.slice none 0 0,.int .i64 0,.int .u64 0,.int .i64 0,.int .i64 0,.int .i64 0,.bool false,.int .u64 0,.int .i64 0,.int .u8 0,.slice none 0 0,.int .i64 0,.int .u64 0,.int .i64 0,.int .i64 0,.int .i64 0,.bool false,.int .u64 0,.int .i64 0,.int .u8 0,.slice none 0 0,.int .i64 0,.int .u64 0,.int .i64 0,.int .i64 0,.int .i64 0,.bool false,.int .u64 0,.int .i64 0,.int .u8 0,.slice none 0 0,.int .i64 0,.int .u64 0,.int .i64 0,.int .i64 0,.int .i64 0,.bool false,.int .u64 0,.int .i64 0,.int .u8 0,.slice none 0 0,.int .i64 0,.int .u64 0,.int .i64 0,.int .i64 0,.int .i64 0,.bool false,.int .u64 0,.int .i64 0,.int .u8 0,.slice none 0 0,.int .i64 0,.int .u64 0,.int .i64 0,.int .i64 0,.int .i64 0,.bool false,.int .u64 0,.int .i64 0,.int .u8 0,.slice none 0 0,.int .i64 0,.int .u64 0,.int .i64 0,.int .i64 0,.int .i64 0,.bool false,.int .u64 0,.int .i64 0,.int .u8 0,.slice none 0 0,.int .i64 0,.int .u64 0,.int .i64 0,.int .i64 0,.int .i64 0,.bool false,.int .u64 0,.int .i64 0,.int .u8 0,.slice none 0 0,.int .i64 0,.int .u64 0,.int .i64 0,.int .i64 0,.int .i64 0,.bool false,.int .u64 0,.int .i64 0,.int .u8 0,.slice none 0 0,.int .i64 0,.int .u64 0,.int .i64 0,.int .i64 0,.int .i64 0,.bool false,.int .u64 0,.int .i64 0,.int .u8 0,.slice none 0 0,.int .i64 0,.int .u64 0,.int .i64 0,.int .i64 0,.int .i64 0,.bool false,.int .u64 0,.int .i64 0,.int .u8 0,.slice none 0 0,.int .i64 0,.int .u64 0,.int .i64 0,.int .i64 0,.int .i64 0,.bool false,.int .u64 0,.int .i64 0,.int .u8 0,.slice none 0 0,.int .i64 0,.int .u64 0,.int .i64 0,.int .i64 0,.int .i64 0,.bool false,.int .u64 0,.int .i64 0,.int .u8 0,.slice none 0 0,.int .i64 0,.int .u64 0,.int .i64 0,.int .i64 0,.int .i64 0,.bool false,.int .u64 0,.int .i64 0,.int .u8 0,.slice none 0 0,.int .i64 0,.int .u64 0,.int .i64 0,.int .i64 0,.int .i64 0,.bool false,.int .u64 0,.int .i64 0,.int .u8 0,.slice none 0 0,.int .i64 0,.int .u64 0,.int .i64 0,.int .i64 0,.int .i64 0,.bool false,.int .u64 0,.int .i64 0,.int .u8 0,.slice none 0 0,.int .i64 0,.int .u64 0,.int .i64 0,.int .i64 0,.int .i64 0,.bool false,.int .u64 0,.int .i64 0,.int .u8 0,.slice none 0 0,.int .i64 0,.int .u64 0,.int .i64 0,.int .i64 0,.int .i64 0,.bool false,.int .u64 0,.int .i64 0,.int .u8 0,.slice none 0 0,.int .i64 0,.int .u64 0,.int .i64 0,.int .i64 0,.int .i64 0,.bool false,.int .u64 0,.int .i64 0,.int .u8 0,.slice none 0 0,.int .i64 0,.int .u64 0,.int .i64 0,.int .i64 0,.int .i64 0,.bool false,.int .u64 0,.int .i64 0,.int .u8 0,.slice none 0 0,.int .i64 0,.int .u64 0,.int .i64 0,.int .i64 0,.int .i64 0,.bool false,.int .u64 0,.int .i64 0,.int .u8 0,.slice none 0 0,.int .i64 0,.int .u64 0,.int .i64 0,.int .i64 0,.int .i64 0,.bool false,.int .u64 0,.int .i64 0,.int .u8 0,.slice none 0 0,.int .i64 0,.int .u64 0,.int .i64 0,.int .i64 0,.int .i64 0,.bool false,.int .u64 0,.int .i64 0,.int .u8 0,.slice none 0 0,.int .i64 0,.int .u64 0,.int .i64 0,.int .i64 0,.int .i64 0,.bool false,.int .u64 0,.int .i64 0,.int .u8 0,.slice none 0 0,.int .i64 0,.int .u64 0,.int .i64 0,.int .i64 0,.int .i64 0,.bool false,.int .u64 0,.int .i64 0,.int .u8 0,.slice none 0 0,.int .i64 0,.int .u64 0,.int .i64 0,.int .i64 0,.int .i64 0,.bool false,.int .u64 0,.int .i64 0,.int .u8 0,.slice none 0 0,.int .i64 0,.int .u64 0,.int .i64 0,.int .i64 0,.int .i64 0,.bool false,.int .u64 0,.int .i64 0,.int .u8 0,.slice none 0 0,.int .i64 0,.int .u64 0,.int .i64 0,.int .i64 0,.int .i64 0,.bool false,.int .u64 0,.int .i64 0,.int .u8 0,.slice none 0 0,.int .i64 0,.int .u64 0,.int .i64 0,.int .i64 0,.int .i64 0,.bool false,.int .u64 0,.int .i64 0,.int .u8 0,.slice none 0 0,.int .i64 0,.int .u64 0,.int .i64 0,.int .i64 0,.int .i64 0,.bool false,.int .u64 0,.int .i64 0,.int .u8 0,.slice none 0 0,.int .i64 0,.int .u64 0,.int .i64 0,.int .i64 0,.int .i64 0,.bool false,.int .u64 0,.int .i64 0,.int .u8 0,.slice none 0 0,.int .i64 0,.int .u64 0,.int .i64 0,.int .i64 0,.int .i64 0,.bool false,.int .u64 0,.int .i64 0,.int .u8 0,.slice none 0 0,.int .i64 0,.int .u64 0,.int .i64 0,.int .i64 0,.int .i64 0,.bool false,.int .u64 0,.int .i64 0],false⟩
theorem ti63_ok:zP 63 ti63:=zT
def ti64:TI:=⟨.struct [(0,55),(32,57),(64,3),(65,62)],705,7176,[.int .u64 0,.int .u64 0,.int .u64 0,.int .u64 0,.int .u64 0,.int .u64 0,.int .u64 0,.int .u64 0,.int .u64 0,.int .u64 0,.int .u64 0,.int .u64 0,.int .u64 0,.int .u64 0,.int .u64 0,.int .u64 0,.int .u64 0,.int .u64 0,.int .u64 0,.int .u64 0,.int .u64 0,.int .u64 0,.int .u64 0,.int .u64 0,.int .u64 0,.int .u64 0,.int .u64 0,.int .u64 0,.int .u64 0,.int .u64 0,.int .u64 0,.int .u64 0,.slice none 0 0,.slice none 0 0,.slice none 0 0,.slice none 0 0,.slice none 0 0,.slice none 0 0,.slice none 0 0,.slice none 0 0,.slice none 0 0,.slice none 0 0,.slice none 0 0,.slice none 0 0,.slice none 0 0,.slice none 0 0,.slice none 0 0,.slice none 0 0,.slice none 0 0,.slice none 0 0,.slice none 0 0,.slice none 0 0,.slice none 0 0,.slice none 0 0,.slice none 0 0,.slice none 0 0,.slice none 0 0,.slice none 0 0,.slice none 0 0,.slice none 0 0,.slice none 0 0,.slice none 0 0,.slice none 0 0,.slice none 0 0,.int .i64 0,.int .u8 0,.slice none 0 0,.int .i64 0,.int .u64 0,.int .i64 0,.int .i64 0,.int .i64 0,.bool false,.int .u64 0,.int .i64 0,.int .u8 0,.slice none 0 0,.int .i64 0,.int .u64 0,.int .i64 0,.int .i64 0,.int .i64 0,.bool false,.int .u64 0,.int .i64 0,.int .u8 0,.slice none 0 0,.int .i64 0,.int .u64 0,.int .i64 0,.int .i64 0,.int .i64 0,.bool false,.int .u64 0,.int .i64 0,.int .u8 0,.slice none 0 0,.int .i64 0,.int .u64 0,.int .i64 0,.int .i64 0,.int .i64 0,.bool false,.int .u64 0,.int .i64 0,.int .u8 0,.slice none 0 0,.int .i64 0,.int .u64 0,.int .i64 0,.int .i64 0,.int .i64 0,.bool false,.int .u64 0,.int .i64 0,.int .u8 0,.slice none 0 0,.int .i64 0,.int .u64 0,.int .i64 0,.int .i64 0,.int .i64 0,.bool false,.int .u64 0,.int .i64 0,.int .u8 0,.slice none 0 0,.int .i64 0,.int .u64 0,.int .i64 0,.int .i64 0,.int .i64 0,.bool false,.int .u64 0,.int .i64 0,.int .u8 0,.slice none 0 0,.int .i64 0,.int .u64 0,.int .i64 0,.int .i64 0,.int .i64 0,.bool false,.int .u64 0,.int .i64 0,.int .u8 0,.slice none 0 0,.int .i64 0,.int .u64 0,.int .i64 0,.int .i64 0,.int .i64 0,.bool false,.int .u64 0,.int .i64 0,.int .u8 0,.slice none 0 0,.int .i64 0,.int .u64 0,.int .i64 0,.int .i64 0,.int .i64 0,.bool false,.int .u64 0,.int .i64 0,.int .u8 0,.slice none 0 0,.int .i64 0,.int .u64 0,.int .i64 0,.int .i64 0,.int .i64 0,.bool false,.int .u64 0,.int .i64 0,.int .u8 0,.slice none 0 0,.int .i64 0,.int .u64 0,.int .i64 0,.int .i64 0,.int .i64 0,.bool false,.int .u64 0,.int .i64 0,.int .u8 0,.slice none 0 0,.int .i64 0,.int .u64 0,.int .i64 0,.int .i64 0,.int .i64 0,.bool false,.int .u64 0,.int .i64 0,.int .u8 0,.slice none 0 0,.int .i64 0,.int .u64 0,.int .i64 0,.int .i64 0,.int .i64 0,.bool false,.int .u64 0,.int .i64 0,.int .u8 0,.slice none 0 0,.int .i64 0,.int .u64 0,.int .i64 0,.int .i64 0,.int .i64 0,.bool false,.int .u64 0,.int .i64 0,.int .u8 0,.slice none 0 0,.int .i64 0,.int .u64 0,.int .i64 0,.int .i64 0,.int .i64 0,.bool false,.int .u64 0,.int .i64 0,.int .u8 0,.slice none 0 0,.int .i64 0,.int .u64 0,.int .i64 0,.int .i64 0,.int .i64 0,.bool false,.int .u64 0,.int .i64 0,.int .u8 0,.slice none 0 0,.int .i64 0,.int .u64 0,.int .i64 0,.int .i64 0,.int .i64 0,.bool false,.int .u64 0,.int .i64 0,.int .u8 0,.slice none 0 0,.int .i64 0,.int .u64 0,.int .i64 0,.int .i64 0,.int .i64 0,.bool false,.int .u64 0,.int .i64 0,.int .u8 0,.slice none 0 0,.int .i64 0,.int .u64 0,.int .i64 0,.int .i64 0,.int .i64 0,.bool false,.int .u64 0,.int .i64 0,.int .u8 0,.slice none 0 0,.int .i64 0,.int .u64 0,.int .i64 0,.int .i64 0,.int .i64 0,.bool false,.int .u64 0,.int .i64 0,.int .u8 0,.slice none 0 0,.int .i64 0,.int .u64 0,.int .i64 0,.int .i64 0,.int .i64 0,.bool false,.int .u64 0,.int .i64 0,.int .u8 0,.slice none 0 0,.int .i64 0,.int .u64 0,.int .i64 0,.int .i64 0,.int .i64 0,.bool false,.int .u64 0,.int .i64 0,.int .u8 0,.slice none 0 0,.int .i64 0,.int .u64 0,.int .i64 0,.int .i64 0,.int .i64 0,.bool false,.int .u64 0,.int .i64 0,.int .u8 0,.slice none 0 0,.int .i64 0,.int .u64 0,.int .i64 0,.int .i64 0,.int .i64 0,.bool false,.int .u64 0,.int .i64 0,.int .u8 0,.slice none 0 0,.int .i64 0,.int .u64 0,.int .i64 0,.int .i64 0,.int .i64 0,.bool false,.int .u64 0,.int .i64 0,.int .u8 0,.slice none 0 0,.int .i64 0,.int .u64 0,.int .i64 0,.int .i64 0,.int .i64 0,.bool false,.int .u64 0,.int .i64 0,.int .u8 0,.slice none 0 0,.int .i64 0,.int .u64 0,.int .i64 0,.int .i64 0,.int .i64 0,.bool false,.int .u64 0,.int .i64 0,.int .u8 0,.slice none 0 0,.int .i64 0,.int .u64 0,.int .i64 0,.int .i64 0,.int .i64 0,.bool false,.int .u64 0,.int .i64 0,.int .u8 0,.slice none 0 0,.int .i64 0,.int .u64 0,.int .i64 0,.int .i64 0,.int .i64 0,.bool false,.int .u64 0,.int .i64 0,.int .u8 0,.slice none 0 0,.int .i64 0,.int .u64 0,.int .i64 0,.int .i64 0,.int .i64 0,.bool false,.int .u64 0,.int .i64 0,.int .u8 0,.slice none 0 0,.int .i64 0,.int .u64 0,.int .i64 0,.int .i64 0,.int .i64 0,.bool false,.int .u64 0,.int .i64 0,.int .u8 0,.slice none 0 0,.int .i64 0,.int .u64 0,.int .i64 0,.int .i64 0,.int .i64 0,.bool false,.int .u64 0,.int .i64 0,.int .u8 0,.slice none 0 0,.int .i64 0,.int .u64 0,.int .i64 0,.int .i64 0,.int .i64 0,.bool false,.int .u64 0,.int .i64 0,.int .u8 0,.slice none 0 0,.int .i64 0,.int .u64 0,.int .i64 0,.int .i64 0,.int .i64 0,.bool false,.int .u64 0,.int .i64 0,.int .u8 0,.slice none 0 0,.int .i64 0,.int .u64 0,.int .i64 0,.int .i64 0,.int .i64 0,.bool false,.int .u64 0,.int .i64 0,.int .u8 0,.slice none 0 0,.int .i64 0,.int .u64 0,.int .i64 0,.int .i64 0,.int .i64 0,.bool false,.int .u64 0,.int .i64 0,.int .u8 0,.slice none 0 0,.int .i64 0,.int .u64 0,.int .i64 0,.int .i64 0,.int .i64 0,.bool false,.int .u64 0,.int .i64 0,.int .u8 0,.slice none 0 0,.int .i64 0,.int .u64 0,.int .i64 0,.int .i64 0,.int .i64 0,.bool false,.int .u64 0,.int .i64 0,.int .u8 0,.slice none 0 0,.int .i64 0,.int .u64 0,.int .i64 0,.int .i64 0,.int .i64 0,.bool false,.int .u64 0,.int .i64 0,.int .u8 0,.slice none 0 0,.int .i64 0,.int .u64 0,.int .i64 0,.int .i64 0,.int .i64 0,.bool false,.int .u64 0,.int .i64 0,.int .u8 0,.slice none 0 0,.int .i64 0,.int .u64 0,.int .i64 0,.int .i64 0,.int .i64 0,.bool false,.int .u64 0,.int .i64 0,.int .u8 0,.slice none 0 0,.int .i64 0,.int .u64 0,.int .i64 0,.int .i64 0,.int .i64 0,.bool false,.int .u64 0,.int .i64 0,.int .u8 0,.slice none 0 0,.int .i64 0,.int .u64 0,.int .i64 0,.int .i64 0,.int .i64 0,.bool false,.int .u64 0,.int .i64 0,.int .u8 0,.slice none 0 0,.int .i64 0,.int .u64 0,.int .i64 0,.int .i64 0,.int .i64 0,.bool false,.int .u64 0,.int .i64 0,.int .u8 0,.slice none 0 0,.int .i64 0,.int .u64 0,.int .i64 0,.int .i64 0,.int .i64 0,.bool false,.int .u64 0,.int .i64 0,.int .u8 0,.slice none 0 0,.int .i64 0,.int .u64 0,.int .i64 0,.int .i64 0,.int .i64 0,.bool false,.int .u64 0,.int .i64 0,.int .u8 0,.slice none 0 0,.int .i64 0,.int .u64 0,.int .i64 0,.int .i64 0,.int .i64 0,.bool false,.int .u64 0,.int .i64 0,.int .u8 0,.slice none 0 0,.int .i64 0,.int .u64 0,.int .i64 0,.int .i64 0,.int .i64 0,.bool false,.int .u64 0,.int .i64 0,.int .u8 0,.slice none 0 0,.int .i64 0,.int .u64 0,.int .i64 0,.int .i64 0,.int .i64 0,.bool false,.int .u64 0,.int .i64 0,.int .u8 0,.slice none 0 0,.int .i64 0,.int .u64 0,.int .i64 0,.int .i64 0,.int .i64 0,.bool false,.int .u64 0,.int .i64 0,.int .u8 0,.slice none 0 0,.int .i64 0,.int .u64 0,.int .i64 0,.int .i64 0,.int .i64 0,.bool false,.int .u64 0,.int .i64 0,.int .u8 0,.slice none 0 0,.int .i64 0,.int .u64 0,.int .i64 0,.int .i64 0,.int .i64 0,.bool false,.int .u64 0,.int .i64 0,.int .u8 0,.slice none 0 0,.int .i64 0,.int .u64 0,.int .i64 0,.int .i64 0,.int .i64 0,.bool false,.int .u64 0,.int .i64 0,.int .u8 0,.slice none 0 0,.int .i64 0,.int .u64 0,.int .i64 0,.int .i64 0,.int .i64 0,.bool false,.int .u64 0,.int .i64 0,.int .u8 0,.slice none 0 0,.int .i64 0,.int .u64 0,.int .i64 0,.int .i64 0,.int .i64 0,.bool false,.int .u64 0,.int .i64 0,.int .u8 0,.slice none 0 0,.int .i64 0,.int .u64 0,.int .i64 0,.int .i64 0,.int .i64 0,.bool false,.int .u64 0,.int .i64 0,.int .u8 0,.slice none 0 0,.int .i64 0,.int .u64 0,.int .i64 0,.int .i64 0,.int .i64 0,.bool false,.int .u64 0,.int .i64 0,.int .u8 0,.slice none 0 0,.int .i64 0,.int .u64 0,.int .i64 0,.int .i64 0,.int .i64 0,.bool false,.int .u64 0,.int .i64 0,.int .u8 0,.slice none 0 0,.int .i64 0,.int .u64 0,.int .i64 0,.int .i64 0,.int .i64 0,.bool false,.int .u64 0,.int .i64 0,.int .u8 0,.slice none 0 0,.int .i64 0,.int .u64 0,.int .i64 0,.int .i64 0,.int .i64 0,.bool false,.int .u64 0,.int .i64 0,.int .u8 0,.slice none 0 0,.int .i64 0,.int .u64 0,.int .i64 0,.int .i64 0,.int .i64 0,.bool false,.int .u64 0,.int .i64 0,.int .u8 0,.slice none 0 0,.int .i64 0,.int .u64 0,.int .i64 0,.int .i64 0,.int .i64 0,.bool false,.int .u64 0,.int .i64 0,.int .u8 0,.slice none 0 0,.int .i64 0,.int .u64 0,.int .i64 0,.int .i64 0,.int .i64 0,.bool false,.int .u64 0,.int .i64 0],false⟩
theorem ti64_ok:zP 64 ti64:=zT
def ti65:TI:=⟨.slice 71,1,24,[.slice none 0 0],false⟩
theorem ti65_ok:zP 65 ti65:=zT
def ti66:TI:=⟨.func,1,8,[.nilFunc],false⟩
theorem ti66_ok:zP 66 ti66:=zT
def ti67:TI:=⟨.func,1,8,[.nilFunc],false⟩
theorem ti67_ok:zP 67 ti67:=zT
def ti68:TI:=⟨.func,1,8,[.nilFunc],false⟩
theorem ti68_ok:zP 68 ti68:=zT
def ti69:TI:=⟨.func,1,8,[.nilFunc],false⟩
theorem ti69_ok:zP 69 ti69:=zT
def ti70:TI:=⟨.struct [(0,28),(1,2)],2,32,[.slice none 0 0,.int .i64 0],false⟩
theorem ti70_ok:zP 70 ti70:=zT
def ti71:TI:=⟨.struct [(0,28),(1,2)],2,32,[.slice none 0 0,.int .i64 0],false⟩
theorem ti71_ok:zP 71 ti71:=zT
def ti72:TI:=⟨.func,1,8,[.nilFunc],false⟩
theorem ti72_ok:zP 72 ti72:=zT
def ti74:TI:=⟨.func,1,8,[.nilFunc],false⟩
theorem ti74_ok:zP 74 ti74:=zT
def ti75:TI:=⟨.ptr 109,1,8,[.pointer none],false⟩
theorem ti75_ok:zP 75 ti75:=zT
def ti76:TI:=⟨.func,1,8,[.nilFunc],false⟩
theorem ti76_ok:zP 76 ti76:=zT
def ti77:TI:=⟨.func,1,8,[.nilFunc],false⟩
theorem ti77_ok:zP 77 ti77:=zT
def ti78:TI:=⟨.func,1,8,[.nilFunc],false⟩
theorem ti78_ok:zP 78 ti78:=zT
def ti79:TI:=⟨.func,1,8,[.nilFunc],false⟩
theorem ti79_ok:zP 79 ti79:=zT
def ti80:TI:=⟨.array 64 79,64,512,(.replicate 64 (.nilFunc)),false⟩
theorem ti80_ok:zP 80 ti80:=zT
def ti81:TI:=⟨.array 64 79,64,512,(.replicate 64 (.nilFunc)),false⟩
theorem ti81_ok:zP 81 ti81:=zT
def ti82:TI:=⟨.struct [(0,75),(1,81)],65,520,[.pointer none,.nilFunc,.nilFunc,.nilFunc,.nilFunc,.nilFunc,.nilFunc,.nilFunc,.nilFunc,.nilFunc,.nilFunc,.nilFunc,.nilFunc,.nilFunc,.nilFunc,.nilFunc,.nilFunc,.nilFunc,.nilFunc,.nilFunc,.nilFunc,.nilFunc,.nilFunc,.nilFunc,.nilFunc,.nilFunc,.nilFunc,.nilFunc,.nilFunc,.nilFunc,.nilFunc,.nilFunc,.nilFunc,.nilFunc,.nilFunc,.nilFunc,.nilFunc,.nilFunc,.nilFunc,.nilFunc,.nilFunc,.nilFunc,.nilFunc,.nilFunc,.nilFunc,.nilFunc,.nilFunc,.nilFunc,.nilFunc,.nilFunc,.nilFunc,.nilFunc,.nilFunc,.nilFunc,.nilFunc,.nilFunc,.nilFunc,.nilFunc,.nilFunc,.nilFunc,.nilFunc,.nilFunc,.nilFunc,.nilFunc,.nilFunc],false⟩
theorem ti82_ok:zP 82 ti82:=zT
def ti83:TI:=⟨.struct [(0,75),(1,81)],65,520,[.pointer none,.nilFunc,.nilFunc,.nilFunc,.nilFunc,.nilFunc,.nilFunc,.nilFunc,.nilFunc,.nilFunc,.nilFunc,.nilFunc,.nilFunc,.nilFunc,.nilFunc,.nilFunc,.nilFunc,.nilFunc,.nilFunc,.nilFunc,.nilFunc,.nilFunc,.nilFunc,.nilFunc,.nilFunc,.nilFunc,.nilFunc,.nilFunc,.nilFunc,.nilFunc,.nilFunc,.nilFunc,.nilFunc,.nilFunc,.nilFunc,.nilFunc,.nilFunc,.nilFunc,.nilFunc,.nilFunc,.nilFunc,.nilFunc,.nilFunc,.nilFunc,.nilFunc,.nilFunc,.nilFunc,.nilFunc,.nilFunc,.nilFunc,.nilFunc,.nilFunc,.nilFunc,.nilFunc,.nilFunc,.nilFunc,.nilFunc,.nilFunc,.nilFunc,.nilFunc,.nilFunc,.nilFunc,.nilFunc,.nilFunc,.nilFunc],false⟩
theorem ti83_ok:zP 83 ti83:=zT
def ti84:TI:=⟨.func,1,8,[.nilFunc],false⟩
theorem ti84_ok:zP 84 ti84:=zT
def ti85:TI:=⟨.func,1,8,[.nilFunc],false⟩
theorem ti85_ok:zP 85 ti85:=zT
def ti86:TI:=⟨.func,1,8,[.nilFunc],false⟩
theorem ti86_ok:zP 86 ti86:=zT
def ti87:TI:=⟨.func,1,8,[.nilFunc],false⟩
theorem ti87_ok:zP 87 ti87:=zT
def ti88:TI:=⟨.func,1,8,[.nilFunc],false⟩
theorem ti88_ok:zP 88 ti88:=zT
def ti89:TI:=⟨.func,1,8,[.nilFunc],false⟩
theorem ti89_ok:zP 89 ti89:=zT
def ti90:TI:=⟨.func,1,8,[.nilFunc],false⟩
theorem ti90_ok:zP 90 ti90:=zT
def ti91:TI:=⟨.func,1,8,[.nilFunc],false⟩
theorem ti91_ok:zP 91 ti91:=zT
def ti92:TI:=⟨.ptr 61,1,8,[.pointer none],false⟩
theorem ti92_ok:zP 92 ti92:=zT
def ti93:TI:=⟨.func,1,8,[.nilFunc],false⟩
theorem ti93_ok:zP 93 ti93:=zT
def ti94:TI:=⟨.struct [(0,4),(1,3),(2,3),(3,3),(4,3),(5,4),(6,4),(7,4)],8,48,[.bool false,.int .i64 0,.int .i64 0,.int .i64 0,.int .i64 0,.bool false,.bool false,.bool false],true⟩
theorem ti94_ok:zP 94 ti94:=⟨by kernel_rfl,by kernel_rfl,fun _=>⟨by kernel_rfl,by kernel_rfl,by kernel_rfl⟩⟩
def ti95:TI:=⟨.struct [(0,4),(1,3),(2,3),(3,3),(4,3),(5,4),(6,4),(7,4)],8,48,[.bool false,.int .i64 0,.int .i64 0,.int .i64 0,.int .i64 0,.bool false,.bool false,.bool false],true⟩
theorem ti95_ok:zP 95 ti95:=⟨by kernel_rfl,by kernel_rfl,fun _=>⟨by kernel_rfl,by kernel_rfl,by kernel_rfl⟩⟩
def ti96:TI:=⟨.func,1,8,[.nilFunc],false⟩
theorem ti96_ok:zP 96 ti96:=zT
def ti97:TI:=⟨.ptr 55,1,8,[.pointer none],false⟩
theorem ti97_ok:zP 97 ti97:=zT
def ti98:TI:=⟨.ptr 59,1,8,[.pointer none],false⟩
theorem ti98_ok:zP 98 ti98:=zT
def ti99:TI:=⟨.func,1,8,[.nilFunc],false⟩
theorem ti99_ok:zP 99 ti99:=zT
def ti100:TI:=⟨.func,1,8,[.nilFunc],false⟩
theorem qF:zP 100 ti100:=zT
def ti101:TI:=⟨.func,1,8,[.nilFunc],false⟩
theorem qE:zP 101 ti101:=zT
def ti102:TI:=⟨.struct [(0,28),(1,2)],2,32,[.slice none 0 0,.int .i64 0],false⟩
theorem qD:zP 102 ti102:=zT
def ti103:TI:=⟨.ptr 142,1,8,[.pointer none],false⟩
theorem qC:zP 103 ti103:=zT
def ti104:TI:=⟨.slice 65,1,24,[.slice none 0 0],false⟩
theorem qB:zP 104 ti104:=zT
def ti105:TI:=⟨.struct [(0,103),(1,104)],2,32,[.pointer none,.slice none 0 0],false⟩
theorem qA:zP 105 ti105:=zT
def ti106:TI:=⟨.struct [(0,103),(1,104)],2,32,[.pointer none,.slice none 0 0],false⟩
theorem qz:zP 106 ti106:=zT
def ti107:TI:=⟨.ptr 106,1,8,[.pointer none],false⟩
theorem qy:zP 107 ti107:=zT
def ti108:TI:=⟨.struct [(0,107),(1,77)],2,16,[.pointer none,.nilFunc],false⟩
theorem qx:zP 108 ti108:=zT
def ti109:TI:=⟨.struct [(0,107),(1,77)],2,16,[.pointer none,.nilFunc],false⟩
theorem qw:zP 109 ti109:=zT
def ti110:TI:=⟨.func,1,8,[.nilFunc],false⟩
theorem qv:zP 110 ti110:=zT
def ti111:TI:=⟨.func,1,8,[.nilFunc],false⟩
theorem qu:zP 111 ti111:=zT
def ti112:TI:=⟨.func,1,8,[.nilFunc],false⟩
theorem qt:zP 112 ti112:=zT
def ti113:TI:=⟨.func,1,8,[.nilFunc],false⟩
theorem qs:zP 113 ti113:=zT
def ti114:TI:=⟨.func,1,8,[.nilFunc],false⟩
theorem qq:zP 114 ti114:=zT
def ti115:TI:=⟨.func,1,8,[.nilFunc],false⟩
theorem qp:zP 115 ti115:=zT
def ti116:TI:=⟨.func,1,8,[.nilFunc],false⟩
theorem qo:zP 116 ti116:=zT
def ti117:TI:=⟨.func,1,8,[.nilFunc],false⟩
theorem qn:zP 117 ti117:=zT
def ti118:TI:=⟨.func,1,8,[.nilFunc],false⟩
theorem qm:zP 118 ti118:=zT
def ti120:TI:=⟨.func,1,8,[.nilFunc],false⟩
theorem qk:zP 120 ti120:=zT
def ti122:TI:=⟨.func,1,8,[.nilFunc],false⟩
theorem qj:zP 122 ti122:=zT
def ti123:TI:=⟨.func,1,8,[.nilFunc],false⟩
theorem qi:zP 123 ti123:=zT
def ti124:TI:=⟨.func,1,8,[.nilFunc],false⟩
theorem qh:zP 124 ti124:=zT
def ti125:TI:=⟨.func,1,8,[.nilFunc],false⟩
theorem qg:zP 125 ti125:=zT
def ti126:TI:=⟨.func,1,8,[.nilFunc],false⟩
theorem qf:zP 126 ti126:=zT
def ti127:TI:=⟨.func,1,8,[.nilFunc],false⟩
theorem qe:zP 127 ti127:=zT
def ti128:TI:=⟨.func,1,8,[.nilFunc],false⟩
theorem qd:zP 128 ti128:=zT
def ti129:TI:=⟨.func,1,8,[.nilFunc],false⟩
theorem qc:zP 129 ti129:=zT
def ti130:TI:=⟨.ptr 81,1,8,[.pointer none],false⟩
theorem qb:zP 130 ti130:=zT
def ti132:TI:=⟨.func,1,8,[.nilFunc],false⟩
theorem qa:zP 132 ti132:=zT
def ti133:TI:=⟨.func,1,8,[.nilFunc],false⟩
theorem p9:zP 133 ti133:=zT
def ti134:TI:=⟨.func,1,8,[.nilFunc],false⟩
theorem p8:zP 134 ti134:=zT
def ti135:TI:=⟨.func,1,8,[.nilFunc],false⟩
theorem p7:zP 135 ti135:=zT
def ti136:TI:=⟨.func,1,8,[.nilFunc],false⟩
theorem p6:zP 136 ti136:=zT
def ti137:TI:=⟨.func,1,8,[.nilFunc],false⟩
theorem pZ:zP 137 ti137:=zT
def ti138:TI:=⟨.func,1,8,[.nilFunc],false⟩
theorem pY:zP 138 ti138:=zT
def ti139:TI:=⟨.slice 52,1,24,[.slice none 0 0],false⟩
theorem pX:zP 139 ti139:=zT
def ti140:TI:=⟨.slice 179,1,24,[.slice none 0 0],false⟩
theorem pW:zP 140 ti140:=zT
def ti141:TI:=⟨.struct [(0,139),(1,2),(2,3),(3,140)],4,64,[.slice none 0 0,.int .i64 0,.int .i64 0,.slice none 0 0],false⟩
theorem pV:zP 141 ti141:=zT
def ti142:TI:=⟨.struct [(0,139),(1,2),(2,3),(3,140)],4,64,[.slice none 0 0,.int .i64 0,.int .i64 0,.slice none 0 0],false⟩
theorem pU:zP 142 ti142:=zT
def ti143:TI:=⟨.slice 3,1,24,[.slice none 0 0],false⟩
theorem pT:zP 143 ti143:=zT
def ti144:TI:=⟨.func,1,8,[.nilFunc],false⟩
theorem pS:zP 144 ti144:=zT
def ti145:TI:=⟨.func,1,8,[.nilFunc],false⟩
theorem pR:zP 145 ti145:=zT
def ti146:TI:=⟨.int .u64,1,8,[.int .u64 0],false⟩
theorem pQ:zP 146 ti146:=zT
def ti147:TI:=⟨.func,1,8,[.nilFunc],false⟩
theorem pP:zP 147 ti147:=zT
def ti149:TI:=⟨.func,1,8,[.nilFunc],false⟩
theorem pO:zP 149 ti149:=zT
def ti151:TI:=⟨.func,1,8,[.nilFunc],false⟩
theorem pN:zP 151 ti151:=zT
def ti153:TI:=⟨.func,1,8,[.nilFunc],false⟩
theorem pM:zP 153 ti153:=zT
def ti154:TI:=⟨.func,1,8,[.nilFunc],false⟩
theorem pL:zP 154 ti154:=zT
def ti155:TI:=⟨.func,1,8,[.nilFunc],false⟩
theorem pK:zP 155 ti155:=zT
def ti156:TI:=⟨.func,1,8,[.nilFunc],false⟩
theorem pJ:zP 156 ti156:=zT
def ti157:TI:=⟨.func,1,8,[.nilFunc],false⟩
theorem pI:zP 157 ti157:=zT
def ti158:TI:=⟨.func,1,8,[.nilFunc],false⟩
theorem pH:zP 158 ti158:=zT
def ti159:TI:=⟨.func,1,8,[.nilFunc],false⟩
theorem pG:zP 159 ti159:=zT
def ti160:TI:=⟨.func,1,8,[.nilFunc],false⟩
theorem pF:zP 160 ti160:=zT
def ti161:TI:=⟨.func,1,8,[.nilFunc],false⟩
theorem pE:zP 161 ti161:=zT
def ti162:TI:=⟨.func,1,8,[.nilFunc],false⟩
theorem pD:zP 162 ti162:=zT
def ti163:TI:=⟨.func,1,8,[.nilFunc],false⟩
theorem pC:zP 163 ti163:=zT
def ti164:TI:=⟨.func,1,8,[.nilFunc],false⟩
theorem pB:zP 164 ti164:=zT
def ti165:TI:=⟨.func,1,8,[.nilFunc],false⟩
theorem pA:zP 165 ti165:=zT
def ti166:TI:=⟨.func,1,8,[.nilFunc],false⟩
theorem pz:zP 166 ti166:=zT
def ti167:TI:=⟨.int .i64,1,8,[.int .i64 0],false⟩
theorem py:zP 167 ti167:=zT
def ti169:TI:=⟨.func,1,8,[.nilFunc],false⟩
theorem px:zP 169 ti169:=zT
def ti170:TI:=⟨.func,1,8,[.nilFunc],false⟩
theorem pu:zP 170 ti170:=zT
def ti171:TI:=⟨.func,1,8,[.nilFunc],false⟩
theorem pt:zP 171 ti171:=zT
def ti172:TI:=⟨.func,1,8,[.nilFunc],false⟩
theorem pr:zP 172 ti172:=zT
def ti173:TI:=⟨.func,1,8,[.nilFunc],false⟩
theorem pq:zP 173 ti173:=zT
def ti174:TI:=⟨.int .u32,1,4,[.int .u32 0],false⟩
theorem pp:zP 174 ti174:=zT
def ti175:TI:=⟨.func,1,8,[.nilFunc],false⟩
theorem po:zP 175 ti175:=zT
def ti176:TI:=⟨.func,1,8,[.nilFunc],false⟩
theorem pn:zP 176 ti176:=zT
def ti177:TI:=⟨.func,1,8,[.nilFunc],false⟩
theorem pm:zP 177 ti177:=zT
def ti178:TI:=⟨.struct [(0,3),(1,5),(2,3),(3,52),(4,52),(5,4)],6,48,[.int .i64 0,.int .u8 0,.int .i64 0,.int .u64 0,.int .u64 0,.bool false],true⟩
theorem pj:zP 178 ti178:=⟨by kernel_rfl,by kernel_rfl,fun _=>⟨by kernel_rfl,by kernel_rfl,by kernel_rfl⟩⟩
def ti179:TI:=⟨.struct [(0,3),(1,5),(2,3),(3,52),(4,52),(5,4)],6,48,[.int .i64 0,.int .u8 0,.int .i64 0,.int .u64 0,.int .u64 0,.bool false],true⟩
theorem ph:zP 179 ti179:=⟨by kernel_rfl,by kernel_rfl,fun _=>⟨by kernel_rfl,by kernel_rfl,by kernel_rfl⟩⟩
def ti180:TI:=⟨.ptr 38,1,8,[.pointer none],false⟩
theorem pg:zP 180 ti180:=zT
def ti181:TI:=⟨.int .u64,1,8,[.int .u64 0],false⟩
theorem pf:zP 181 ti181:=zT
def ti182:TI:=⟨.func,1,8,[.nilFunc],false⟩
theorem pe:zP 182 ti182:=zT
def ti183:TI:=⟨.func,1,8,[.nilFunc],false⟩
theorem pd:zP 183 ti183:=zT
def ti184:TI:=⟨.func,1,8,[.nilFunc],false⟩
theorem pc:zP 184 ti184:=zT
def ti185:TI:=⟨.ptr 3,1,8,[.pointer none],false⟩
theorem pb:zP 185 ti185:=zT
def ti186:TI:=⟨.func,1,8,[.nilFunc],false⟩
theorem pa:zP 186 ti186:=zT
def ti187:TI:=⟨.func,1,8,[.nilFunc],false⟩
theorem o9:zP 187 ti187:=zT
def ti188:TI:=⟨.func,1,8,[.nilFunc],false⟩
theorem o8:zP 188 ti188:=zT
def ti189:TI:=⟨.ptr 181,1,8,[.pointer none],false⟩
theorem o7:zP 189 ti189:=zT
def ti191:TI:=⟨.func,1,8,[.nilFunc],false⟩
theorem o6:zP 191 ti191:=zT
def ti192:TI:=⟨.func,1,8,[.nilFunc],false⟩
theorem o5:zP 192 ti192:=zT
def ti193:TI:=⟨.struct [(0,17),(1,17),(2,17),(3,9)],4,40,[.pointer none,.pointer none,.pointer none,.string ⟨#[]⟩],false⟩
theorem oZ:zP 193 ti193:=zT
def ti194:TI:=⟨.struct [(0,17),(1,17),(2,17),(3,9)],4,40,[.pointer none,.pointer none,.pointer none,.string ⟨#[]⟩],false⟩
theorem oY:zP 194 ti194:=zT
def ti195:TI:=⟨.array 0 16,0,0,[],false⟩
theorem oX:zP 195 ti195:=zT
def ti197:TI:=⟨.struct [(0,195)],0,0,[],false⟩
theorem oW:zP 197 ti197:=zT
def ti198:TI:=⟨.int .u8,1,1,[.int .u8 0],false⟩
theorem oV:zP 198 ti198:=zT
def ti199:TI:=⟨.int .u8,1,1,[.int .u8 0],false⟩
theorem oU:zP 199 ti199:=zT
def ti200:TI:=⟨.func,1,8,[.nilFunc],false⟩
theorem oT:zP 200 ti200:=zT
def ti201:TI:=⟨.ptr 5,1,8,[.pointer none],false⟩
theorem oS:zP 201 ti201:=zT
def ti202:TI:=⟨.int .i32,1,4,[.int .i32 0],false⟩
theorem oR:zP 202 ti202:=zT
def ti203:TI:=⟨.int .i32,1,4,[.int .i32 0],false⟩
theorem oQ:zP 203 ti203:=zT
def ti205:TI:=⟨.struct [(0,12),(1,12),(2,174),(3,198),(4,5),(5,5),(6,199),(7,200),(8,201),(9,202),(10,203)],11,48,[.int .u64 0,.int .u64 0,.int .u32 0,.int .u8 0,.int .u8 0,.int .u8 0,.int .u8 0,.nilFunc,.pointer none,.int .i32 0,.int .i32 0],false⟩
theorem oP:zP 205 ti205:=zT
def rR:b5:=.node (.node (.node (.node (.node (.node (.node (.node (.leaf) 1 ti1 (.leaf)) 2 ti2 (.leaf)) 3 ti3 (.node (.node (.leaf) 4 ti4 (.leaf)) 5 ti5 (.leaf))) 6 ti6 (.node (.node (.node (.leaf) 7 ti7 (.leaf)) 8 ti8 (.leaf)) 9 ti9 (.node (.node (.leaf) 10 ti10 (.leaf)) 11 ti11 (.leaf)))) 12 ti12 (.node (.node (.node (.node (.leaf) 13 ti13 (.leaf)) 14 ti14 (.leaf)) 15 ti15 (.node (.node (.leaf) 16 ti16 (.leaf)) 17 ti17 (.leaf))) 18 ti18 (.node (.node (.node (.leaf) 19 ti19 (.leaf)) 20 ti20 (.leaf)) 21 ti21 (.node (.node (.leaf) 22 ti22 (.leaf)) 23 ti23 (.leaf))))) 24 ti24 (.node (.node (.node (.node (.node (.leaf) 25 ti25 (.leaf)) 26 ti26 (.leaf)) 27 ti27 (.node (.node (.leaf) 28 ti28 (.leaf)) 29 ti29 (.leaf))) 30 ti30 (.node (.node (.node (.leaf) 32 ti32 (.leaf)) 33 ti33 (.leaf)) 34 ti34 (.node (.node (.leaf) 35 ti35 (.leaf)) 36 ti36 (.leaf)))) 37 ti37 (.node (.node (.node (.node (.leaf) 38 ti38 (.leaf)) 40 ti40 (.leaf)) 41 ti41 (.node (.node (.leaf) 42 ti42 (.leaf)) 44 ti44 (.leaf))) 45 ti45 (.node (.node (.node (.leaf) 47 ti47 (.leaf)) 48 ti48 (.leaf)) 49 ti49 (.node (.node (.leaf) 50 ti50 (.leaf)) 51 ti51 (.leaf)))))) 52 ti52 (.node (.node (.node (.node (.node (.node (.leaf) 53 ti53 (.leaf)) 54 ti54 (.leaf)) 55 ti55 (.node (.node (.leaf) 56 ti56 (.leaf)) 57 ti57 (.leaf))) 58 ti58 (.node (.node (.node (.leaf) 59 ti59 (.leaf)) 60 ti60 (.leaf)) 61 ti61 (.node (.node (.leaf) 62 ti62 (.leaf)) 63 ti63 (.leaf)))) 64 ti64 (.node (.node (.node (.node (.leaf) 65 ti65 (.leaf)) 66 ti66 (.leaf)) 67 ti67 (.node (.node (.leaf) 68 ti68 (.leaf)) 69 ti69 (.leaf))) 70 ti70 (.node (.node (.node (.leaf) 71 ti71 (.leaf)) 72 ti72 (.leaf)) 74 ti74 (.node (.node (.leaf) 75 ti75 (.leaf)) 76 ti76 (.leaf))))) 77 ti77 (.node (.node (.node (.node (.node (.leaf) 78 ti78 (.leaf)) 79 ti79 (.leaf)) 80 ti80 (.node (.node (.leaf) 81 ti81 (.leaf)) 82 ti82 (.leaf))) 83 ti83 (.node (.node (.node (.leaf) 84 ti84 (.leaf)) 85 ti85 (.leaf)) 86 ti86 (.node (.node (.leaf) 87 ti87 (.leaf)) 88 ti88 (.leaf)))) 89 ti89 (.node (.node (.node (.node (.leaf) 90 ti90 (.leaf)) 91 ti91 (.leaf)) 92 ti92 (.node (.node (.leaf) 93 ti93 (.leaf)) 94 ti94 (.leaf))) 95 ti95 (.node (.node (.node (.leaf) 96 ti96 (.leaf)) 97 ti97 (.leaf)) 98 ti98 (.node (.node (.leaf) 99 ti99 (.leaf)) 100 ti100 (.leaf))))))) 101 ti101 (.node (.node (.node (.node (.node (.node (.node (.leaf) 102 ti102 (.leaf)) 103 ti103 (.leaf)) 104 ti104 (.node (.node (.leaf) 105 ti105 (.leaf)) 106 ti106 (.leaf))) 107 ti107 (.node (.node (.node (.leaf) 108 ti108 (.leaf)) 109 ti109 (.leaf)) 110 ti110 (.node (.node (.leaf) 111 ti111 (.leaf)) 112 ti112 (.leaf)))) 113 ti113 (.node (.node (.node (.node (.leaf) 114 ti114 (.leaf)) 115 ti115 (.leaf)) 116 ti116 (.node (.node (.leaf) 117 ti117 (.leaf)) 118 ti118 (.leaf))) 120 ti120 (.node (.node (.node (.leaf) 122 ti122 (.leaf)) 123 ti123 (.leaf)) 124 ti124 (.node (.node (.leaf) 125 ti125 (.leaf)) 126 ti126 (.leaf))))) 127 ti127 (.node (.node (.node (.node (.node (.leaf) 128 ti128 (.leaf)) 129 ti129 (.leaf)) 130 ti130 (.node (.node (.leaf) 132 ti132 (.leaf)) 133 ti133 (.leaf))) 134 ti134 (.node (.node (.node (.leaf) 135 ti135 (.leaf)) 136 ti136 (.leaf)) 137 ti137 (.node (.node (.leaf) 138 ti138 (.leaf)) 139 ti139 (.leaf)))) 140 ti140 (.node (.node (.node (.node (.leaf) 141 ti141 (.leaf)) 142 ti142 (.leaf)) 143 ti143 (.node (.node (.leaf) 144 ti144 (.leaf)) 145 ti145 (.leaf))) 146 ti146 (.node (.node (.node (.leaf) 147 ti147 (.leaf)) 149 ti149 (.leaf)) 151 ti151 (.node (.node (.leaf) 153 ti153 (.leaf)) 154 ti154 (.leaf)))))) 155 ti155 (.node (.node (.node (.node (.node (.node (.leaf) 156 ti156 (.leaf)) 157 ti157 (.leaf)) 158 ti158 (.node (.node (.leaf) 159 ti159 (.leaf)) 160 ti160 (.leaf))) 161 ti161 (.node (.node (.node (.leaf) 162 ti162 (.leaf)) 163 ti163 (.leaf)) 164 ti164 (.node (.node (.leaf) 165 ti165 (.leaf)) 166 ti166 (.leaf)))) 167 ti167 (.node (.node (.node (.node (.leaf) 169 ti169 (.leaf)) 170 ti170 (.leaf)) 171 ti171 (.node (.node (.leaf) 172 ti172 (.leaf)) 173 ti173 (.leaf))) 174 ti174 (.node (.node (.node (.leaf) 175 ti175 (.leaf)) 176 ti176 (.leaf)) 177 ti177 (.node (.node (.leaf) 178 ti178 (.leaf)) 179 ti179 (.leaf))))) 180 ti180 (.node (.node (.node (.node (.node (.leaf) 181 ti181 (.leaf)) 182 ti182 (.leaf)) 183 ti183 (.node (.node (.leaf) 184 ti184 (.leaf)) 185 ti185 (.leaf))) 186 ti186 (.node (.node (.node (.leaf) 187 ti187 (.leaf)) 188 ti188 (.leaf)) 189 ti189 (.node (.node (.leaf) 191 ti191 (.leaf)) 192 ti192 (.leaf)))) 193 ti193 (.node (.node (.node (.node (.leaf) 194 ti194 (.leaf)) 195 ti195 (.leaf)) 197 ti197 (.node (.node (.leaf) 198 ti198 (.leaf)) 199 ti199 (.leaf))) 200 ti200 (.node (.node (.node (.leaf) 201 ti201 (.leaf)) 202 ti202 (.leaf)) 203 ti203 (.node (.leaf) 205 ti205 (.leaf)))))))
theorem mD:rR.allP (dF Tryz.prog):=⟨⟨⟨⟨⟨⟨⟨⟨trivial,ti1_ok,trivial⟩,ti2_ok,trivial⟩,ti3_ok,⟨⟨trivial,ti4_ok,trivial⟩,ti5_ok,trivial⟩⟩,ti6_ok,⟨⟨⟨trivial,ti7_ok,trivial⟩,ti8_ok,trivial⟩,ti9_ok,⟨⟨trivial,ti10_ok,trivial⟩,ti11_ok,trivial⟩⟩⟩,ti12_ok,⟨⟨⟨⟨trivial,ti13_ok,trivial⟩,ti14_ok,trivial⟩,ti15_ok,⟨⟨trivial,ti16_ok,trivial⟩,ti17_ok,trivial⟩⟩,ti18_ok,⟨⟨⟨trivial,ti19_ok,trivial⟩,ti20_ok,trivial⟩,ti21_ok,⟨⟨trivial,ti22_ok,trivial⟩,ti23_ok,trivial⟩⟩⟩⟩,ti24_ok,⟨⟨⟨⟨⟨trivial,ti25_ok,trivial⟩,ti26_ok,trivial⟩,ti27_ok,⟨⟨trivial,ti28_ok,trivial⟩,ti29_ok,trivial⟩⟩,ti30_ok,⟨⟨⟨trivial,ti32_ok,trivial⟩,ti33_ok,trivial⟩,ti34_ok,⟨⟨trivial,ti35_ok,trivial⟩,ti36_ok,trivial⟩⟩⟩,ti37_ok,⟨⟨⟨⟨trivial,ti38_ok,trivial⟩,ti40_ok,trivial⟩,ti41_ok,⟨⟨trivial,ti42_ok,trivial⟩,ti44_ok,trivial⟩⟩,ti45_ok,⟨⟨⟨trivial,ti47_ok,trivial⟩,ti48_ok,trivial⟩,ti49_ok,⟨⟨trivial,ti50_ok,trivial⟩,ti51_ok,trivial⟩⟩⟩⟩⟩,ti52_ok,⟨⟨⟨⟨⟨⟨trivial,ti53_ok,trivial⟩,ti54_ok,trivial⟩,ti55_ok,⟨⟨trivial,ti56_ok,trivial⟩,ti57_ok,trivial⟩⟩,ti58_ok,⟨⟨⟨trivial,ti59_ok,trivial⟩,ti60_ok,trivial⟩,ti61_ok,⟨⟨trivial,ti62_ok,trivial⟩,ti63_ok,trivial⟩⟩⟩,ti64_ok,⟨⟨⟨⟨trivial,ti65_ok,trivial⟩,ti66_ok,trivial⟩,ti67_ok,⟨⟨trivial,ti68_ok,trivial⟩,ti69_ok,trivial⟩⟩,ti70_ok,⟨⟨⟨trivial,ti71_ok,trivial⟩,ti72_ok,trivial⟩,ti74_ok,⟨⟨trivial,ti75_ok,trivial⟩,ti76_ok,trivial⟩⟩⟩⟩,ti77_ok,⟨⟨⟨⟨⟨trivial,ti78_ok,trivial⟩,ti79_ok,trivial⟩,ti80_ok,⟨⟨trivial,ti81_ok,trivial⟩,ti82_ok,trivial⟩⟩,ti83_ok,⟨⟨⟨trivial,ti84_ok,trivial⟩,ti85_ok,trivial⟩,ti86_ok,⟨⟨trivial,ti87_ok,trivial⟩,ti88_ok,trivial⟩⟩⟩,ti89_ok,⟨⟨⟨⟨trivial,ti90_ok,trivial⟩,ti91_ok,trivial⟩,ti92_ok,⟨⟨trivial,ti93_ok,trivial⟩,ti94_ok,trivial⟩⟩,ti95_ok,⟨⟨⟨trivial,ti96_ok,trivial⟩,ti97_ok,trivial⟩,ti98_ok,⟨⟨trivial,ti99_ok,trivial⟩,qF,trivial⟩⟩⟩⟩⟩⟩,qE,⟨⟨⟨⟨⟨⟨⟨trivial,qD,trivial⟩,qC,trivial⟩,qB,⟨⟨trivial,qA,trivial⟩,qz,trivial⟩⟩,qy,⟨⟨⟨trivial,qx,trivial⟩,qw,trivial⟩,qv,⟨⟨trivial,qu,trivial⟩,qt,trivial⟩⟩⟩,qs,⟨⟨⟨⟨trivial,qq,trivial⟩,qp,trivial⟩,qo,⟨⟨trivial,qn,trivial⟩,qm,trivial⟩⟩,qk,⟨⟨⟨trivial,qj,trivial⟩,qi,trivial⟩,qh,⟨⟨trivial,qg,trivial⟩,qf,trivial⟩⟩⟩⟩,qe,⟨⟨⟨⟨⟨trivial,qd,trivial⟩,qc,trivial⟩,qb,⟨⟨trivial,qa,trivial⟩,p9,trivial⟩⟩,p8,⟨⟨⟨trivial,p7,trivial⟩,p6,trivial⟩,pZ,⟨⟨trivial,pY,trivial⟩,pX,trivial⟩⟩⟩,pW,⟨⟨⟨⟨trivial,pV,trivial⟩,pU,trivial⟩,pT,⟨⟨trivial,pS,trivial⟩,pR,trivial⟩⟩,pQ,⟨⟨⟨trivial,pP,trivial⟩,pO,trivial⟩,pN,⟨⟨trivial,pM,trivial⟩,pL,trivial⟩⟩⟩⟩⟩,pK,⟨⟨⟨⟨⟨⟨trivial,pJ,trivial⟩,pI,trivial⟩,pH,⟨⟨trivial,pG,trivial⟩,pF,trivial⟩⟩,pE,⟨⟨⟨trivial,pD,trivial⟩,pC,trivial⟩,pB,⟨⟨trivial,pA,trivial⟩,pz,trivial⟩⟩⟩,py,⟨⟨⟨⟨trivial,px,trivial⟩,pu,trivial⟩,pt,⟨⟨trivial,pr,trivial⟩,pq,trivial⟩⟩,pp,⟨⟨⟨trivial,po,trivial⟩,pn,trivial⟩,pm,⟨⟨trivial,pj,trivial⟩,ph,trivial⟩⟩⟩⟩,pg,⟨⟨⟨⟨⟨trivial,pf,trivial⟩,pe,trivial⟩,pd,⟨⟨trivial,pc,trivial⟩,pb,trivial⟩⟩,pa,⟨⟨⟨trivial,o9,trivial⟩,o8,trivial⟩,o7,⟨⟨trivial,o6,trivial⟩,o5,trivial⟩⟩⟩,oZ,⟨⟨⟨⟨trivial,oY,trivial⟩,oX,trivial⟩,oW,⟨⟨trivial,oV,trivial⟩,oU,trivial⟩⟩,oT,⟨⟨⟨trivial,oS,trivial⟩,oR,trivial⟩,oQ,⟨trivial,oP,trivial⟩⟩⟩⟩⟩⟩⟩
noncomputable def TC:Cx:=⟨Tryz.prog,rR.look,b5.look_ok mD⟩
theorem ab:TC.P.follows .mixedOrders=true:=by kernel_rfl
theorem Pure.val{C:Cx}{g:Nat}{xs:List Value}{r:Value}(ent:cm C.P g)(hr:r.oneCell'=true)(h:∀w,Calls C.P g xs.toArray w fun e w'=>e=.returned r∧w'=w):Pure C g (xs.map fun v=>.d (.val v)) (.d (.val r)):=by
 refine⟨ent,fun E w vs hIm hsz hargs=>?_⟩
 have:vs=xs.toArray:=by
  apply Array.ext (by simpa using hsz)
  intro i h1 h2
  have h3:=hargs i (by simpa using h2)
  rw[List.getElem_map]at h3
  have:=h3.val_inv
  simpa[Array.getD,h1]using this
 subst this
 refine(h w).mono ?_
 rintro e w' ⟨rfl,rfl⟩
 exact⟨r,rfl,Kp.refl _,.d _ _ (.val _ hr)⟩
def al{α:Type}[Inhabited α](esz:Nat)(enc:α→List D)(xs:List α):D:=.sl esz xs.length fun i=>enc (xs.getD i default)
def aA(k:IntKind)(n:Int):List D:=[.val (.int k n)]
def cK(n:Int):Bool:=decide (0≤n)&&decide (n≤4611686018427387903)
theorem dI(n:Int):Pure TC 27 [.i .i64 n] (.b (cK n)):=by
 refine Pure.mk' Tryz.func27 rfl rfl zN ?_
 (repeat' (first|((first|refine Wp.any ab rfl ?_|(with_reducible first|refine Go.mk ?_|apply am.of));conv=>whnf)|with_reducible exact rfl|((with_reducible refine Ov.ok zO ?_);conv=>whnf)|(with_reducible refine Ov.sh1 (by with_unfolding_all exact rfl) ?_)|((first|with_reducible refine Ov.quo (by omega) (by omega) (by omega) (fun _ _=>?_)|refine zV ?_|with_reducible refine And.intro zC ?_);conv=>whnf)|((with_reducible refine And.intro ?hb ?_);(case hb=>exact zz1);(conv=>whnf))|((refine bO.a rfl rfl rfl rfl rfl rfl ?hb ?_);(case hb=>exact zB);(conv=>whnf))|((refine bO.b rfl rfl rfl rfl rfl rfl rfl rfl ?hb ?ho ?_);(case hb=>exact zB);(case ho=>omega);(conv=>whnf))|((refine bO.c rfl rfl rfl rfl rfl ?hb ?_);(case hb=>exact zB);(conv=>whnf))|((refine bO.d rfl rfl rfl rfl rfl rfl ?hb ?ho ?_);(case hb=>exact zB);(case ho=>omega);(conv=>whnf))|(with_reducible refine Or.inl ?_)|((with_reducible refine IxA.ptr ?_);conv=>whnf)|((with_reducible refine dp (by omega) ?_);(conv=>whnf))|((with_reducible refine bq ?_ (fun hn0=>?_))<;>(conv=>whnf))|((refine au (fun hc=>?_) (fun hc=>?_))<;>(try simp only[wz9]at hc)<;>(try (exfalso;omega))<;>(conv=>whnf))))
 all_goals exact .b (by simp[cK];omega)
theorem r1_Form(n:Int):Pure TC 66 [.i .i64 n] (.b (cK n)):=by
 refine Pure.mk' Tryz.func66 rfl rfl zN ?_
 (repeat' (first|((first|refine Wp.any ab rfl ?_|(with_reducible first|refine Go.mk ?_|apply am.of));conv=>whnf)|with_reducible exact rfl|((with_reducible refine Ov.ok zO ?_);conv=>whnf)|(with_reducible refine Ov.sh1 (by with_unfolding_all exact rfl) ?_)|((first|with_reducible refine Ov.quo (by omega) (by omega) (by omega) (fun _ _=>?_)|refine zV ?_|with_reducible refine And.intro zC ?_);conv=>whnf)|((with_reducible refine And.intro ?hb ?_);(case hb=>exact zz1);(conv=>whnf))|((refine bO.a rfl rfl rfl rfl rfl rfl ?hb ?_);(case hb=>exact zB);(conv=>whnf))|((refine bO.b rfl rfl rfl rfl rfl rfl rfl rfl ?hb ?ho ?_);(case hb=>exact zB);(case ho=>omega);(conv=>whnf))|((refine bO.c rfl rfl rfl rfl rfl ?hb ?_);(case hb=>exact zB);(conv=>whnf))|((refine bO.d rfl rfl rfl rfl rfl rfl ?hb ?ho ?_);(case hb=>exact zB);(case ho=>omega);(conv=>whnf))|(with_reducible refine Or.inl ?_)|((with_reducible refine IxA.ptr ?_);conv=>whnf)|((with_reducible refine dp (by omega) ?_);(conv=>whnf))|((with_reducible refine bq ?_ (fun hn0=>?_))<;>(conv=>whnf))|((refine au (fun hc=>?_) (fun hc=>?_))<;>(try simp only[wz9]at hc)<;>(try (exfalso;omega))<;>(conv=>whnf))))
 all_goals exact .b (by simp[cK];omega)
structure Pol where
 kind:Int
 T:Int
 tau:Int
 permits:Int
 deriving Inhabited
def Pol.D(p:Pol):List D:=[.val (.int .u8 p.kind),.val (.int .i64 p.T),.val (.int .i64 p.tau),.val (.int .i64 p.permits)]
def bsF(lt:Nat→Bool):Nat→Nat→Nat→Nat
 | 0,i,_=>i
 | n+1,i,j=>if i<j then(if lt ((i+j)/2)then bsF lt n ((i+j)/2+1) j else bsF lt n i ((i+j)/2))else i
def bs(lt:Nat→Bool)(n:Nat):Nat:=bsF lt (n+1) 0 n
theorem bsF_end{lt:Nat→Bool}{q i j:Nat}(h:¬i<j):bsF lt q i j=i:=by cases q<;>simp[bsF,h]
def IsB(xs:List Int):Prop:=∀x∈xs,0≤x∧x≤255
theorem IsB.cons{x:Int}{xs:List Int}(h:IsB (x::xs)):(0≤x∧x≤255)∧IsB xs:=⟨h x (by simp),fun y hy=>h y (by simp[hy])⟩
def aE:List Int→List Int→Int
 | [],[]=>0
 | [],_::_=>-1
 | _::_,[]=>1
 | a::r,b::s=>if a<b then -1 else if b<a then 1 else aE r s
theorem eD:∀(a b:List Int),IsB a→IsB b→Lib.compareBytes (Lib.bytesOf a) (Lib.bytesOf b)=aE a b
 | [],[],_,_=>rfl
 | [],_::_,_,_=>rfl
 | _::_,[],_,_=>rfl
 | x::a,y::b,ha,hb=>by
  obtain⟨hx,ha'⟩:=ha.cons
  obtain⟨hy,hb'⟩:=hb.cons
  have ih:=eD a b ha' hb'
  have e1:(x.toNat.toUInt8<y.toNat.toUInt8)↔x<y:=by
   rw[UInt8.lt_iff_toNat_lt];simp only[Nat.toUInt8,UInt8.toNat_ofNat'];omega
  have e2:(y.toNat.toUInt8<x.toNat.toUInt8)↔y<x:=by
   rw[UInt8.lt_iff_toNat_lt];simp only[Nat.toUInt8,UInt8.toNat_ofNat'];omega
  show Lib.compareBytes (x.toNat.toUInt8::Lib.bytesOf a) (y.toNat.toUInt8::Lib.bytesOf b)=_
  simp only[Lib.compareBytes,aE,e1,e2,ih]
theorem bp{P:Program}{Im:Nat→Prop}{w:World}{v:Value}{xs:List Int}(h:RD w Im (al 1 (aA .u8) xs) v):(∃a cap,v=.slice a xs.length cap)∧(Extern.Bytes.bytesOf v).run P w=.ok ⟨(Lib.bytesOf xs).toArray⟩ w:=by
 cases h with
 | sl _ _ _ a cap g hc hm hl ha hg =>
  refine⟨⟨a,cap,rfl⟩,?_⟩
  cases a with
  | none =>
   cases xs with
   | nil=>simp[Extern.Bytes.bytesOf,Lib.bytesOf];rfl
   | cons x r=>obtain⟨b,o,e,_⟩:=ha (by simp);cases e
  | some ad =>
   have:=Lib.run_loadBytesX (P:=P) w xs ad .empty (fun j x hj=>by
    have hjl:=(Q3 hj).1
    obtain⟨b,o,e,_,hcell⟩:=ha (by omega)
    cases e
    have h1:=hcell j 0 hjl (by omega)
    have h2:=hg j 0 hjl (by simp[aA])
    have h3:(aA .u8 (xs.getD j default))[0]'(by simp[aA])=.val (.int .u8 x):=by
     simp[aA,List.getD,hj]
    rw[h3]at h2
    have h4:g j 0=.int .u8 x:=by generalize g j 0=y at h2;cases h2;rfl
    rw[h4]at h1
    rw[Addr.add_lit]
    simpa using h1)
   simp only[Extern.Bytes.bytesOf,this]
   simp
theorem d7(a b:List Int)(ba:IsB a)(bb:IsB b):Pure TC 80 [.d (al 1 (aA .u8) a),.d (al 1 (aA .u8) b)] (.i .i64 (aE a b)):=by
 refine⟨.mk Tryz.func80 rfl rfl,fun E w vs hIm hsz hargs=>?_⟩
 obtain⟨va,vb,rfl⟩:∃va vb,vs=#[va,vb]:=⟨vs[0]'(by simp at hsz;omega),vs[1]'(by simp at hsz;omega),by
  apply Array.ext (by simpa using hsz)
  intro i h1 h2
  have:i=0∨i=1:=by simp at h2;omega
  rcases this with rfl|rfl<;>rfl⟩
 have ha:RD w E.Im (al 1 (aA .u8) a) va:=by
  have:=hargs 0 (by simp)
  cases this with|d _ _ h=>exact h
 have hb:RD w E.Im (al 1 (aA .u8) b) vb:=by
  have:=hargs 1 (by simp)
  cases this with|d _ _ h=>exact h
 obtain⟨⟨a1,c1,rfl⟩,h1⟩:=bp (P:=Tryz.prog) ha
 obtain⟨⟨a2,c2,rfl⟩,h2⟩:=bp (P:=Tryz.prog) hb
 have hr:(callFunc 113 #[.slice a1 a.length c1,.slice a2 b.length c2]).run Tryz.prog w=.ok (.value (.int .i64 (aE a b))) w:=by
  rw[run_callFunc_extern Tryz.func113 (by kernel_rfl) (by kernel_rfl) (by kernel_rfl) (e:=Extern.BytealgCompare.compare) (by kernel_rfl)]
  have h3:(Extern.BytealgCompare.compare #[.slice a1 a.length c1,.slice a2 b.length c2]).run Tryz.prog w=.ok (.int .i64 (aE a b)) w:=by
   change Sem.run Tryz.prog (do pure (goInt (Extern.BytealgCompare.cmp (← Extern.Bytes.bytesOf (.slice a1 a.length c1)) (← Extern.Bytes.bytesOf (.slice a2 b.length c2))))) w=_
   simp only[Sem.run_bind,h1,h2,Result.andThen_ok,Sem.run_pure,Lib.cmp_eq]
   rw[eD a b ba bb]
   rfl
  rw[h3];rfl
 have hc:Calls Tryz.prog 80 #[.slice a1 a.length c1,.slice a2 b.length c2] w fun e w'=>e=.returned (.int .i64 (aE a b))∧w=w':=by
  clear ha hb ba bb h1 h2 hargs hIm hsz
  go_enter Tryz.func80,Tryz.ntmps80
  go_wp2_with (rw[hr])
  go_ret
  exact⟨rfl,rfl⟩
 refine hc.mono ?_
 rintro e w' ⟨rfl,rfl⟩
 exact⟨_,rfl,Kp.refl _,.d _ _ (.val _ rfl)⟩
theorem ma(a b:List Int)(ba:IsB a)(bb:IsB b):Pure TC 47 [.d (al 1 (aA .u8) a),.d (al 1 (aA .u8) b)] (.i .i64 (aE a b)):=by
 refine Pure.mk' Tryz.func47 rfl rfl zN ?_
 (repeat' (first|((first|refine Wp.any ab rfl ?_|(with_reducible first|refine Go.mk ?_|apply am.of));conv=>whnf)|with_reducible exact rfl|((with_reducible refine Ov.ok zO ?_);conv=>whnf)|(with_reducible refine Ov.sh1 (by with_unfolding_all exact rfl) ?_)|((first|with_reducible refine Ov.quo (by omega) (by omega) (by omega) (fun _ _=>?_)|refine zV ?_|with_reducible refine And.intro zC ?_);conv=>whnf)|((with_reducible refine And.intro ?hb ?_);(case hb=>exact zz1);(conv=>whnf))|((refine bO.a rfl rfl rfl rfl rfl rfl ?hb ?_);(case hb=>exact zB);(conv=>whnf))|((refine bO.b rfl rfl rfl rfl rfl rfl rfl rfl ?hb ?ho ?_);(case hb=>exact zB);(case ho=>omega);(conv=>whnf))|((refine bO.c rfl rfl rfl rfl rfl ?hb ?_);(case hb=>exact zB);(conv=>whnf))|((refine bO.d rfl rfl rfl rfl rfl rfl ?hb ?ho ?_);(case hb=>exact zB);(case ho=>omega);(conv=>whnf))|(with_reducible refine Or.inl ?_)|((with_reducible refine IxA.ptr ?_);conv=>whnf)|((with_reducible refine dp (by omega) ?_);(conv=>whnf))|((with_reducible refine bq ?_ (fun hn0=>?_))<;>(conv=>whnf))|((with_reducible first|refine aa.pure (d7 a b ba bb) rfl rfl ?_|refine ai.pure (d7 a b ba bb) rfl rfl ?_);conv=>whnf)|((refine au (fun hc=>?_) (fun hc=>?_))<;>(try simp only[wz9]at hc)<;>(try (exfalso;omega))<;>(conv=>whnf))))
 exact .i rfl
section
inductive Sh where
 | int (k:IntKind)
 | bool
 | str
 | sl (z:Nat) (es:List Sh)
mutual
inductive oG:Sh→D→Prop
 | int {k:IntKind} {n:Int} (h:(Lit.int k n).wf=true):oG (.int k) (.val (.int k n))
 | bool (b:Bool):oG .bool (.val (.bool b))
 | str (s:ByteArray) (h:s.size≤maxLen):oG .str (.val (.string s))
 | sl {z:Nat} {es:List Sh} {n:Nat} {f:Nat→List D} (hn:n≤maxLen) (h:∀i,i<n→gC es (f i)):oG (.sl z es) (.sl z n f)
inductive gC:List Sh→List D→Prop
 | nil:gC [] []
 | cons {s:Sh} {d:D} {ss:List Sh} {ds:List D} (h:oG s d) (t:gC ss ds):gC (s::ss) (d::ds)
end
theorem gC.len:∀{ss:List Sh} {ds:List D},gC ss ds→ds.length=ss.length
 | _,_,.nil=>rfl
 | _,_,.cons _ t=>by simp[gC.len t]
theorem gC.append:∀{ss ss':List Sh} {ds ds':List D},gC ss ds→gC ss' ds'→gC (ss++ss') (ds++ds')
 | _,_,_,_,.nil,h=>h
 | _,_,_,_,.cons h t,h'=>.cons h (t.append h')
def shF(r:TypeId→Option (List Sh))(c:TypeId→Nat):List Field→Nat→Option (List Sh)
 | [],_=>some []
 | f::fs,o=>if f.offset=o then(r f.type).bind fun a=>if a.length=c f.type then(shF r c fs (o+a.length)).map (a++·)else none else none
def shT(P:Program):Nat→TypeId→Option (List Sh)
 | 0,_=>none
 | n+1,t=>match P.underlying t with
  | some .bool=>some [.bool]
  | some (.int k)=>some [.int k]
  | some .string=>some [.str]
  | some (.slice e)=>(shT P n e).bind fun es=>if es.length=P.cellsOf e then some [.sl (P.cellsOf e) es]else none
  | some (.struct fs)=>(shF (shT P n) P.cellsOf fs.toList 0).bind fun a=>if a.length=P.cellsOf t then some a else none
  | _=>none
structure RLs(w:World)(ds:List D)(cs:List Value):Prop where
 len:ds.length=cs.length
 out:∀(j:Nat) (d:D) (c:Value),ds[j]?=some d→cs[j]?=some c→RD w (fun b=>b<w.heap.size) d c
theorem RLs.nil(w:World):RLs w [] []:=⟨rfl,fun j d c h=>by simp at h⟩
theorem RLs.one{w:World}{d:D}{c:Value}(h:RD w (fun b=>b<w.heap.size) d c):RLs w [d] [c]:=⟨rfl,fun j d' c' hd hc=>by
 cases j with
 | zero=>simp at hd hc;subst hd hc;exact h
 | succ j=>simp at hd⟩
theorem RLs.append{w:World}{ds ds':List D}{cs cs':List Value}(h:RLs w ds cs)(h':RLs w ds' cs'):RLs w (ds++ds') (cs++cs'):=by
 have hl:=h.len
 refine⟨by simp[h.len,h'.len],fun j d c hd hc=>?_⟩
 by_cases hj:j<ds.length
 ·rw[Q11 hj]at hd
  rw[Q11 (by omega)]at hc
  exact h.out j d c hd hc
 ·rw[Q12 (by omega)]at hd
  rw[Q12 (by omega)]at hc
  rw[← hl]at hc
  exact h'.out _ d c hd hc
section
variable{H:Type}{enc:TypeId×Value→H}{P:Program}{w:World}{spare:Nat→Bool}
theorem mM{a:Addr}{v:Value}(h:w.cell? (a.add 0)=some v):a.spot=none:=by
 have:=World.cell?_spot h
 unfold Addr.add at this
 simpa using this
end
end
section
open Go.ChangeShapes Go.WideShapes Go.ChangeAt Go.RowKit
section
variable{H:Type}{enc:TypeId×Value→H}{P:Program}
theorem jJ{w w':World}{base:Nat}{sp:Nat→Bool}{hd:Bool}:∀{ts:List TypeId} {vs:List Value} {ds:List (DataW H)} {ps:List MemPlace},DataW.TrodAll enc P w base sp hd ts vs ds ps→(∀p∈ps,w.sameAt w' p)→DataW.TrodAll enc P w' base sp hd ts vs ds ps
 | [],[],[],_,h,_=>h
 | t::ts,v::vs,d::ds,ps,⟨p,q,⟨n,h1⟩,h2,e⟩,hs=>⟨p,q,⟨n,DataW.trod_carry n _ _ _ h1 fun x hx=>hs x (by rw[e];exact List.mem_append_left _ hx)⟩,jJ h2 fun x hx=>hs x (by rw[e];exact List.mem_append_right _ hx),e⟩
theorem kept_of{w w':World}(h:Kp w w')(may:MemPlace→Prop):w.keptBut w' may:=by
 refine⟨h.os,h.output,fun i hi=>?_⟩
 have hb:=h.block i hi
 rw[hb]
 rcases hq:w.heap[i]? with _|o
 ·simp
 ·cases o<;>simp
theorem qZ{T:TypeId→Prop}(K:Kids P T)(hz:∀t e,T t→P.underlying t=some (.slice e)→0<P.cellsOf e){f:Func}{s:ChangeSpec}{W W':World}{args:Array Value}{ds gs:List (DataW H)}{before:List MemPlace}{tb:TypeId}
  (hT:∀t∈f.params.toList,T t) (hvars:s.vars=[]) (hr:f.resultTypes=#[tb]) (hb:P.underlying tb=some .bool)
  (hfn:gs=[]→(s.fn H (ds++gs)).results=[.lit (.bool true)]∧(s.fn H (ds++gs)).args=ds∧(s.fn H (ds++gs)).vars=[])
  (hW:DataW.Whole enc P f.params.toList s.vars false W args.toList ds gs before) (hk:Kp W W'):s.post enc P f false true false false W args (.bool true) W':=by
 have hW0:=hW
 obtain⟨p,q,hA,hV,rfl,hfz,_⟩:=hW
 rw[hvars]at hV
 have hgs:gs=[]∧q=[]:=by
  cases gs with
  | nil=>exact⟨rfl,hV⟩
  | cons x r=>exact hV.elim
 obtain⟨rfl,rfl⟩:=hgs
 obtain⟨h1,h2,h3⟩:=hfn rfl
 have hlt:=hW0.lt
 have hsame:∀x∈p,W.sameAt W' x:=fun x hx=>by
  have hb:=hk.block x.block (hlt x (by simpa using hx))
  cases x with
  | cell b o=>exact World.cell?_of_block hb
  | map b=>exact hb
 have hA':=jJ hA hsame
 refine⟨ds,[],p++[],[],p,[],hW0,?_,?_,?_,kept_of hk _,fun h=>by cases h⟩
 ·rw[h1,hr]
  exact⟨[],[],shut_bool hb true,rfl,rfl⟩
 ·rw[h2]
  exact DataW.TrodAll.respare K hz hT hA' fun x hx=>by simpa using hlt x (by simpa using hx)
 ·rw[h3,hvars];rfl
end
end
section
open Go.ChangeShapes Go.WideShapes Go.ChangeAt Go.RowKit
theorem own:ownKnob Tryz.prog.godebug=none:=by kernel_rfl
theorem kids:Kids Tryz.prog (·<Tryz.prog.types.size):=kids_rows (by kernel_rfl) (by kernel_rfl)
theorem full:∀t e,t<Tryz.prog.types.size→Tryz.prog.underlying t=some (.slice e)→0<Tryz.prog.cellsOf e:=slices_full_of Tryz.prog (by kernel_rfl)
def shI(k:IntKind)(n:Int):Prop:=(Lit.int k n).wf=true
theorem iz{k:IntKind}{d:D}(h:oG (.int k) d):∃n,d=.val (.int k n)∧shI k n:=by cases h with|int h=>exact⟨_,rfl,h⟩
theorem fit_sl{z:Nat}{es:List Sh}{d:D}(h:oG (.sl z es) d):∃n f,d=.sl z n f∧n≤maxLen∧∀i,i<n→gC es (f i):=by cases h with|sl hn h=>exact⟨_,_,rfl,hn,h⟩
theorem de{s:Sh}{ss:List Sh}{ds:List D}(h:gC (s::ss) ds):∃d r,ds=d::r∧oG s d∧gC ss r:=by cases h with|cons h t=>exact⟨_,_,rfl,h,t⟩
theorem kl{ds:List D}(h:gC [] ds):ds=[]:=by cases h;rfl
theorem wf_u8{n:Int}(h:shI .u8 n):0≤n∧n≤255:=by simpa[shI,Lit.wf,IntKind.min,IntKind.max,IntKind.signed,IntKind.bits]using h
theorem rM{n:Int}(h:shI .i64 n):-9223372036854775808≤n∧n≤9223372036854775807:=by simpa[shI,Lit.wf,IntKind.min,IntKind.max,IntKind.signed,IntKind.bits]using h
structure TLe(d d':D):Prop where
 out:∀w Im v,RD w Im d v→RD w Im d' v
theorem TLe.rfl(d:D):TLe d d:=⟨fun _ _ _ h=>h⟩
structure oM(ds ds':List D):Prop where
 len:ds.length=ds'.length
 out:∀(j:Nat) (d d':D),ds[j]?=some d→ds'[j]?=some d'→TLe d d'
theorem oM.nil:oM [] []:=⟨_root_.rfl,fun j d d' h=>by simp at h⟩
theorem oM.cons{d d':D}{ds ds':List D}(h:TLe d d')(t:oM ds ds'):oM (d::ds) (d'::ds') :=
 ⟨by simp[t.len],fun j x y hx hy=>by
  cases j with
  | zero=>simp at hx hy;subst hx hy;exact h
  | succ j=>simp at hx hy;exact t.out j x y hx hy⟩
theorem TLe.sl{z n:Nat}{f g:Nat→List D}(h:∀i,i<n→oM (f i) (g i)):TLe (.sl z n f) (.sl z n g):=by
 refine⟨fun w Im v hv=>?_⟩
 cases hv with
 | sl _ _ _ a cap gv hc hm hl ha hg =>
  refine .sl z n g a cap gv hc hm (fun i hi=>by rw[← (h i hi).len];exact hl i hi) ha fun i j hi hj=>?_
  have hj':j<(f i).length:=by rw[(h i hi).len];exact hj
  exact((h i hi).out j _ _ (Q0 hj') (Q0 hj)).out _ _ _ (hg i j hi hj')
theorem list_of{α:Type}[Inhabited α]{enc:α→List D}{p:α→Prop}{n:Nat}{f:Nat→List D}(h:∀i,i<n→∃x,oM (f i) (enc x)∧p x):∃xs:List α,xs.length=n∧(∀i,i<n→oM (f i) (enc (xs.getD i default)))∧∀x∈xs,p x:=by
 induction n with
 | zero=>exact⟨[],rfl,fun i hi=>by omega,fun x hx=>by simp at hx⟩
 | succ n ih =>
  obtain⟨xs,h1,h2,h3⟩:=ih fun i hi=>h i (by omega)
  obtain⟨x,h4,h5⟩:=h n (by omega)
  refine⟨xs++[x],by simp[h1],fun i hi=>?_,fun y hy=>?_⟩
  ·by_cases hin:i<n
   ·have:=h2 i hin
    rw[show(xs++[x]).getD i default=xs.getD i default by simp[List.getD,Q11 (show i<xs.length by omega)]]
    exact this
   ·obtain rfl:i=n:=by omega
    rw[show(xs++[x]).getD i default=x by simp[List.getD,h1]]
    exact h4
  ·rcases List.mem_append.1 hy with hy|hy
   ·exact h3 y hy
   ·simp at hy;subst hy;exact h5
end
end Go.Proofs.YtejiekfnaddanaaGreat
