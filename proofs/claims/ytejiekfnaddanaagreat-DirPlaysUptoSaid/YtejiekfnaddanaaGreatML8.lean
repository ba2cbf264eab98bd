/- Lemmas of Dr17, Dq1, Dq2, Dq3, Dq4, Dr23, Sx39, Sx42, Sx33, Sx34, Sx36, Sx29, Sx31, Sx38, Sx43. No condition. -/
import Derived.Test.YtejiekfnaddanaaGreatML7
set_option linter.unusedVariables false
set_option linter.unusedSimpArgs false
set_option linter.unusedSectionVars false
set_option maxHeartbeats 80000000
set_option maxRecDepth 100000
namespace Go.Proofs.YtejiekfnaddanaaGreat
open Go.RowKit
def gOf(cs:Nat→Dir.CS):Nat→SV:=fun j=>cl j (cs j)
theorem ci(cs:Nat→Dir.CS):∀j,SV.Lt 5 (gOf cs j):=fun j=>eE _ _
theorem kf(cs:Nat→Dir.CS)(w:Nat)(s:Dir.CS):Dir.upd (gOf cs) w (cl w s)=gOf (Dir.upd cs w s):=by
 funext j
 unfold gOf Dir.upd
 by_cases h:j=w
 ·rw[if_pos h,if_pos h,h]
 ·rw[if_neg h,if_neg h]
theorem ri:∀c h r,ae.fnd c h=.inl r→r.done=true:=by
 intro c h r e
 have e:dG c h=.inl r:=e
 unfold dG at e
 split at e
 ·cases e;rfl
 ·split at e
  ·cases e;rfl
  ·split at e
   ·cases e
   ·split at e<;>cases e
structure iL(k:Nat)(M:Dir.Mc)(cs:Nat→Dir.CS)(nl:Nat)(cnt:Int):Prop where
 inv:Dir.Inv ae M cs ((k:Int)+1)
 hd:∀w,Dir.Hn k (M.Hd w)
 ok:∀j,Dir.okH k (cs j)
 nl:nl≤128
 cnt:cnt=(k:Int)+1
theorem iL.zero:iL 0 Dir.M0 (fun _=>.none) (a7 0) 1:=⟨Dir.Inv.zero _,fun _=>Dir.nilH,fun _=>trivial,by decide,rfl⟩
theorem iL.step{k:Nat}{M:Dir.Mc}{cs:Nat→Dir.CS}{nl:Nat}{cnt:Int}(h:iL k M cs nl cnt)(hk:k≤1000000)(i:Nat) :
  iL (k+1) (Dir.step ae M (cs i)).1 (Dir.upd cs i (Dir.step ae M (cs i)).2.1) (a7 nl) (cnt+1):=by
 have h1:=Dir.step_H h.inv.iw h.hd (h.inv.cw i) (h.ok i)
 refine⟨?_,h1.1,fun j=>?_,qS h.nl,by have:=h.cnt;omega⟩
 ·have:=h.inv.step ri (show(k:Int)+1+1<Dir.FZ by unfold Dir.FZ;omega) i
  rwa [show((k+1:Nat):Int)+1=(k:Int)+1+1 by omega]
 ·unfold Dir.upd
  split
  ·exact h1.2
  ·exact(h.ok j).mono (Nat.le_succ k)
theorem iL.start{k:Nat}{M:Dir.Mc}{cs:Nat→Dir.CS}{nl:Nat}{cnt:Int}(h:iL k M cs nl cnt)(i:Nat)(op:Int)(key:List Int)(v:Int)(hk:IsB key) :
  iL k M (Dir.upd cs i (bI op key v)) nl cnt:=by
 refine⟨⟨h.inv.iw,h.inv.b,fun j=>?_⟩,h.hd,fun j=>?_,h.nl,h.cnt⟩
 ·unfold Dir.upd;split
  ·unfold bI;split<;>trivial
  ·exact h.inv.cw j
 ·unfold Dir.upd;split
  ·unfold bI;split
   ·trivial
   ·exact hk
  ·exact h.ok j
theorem iL.dok{k:Nat}{M:Dir.Mc}{cs:Nat→Dir.CS}{nl:Nat}{cnt:Int}(h:iL k M cs nl cnt)(hk:k≤1000000)(w:Nat)(hw:w<64):DOK w (gOf cs) M nl cnt :=
 ⟨by omega,by omega,h.nl,by have:=h.cnt;omega,by have:=h.cnt;omega,ci cs,h.inv.iw.d.1,h.inv.iw.d.2,fun w=>(h.hd w).ok (by omega)⟩
theorem lp{k:Nat}{M:Dir.Mc}{cs:Nat→Dir.CS}{nl:Nat}{f:Nat→List D}{clk cnt:Int}(h:iL k M cs nl cnt)(hk:k≤1000000)(w:Nat)(hw:w<64)(hc:isC (cs w)=true) :
  ∃a,Fun TC 11 5 [.ptr 0 0,.i .i64 w] (aN (gOf cs) M nl f clk cnt) 6 (.tup [di (Dir.step ae M (cs w)).2.2,.i .i64 0]) (iE (gOf (Dir.upd cs w (Dir.step ae M (cs w)).2.1)) (Dir.step ae M (cs w)).1 nl f clk cnt a):=by
 obtain⟨a,hF⟩:=rA (f:=f) (clk:=clk) w hw (h.dok hk w hw) hc (okC_of (h.inv.cw w) (h.ok w) (by omega)) rfl
 rw[kf]at hF
 exact⟨a,hF⟩
theorem nr{M:Dir.Mc}{cs:Nat→Dir.CS}{nl:Nat}{f:Nat→List D}{clk cnt:Int}(w:Nat)(hw:w<64)(op:Int)(key:List Int)(v:Int)(ho:1≤op)(ho4:op≤4)(hk:key.length≤256)(hv:cK v=true)(hc:cs w=.none) :
  Fun TC 8 5 [.ptr 0 0,.i .i64 w,.i .u8 op,.d (al 1 (aA .u8) key),.i .i64 v] (aN (gOf cs) M nl f clk cnt) 5 (.i .i64 0) (aN (gOf (Dir.upd cs w (bI op key v))) M nl f clk cnt):=by
 have:=n8 (ci cs) (M:=M) (nl:=nl) (f:=f) (clk:=clk) (cnt:=cnt) w hw op key v ho ho4 hk hv (show cl w (cs w)=oJ by rw[hc];rfl)
 rwa [kf]at this
theorem fQ{M:Dir.Mc}{cs:Nat→Dir.CS}{nl:Nat}{f:Nat→List D}{clk cnt:Int}(w:Nat)(hw:w<64) :
  Fun TC 16 5 [.ptr 0 0,.i .i64 w] (aN (gOf cs) M nl f clk cnt) 5 (.b (isC (cs w))) (aN (gOf cs) M nl f clk cnt) :=
 gj w hw (ci cs) rfl
def awS:List (Nat×Option Dir.Kc):=[(0,some ⟨2,[97],5⟩),(0,none),(0,none),(0,none),(1,some ⟨4,[],0⟩),(1,none),(1,none),(1,none),(1,none),(1,none),(1,none),(1,none),(1,none),(1,none),(2,some ⟨1,[97],0⟩),(2,none),(2,none)]
def aw1(st:Dir.Mc×(Nat→Dir.CS)):Nat×Option Dir.Kc→Dir.Mc×(Nat→Dir.CS)
 | (w,some c)=>(st.1,Dir.upd st.2 w (bI c.op c.key c.val))
 | (w,none)=>((Dir.step ae st.1 (st.2 w)).1,Dir.upd st.2 w (Dir.step ae st.1 (st.2 w)).2.1)
def awR(st:Dir.Mc×(Nat→Dir.CS)):List (Nat×Option Dir.Kc)→List (Dir.Res)
 | []=>[]
 | (w,o)::r=>(match o with|none=>(Dir.step ae st.1 (st.2 w)).2.2|some _=>Dir.r0)::awR (aw1 st (w,o)) r
def awC(st:Dir.Mc×(Nat→Dir.CS)):List (Nat×Option Dir.Kc)→List Bool
 | []=>[]
 | (w,o)::r=>isC (st.2 w)::awC (aw1 st (w,o)) r
def awE(st:Dir.Mc×(Nat→Dir.CS)):List (Nat×Option Dir.Kc)→Int
 | []=>st.1.W 0
 | x::r=>awE (aw1 st x) r
structure AwK(st:Dir.Mc×(Nat→Dir.CS))(l:List (Nat×Option Dir.Kc))(rs:List Dir.Res)(bs:List Bool):Prop where
 r:awR st l=rs
 c:awC st l=bs
 e:awE st l=2
theorem iK{k:Nat}{M:Dir.Mc}{cs:Nat→Dir.CS}{nl:Nat}{cnt:Int}(h:iL k M cs nl cnt){w:Nat}{c:Dir.Kc}{l:List (Nat×Option Dir.Kc)}{r:Dir.Res}{rs:List Dir.Res}{bs:List Bool}(K:AwK (M,cs) ((w,some c)::l) (r::rs) (false::bs))
  (hw:w<64) (ho:1≤c.op) (ho4:c.op≤4) (hk:IsB c.key∧c.key.length≤256) (hv:cK c.val=true) :
  ∃cs',iL k M cs' nl cnt∧AwK (M,cs') l rs bs∧∀f clk,Fun TC 8 5 [.ptr 0 0,.i .i64 w,.i .u8 c.op,.d (al 1 (aA .u8) c.key),.i .i64 c.val] (aN (gOf cs) M nl f clk cnt) 5 (.i .i64 0) (aN (gOf cs') M nl f clk cnt):=by
 have hr:=K.r;have hc:=K.c
 simp only[awR,awC,List.cons.injEq]at hr hc
 exact⟨_,h.start w c.op c.key c.val hk.1,⟨hr.2,hc.2,K.e⟩,fun f clk=>nr w hw c.op c.key c.val ho ho4 hk.2 hv (lq hc.1)⟩
theorem bl{k:Nat}{M:Dir.Mc}{cs:Nat→Dir.CS}{nl:Nat}{cnt:Int}(h:iL k M cs nl cnt){w:Nat}{l:List (Nat×Option Dir.Kc)}{r:Dir.Res}{rs:List Dir.Res}{bs:List Bool}(K:AwK (M,cs) ((w,none)::l) (r::rs) (true::bs))
  (hw:w<64) (hk:k≤1000000) (f:Nat→List D) (clk:Int) :
  ∃M' cs' f',iL (k+1) M' cs' (a7 nl) (cnt+1)∧AwK (M',cs') l rs bs∧Fun TC 11 5 [.ptr 0 0,.i .i64 w] (aN (gOf cs) M nl f clk cnt) 6 (.tup [di r,.i .i64 0])
   [(0,some (dirB (gOf cs'))),(1,some (cd 2 5 32 (a7 nl) clk (cnt+1))),(2,some (bP 32 M'.W)),(3,some (dn M'.Hd)),(4,none),(5,some (b9 (a7 nl) f'))]:=by
 have hr:=K.r;have hc:=K.c
 simp only[awR,awC,List.cons.injEq]at hr hc
 obtain⟨a,hF⟩:=lp (f:=f) (clk:=clk) h hk w hw hc.1
 rw[hr.1]at hF
 exact⟨_,_,_,h.step hk w,⟨hr.2,hc.2,K.e⟩,hF⟩
theorem aw_all:AwK (Dir.M0,fun _=>.none) awS
  [⟨false,0,0⟩,⟨false,0,0⟩,⟨false,0,0⟩,⟨true,0,5⟩,⟨false,0,0⟩,⟨false,0,0⟩,⟨false,0,0⟩,⟨false,0,0⟩,⟨false,0,0⟩,⟨false,0,0⟩,⟨false,0,0⟩,⟨false,0,0⟩,⟨false,0,0⟩,⟨true,0,0⟩,⟨false,0,0⟩,⟨false,0,0⟩,⟨true,0,5⟩]
  [false,true,true,true,false,true,true,true,true,true,true,true,true,true,false,true,true]:=⟨by decide +kernel,by decide +kernel,by decide +kernel⟩
theorem nv{k:Nat}{M:Dir.Mc}{cs:Nat→Dir.CS}{nl:Nat}{cnt:Int}(h:iL k M cs nl cnt)(f:Nat→List D)(clk:Int) :
  Fun TC 14 5 [.ptr 0 0] (aN (gOf cs) M nl f clk cnt) 5 (.tup [.i .i64 (M.W 0/2),.b (decide (M.W 0%2=1))]) (aN (gOf cs) M nl f clk cnt) :=
 jy (ci cs) M nl f clk cnt h.inv.iw.d.1 h.inv.iw.d.2
theorem nq{k:Nat}{M:Dir.Mc}{cs:Nat→Dir.CS}{nl:Nat}{cnt:Int}(h:iL k M cs nl cnt)(hk:k≤1000000)(f:Nat→List D)(clk:Int) :
  Fun TC 18 5 [.ptr 0 0] (aN (gOf cs) M nl f clk cnt) 5 (.i .i64 (cnt-1)) (aN (gOf cs) M nl f clk cnt) :=
 jw (ci cs) M nl f clk cnt (by have:=h.cnt;omega) (by have:=h.cnt;omega)
theorem cl_lt4(who:Int)(s:Dir.CS):SV.Lt 4 (cl who s):=by
 cases s with
 | sH lv i up h=>cases up<;>exact .of rfl
 | sL lv i up h=>cases up<;>exact .of rfl
 | _=>exact .of rfl
theorem iv(cs:Nat→Dir.CS):∀j,SV.Lt 4 (cV (gOf cs) j):=fun j=>by
 cases j with
 | zero=>exact .of rfl
 | succ j=>exact cl_lt4 _ _
theorem id4{L:List Nat}{i:Nat}(hi:i<4):(0::1::2::3::L).getD i 0=i:=by
 rcases i with _|_|_|_|i<;>first|rfl|omega
theorem bu{cs:Nat→Dir.CS}{L:List Nat}:∀j,j<65→ac (0::1::2::3::L) (cV (gOf cs) j) (cV (gOf cs) j)∧SV.Lt 5 (cV (gOf cs) j) :=
 fun j _=>⟨.same (iv cs j) (by simp) fun i hi=>id4 hi,(iv cs j).mono (by decide)⟩
theorem bT{cs:Nat→Dir.CS}{L:List Nat}{π:Nat→Nat}(hπ:∀l,l<4→π l=l):∀j,j<65→ac (0::1::2::3::L) (SV.ren π (cV (gOf cs) j)) (cV (gOf cs) j)∧SV.Lt 5 (cV (gOf cs) j) :=
 fun j hj=>⟨by rw[dM hπ (iv cs j)];exact(bu j hj).1,(iv cs j).mono (by decide)⟩
theorem ac.sl5{l z o n:Nat}:ac [0,1,2,3,l] (.sl l z o n) (.sl 4 z o n):=by
 refine⟨fun E nx w v hv=>?_⟩
 cases hv with
 | sl _ _ _ _ ad cap hl hc hm ha h0=>exact .sl _ _ _ _ _ _ (by simp) hc hm ha h0
theorem nu:Fun TC 5 0 [] [] 5 (.ptr 0 0) (aN (gOf fun _=>.none) Dir.M0 (a7 0) (dA 0 (fun _=>[]) (eY 0 2 1 0 1 true)) 0 1):=rC
theorem aa.fn5{C:Cx}{nt:NT}{nx:Nat}{fr:List (Nat×SV)}{hp:List (Nat×Option Blk)}{g:Nat}{args:List SV}{k:St→SV→Prop}{m':Nat}{args0:List SV}{H H':List (Nat×Option Blk)}{r:SV}{l:Nat}(h:Fun C g 5 args0 H m' r H')
  (hh:aP hp [0,1,2,3,l] H) (ha:aC [0,1,2,3,l] args args0) (hd:bR [0,1,2,3,l]=true) (hlive:dl H 5=true) (hkeys:dm H' 5=true) (hlt:ce H' m'=true)
  (hk:k ⟨nt,nx+(m'-5),fr,aU (πf [0,1,2,3,l] nx) hp H'⟩ (kR (πf [0,1,2,3,l] nx) r)):aa C ⟨nt,nx,fr,hp⟩ g args k :=
 .fn h _ rfl hd hlive hkeys hlt ha hh hk
namespace Dir
theorem cmpS:∀a:List Int,aE a a=0
 | []=>rfl
 | x::r=>by simp only[aE];rw[if_neg (by omega),if_neg (by omega)];exact cmpS r
theorem cmpEq:∀{a b:List Int},aE a b=0→a=b
 | [],[],_=>rfl
 | [],_::_,h=>by simp[aE]at h
 | _::_,[],h=>by simp[aE]at h
 | x::a,y::b,h=>by
  simp only[aE]at h
  split at h
  ·omega
  ·split at h
   ·omega
   ·rw[cmpEq h,show x=y by omega]
theorem gA:∀a b:List Int,aE b a=- aE a b
 | [],[]=>rfl
 | [],_::_=>rfl
 | _::_,[]=>rfl
 | x::a,y::b=>by
  simp only[aE]
  by_cases h1:x<y
  ·rw[if_neg (by omega),if_pos h1,if_pos h1];rfl
  ·by_cases h2:y<x
   ·rw[if_pos h2,if_neg h1,if_pos h2]
   ·rw[if_neg h2,if_neg h1,if_neg h1,if_neg h2];exact gA a b
theorem cmpTr:∀{a b c:List Int},aE a b<0→aE b c<0→aE a c<0
 | [],[],_,h,_=>by simp[aE]at h
 | [],_::_,[],_,h=>by simp[aE]at h
 | [],_::_,_::_,_,_=>by simp[aE]
 | _::_,[],_,h,_=>by simp[aE]at h
 | _::_,_::_,[],_,h=>by simp[aE]at h
 | x :: a,y::b,z::c,h1,h2=>by
  simp only[aE]at h1 h2⊢
  by_cases e1:x<y
  ·by_cases e2:y<z
   ·rw[if_pos (by omega)];omega
   ·by_cases e3:z<y
    ·rw[if_neg e2,if_pos e3]at h2;omega
    ·rw[if_pos (by omega)];omega
  ·by_cases e2:y<x
   ·rw[if_neg e1,if_pos e2]at h1;omega
   ·rw[if_neg e1,if_neg e2]at h1
    by_cases e3:y<z
    ·rw[if_pos (by omega)];omega
    ·by_cases e4:z<y
     ·rw[if_neg e3,if_pos e4]at h2;omega
     ·rw[if_neg e3,if_neg e4]at h2
      rw[if_neg (by omega),if_neg (by omega)]
      exact cmpTr h1 h2
theorem oq{lt:Nat→Bool}{n:Nat}(mono:∀i j,i≤j→j<n→lt j=true→lt i=true):∀(q i j:Nat),i≤j→j≤n→j-i<q→(∀k,k<i→lt k=true)→(∀k,j≤k→k<n→lt k=false) →
  (∀k,k<bsF lt q i j→lt k=true)∧∀k,bsF lt q i j≤k→k<n→lt k=false
 | 0,i,j,_,_,h,_,_=>by omega
 | q+1,i,j,h1,h2,h3,h4,h5=>by
  unfold bsF
  by_cases hij:i<j
  ·rw[if_pos hij]
   by_cases hl:lt ((i+j)/2)=true
   ·rw[if_pos hl]
    exact oq mono q _ _ (by omega) h2 (by omega) (fun k hk=>mono k ((i+j)/2) (by omega) (by omega) hl) h5
   ·rw[if_neg hl]
    refine oq mono q _ _ (by omega) (by omega) (by omega) h4 (fun k hk hkn=>?_)
    cases hlk:lt k with
    | false=>rfl
    | true=>exact absurd (mono _ k hk hkn hlk) hl
  ·rw[if_neg hij]
   exact⟨h4,fun k hk hkn=>h5 k (by omega) hkn⟩
def srt(h:List Ent):Prop:=h.Pairwise fun a b=>aE a.key b.key<0
theorem srt.at{h:List Ent}(s:srt h){i j:Nat}(hij:i<j)(hj:j<h.length):aE (h.getD i default).key (h.getD j default).key<0:=by
 rw[Q1,Q1,Q0 hj,Q0 (by omega:i<h.length)]
 exact List.pairwise_iff_getElem.1 s i j (by omega) hj hij
theorem dQ{h:List Ent}{i:Nat}(hi:i<h.length):h.getD i default∈h:=by
 rw[Q1,Q0 hi];exact Q14 hi
theorem at_mem{h:List Ent}{e:Ent}(he:e∈h):∃i,i<h.length∧h.getD i default=e:=by
 obtain⟨i,hi,rfl⟩:=List.getElem_of_mem he
 exact⟨i,hi,by rw[Q1,Q0 hi];rfl⟩
theorem srt.uniq{h:List Ent}(s:srt h){a b:Ent}(ha:a∈h)(hb:b∈h)(e:a.key=b.key):a=b:=by
 obtain⟨i,hi,rfl⟩:=at_mem ha
 obtain⟨j,hj,rfl⟩:=at_mem hb
 rcases Nat.lt_trichotomy i j with hlt|rfl|hlt
 ·have:=s.at hlt hj;rw[e,cmpS]at this;omega
 ·rfl
 ·have:=s.at hlt hi;rw[e,cmpS]at this;omega
def lk(h:List Ent)(k:List Int):Option Int:=(h.find? fun e=>decide (e.key=k)).map (·.val)
theorem aH{h:List Ent}(s:srt h){k:List Int}{v:Int}:lk h k=some v↔(⟨k,v⟩:Ent)∈h:=by
 constructor
 ·intro e
  unfold lk at e
  obtain⟨x,hx,rfl⟩:=Option.map_eq_some_iff.1 e
  have h1:=List.mem_of_find?_eq_some hx
  have h2:x.key=k:=by simpa using List.find?_some hx
  subst h2;exact h1
 ·intro hm
  unfold lk
  cases e:h.find? (fun e=>decide (e.key=k))with
  | none=>rw[List.find?_eq_none]at e;exact absurd (by simp) (e _ hm)
  | some x =>
   have h1:=List.mem_of_find?_eq_some e
   have h2:x.key=k:=by simpa using List.find?_some e
   rw[s.uniq h1 hm h2];rfl
theorem j5{h:List Ent}(s:srt h){e:Ent}(he:e∈h):lk h e.key=some e.val:=(aH s).2 he
theorem j6{h:List Ent}{k:List Int}:lk h k=none↔∀e∈h,e.key≠k:=by unfold lk;rw[Option.map_eq_none_iff,List.find?_eq_none];simp
theorem b8{a b:Option Int}(h:∀v,a=some v↔b=some v):a=b:=by
 cases a with
 | none=>cases b with
  | none=>rfl
  | some v=>exact absurd ((h v).2 rfl) (by simp)
 | some v=>exact((h v).1 rfl).symm
theorem fq:∀{a b:List Ent},srt a→srt b→(∀k,lk a k=lk b k)→a=b
 | [],[],_,_,_=>rfl
 | [],y::b,_,hb,h=>by have:=(h y.key).symm.trans rfl;rw[j5 hb (by simp)]at this;simp[lk]at this
 | x::a,[],ha,_,h=>by have:=(h x.key);rw[j5 ha (by simp)]at this;simp[lk]at this
 | x :: a,y::b,ha,hb,h=>by
  have ha':=List.pairwise_cons.1 ha
  have hb':=List.pairwise_cons.1 hb
  have h1:(⟨x.key,x.val⟩:Ent)∈y::b:=(aH hb).1 (by rw[← h];exact j5 ha (by simp))
  have h2:(⟨y.key,y.val⟩:Ent)∈x::a:=(aH ha).1 (by rw[h];exact j5 hb (by simp))
  have e:x=y:=by
   rcases Q22 h1 with h1|h1
   ·exact h1
   ·rcases Q22 h2 with h2|h2
    ·exact h2.symm
    ·have g1:=hb'.1 _ h1
     have g2:=ha'.1 _ h2
     rw[gA]at g1;dsimp only at g1 g2;omega
  subst e
  congr 1
  refine fq ha'.2 hb'.2 fun k=>b8 fun v=>?_
  rw[aH ha'.2,aH hb'.2]
  have g:=h k
  constructor
  ·intro hm
   have g1:lk (x::a) k=some v:=(aH ha).2 (List.mem_cons_of_mem _ hm)
   rw[g]at g1
   rcases Q22 ((aH hb).1 g1)with e|e
   ·have:=ha'.1 _ hm;rw[← e,cmpS]at this;omega
   ·exact e
  ·intro hm
   have g1:lk (x::b) k=some v:=(aH hb).2 (List.mem_cons_of_mem _ hm)
   rw[← g]at g1
   rcases Q22 ((aH ha).1 g1)with e|e
   ·have:=hb'.1 _ hm;rw[← e,cmpS]at this;omega
   ·exact e
theorem rX{h:List Ent}(s:srt h)(k:List Int):(∀i,i<aV h k→aE (h.getD i default).key k<0)∧∀i,aV h k≤i→i<h.length→¬aE (h.getD i default).key k<0:=by
 have:=oq (lt:=fun i=>decide (aE (h.getD i default).key k<0)) (n:=h.length) (fun i j hij hj hlt=>by
  simp only[decide_eq_true_eq]at hlt⊢
  by_cases e:i=j
  ·subst e;exact hlt
  ·exact cmpTr (s.at (by omega) hj) hlt) (h.length+1) 0 h.length (Nat.zero_le _) (Q4 _) (by omega) (fun k hk=>by omega) (fun k hk hkn=>by omega)
 refine⟨fun i hi=>?_,fun i hi hl=>?_⟩
 ·simpa using this.1 i hi
 ·simpa using this.2 i hi hl
theorem iu{h:List Ent}{k:List Int}:dr h k=true↔aV h k<h.length∧(h.getD (aV h k) default).key=k:=by
 unfold dr
 rw[Q5,decide_eq_true_eq,decide_eq_true_eq]
 exact⟨fun⟨a,b⟩=>⟨a,cmpEq b⟩,fun⟨a,b⟩=>⟨a,by rw[b,cmpS]⟩⟩
theorem nF{h:List Ent}(s:srt h){k:List Int}(e:dr h k=true):lk h k=some (h.getD (aV h k) default).val:=by
 obtain⟨h1,h2⟩:=iu.1 e
 have:=j5 s (dQ h1)
 rwa [h2]at this
theorem j9{h:List Ent}(s:srt h){k:List Int}(e:dr h k=false):lk h k=none:=by
 rw[j6]
 intro x hx hk
 obtain⟨i,hi,rfl⟩:=at_mem hx
 obtain⟨p1,p2⟩:=rX s k
 by_cases h1:i<aV h k
 ·have:=p1 i h1;rw[hk,cmpS]at this;omega
 ·by_cases h2:i=aV h k
  ·rw[iu.2 ⟨by omega,by rw[← h2];exact hk⟩]at e;cases e
  ·have h3:=s.at (i:=aV h k) (j:=i) (by omega) hi
   rw[hk]at h3
   exact p2 _ (Q4 _) (by omega) h3
theorem getD_some{α:Type}[Inhabited α]{l:List α}{i:Nat}(hi:i<l.length):l.getD i default=l[i]:=by
 rw[Q1,Q0 hi];rfl
theorem mL{h:List Ent}(H:∀i j,i<j→j<h.length→aE (h.getD i default).key (h.getD j default).key<0):srt h :=
 List.pairwise_iff_getElem.2 fun i j hi hj hij=>by
  have:=H i j hij hj
  rwa [getD_some hi,getD_some hj]at this
theorem mem_ins{h:List Ent}{i:Nat}{x e:Ent}:e∈cH h i x↔e=x∨e∈h:=by
 unfold cH
 rw[List.mem_append,List.mem_append,List.mem_singleton]
 constructor
 ·rintro((a|a)|a)
  ·exact .inr (List.mem_of_mem_take a)
  ·exact .inl a
  ·exact .inr (List.mem_of_mem_drop a)
 ·rintro(a|a)
  ·exact .inl (.inr a)
  ·rw[← List.take_append_drop i h]at a
   rcases List.mem_append.1 a with a|a
   ·exact .inl (.inl a)
   ·exact .inr a
theorem ins_ok{h:List Ent}(s:srt h){k:List Int}{v:Int}(e:dr h k=false):srt (cH h (aV h k) ⟨k,v⟩)∧∀q,lk (cH h (aV h k) ⟨k,v⟩) q=if q=k then some v else lk h q:=by
 have hp:=jW h k
 obtain⟨p1,p2⟩:=rX s k
 have hn:=j6.1 (j9 s e)
 have s':srt (cH h (aV h k) ⟨k,v⟩):=by
  refine mL fun i j hij hj=>?_
  rw[bz _ _ _ hp]at hj
  rw[c9 _ _ _ hp,c9 _ _ _ hp]
  by_cases h1:j<aV h k
  ·rw[if_pos h1,if_pos (by omega)];exact s.at hij (by omega)
  ·rw[if_neg h1]
   by_cases h2:j=aV h k
   ·rw[if_pos h2,if_pos (by omega)];exact p1 i (by omega)
   ·rw[if_neg h2]
    have h3:0<aE (h.getD (j-1) default).key k:=by
     have h4:=p2 (j-1) (by omega) (by omega)
     have h5:aE (h.getD (j-1) default).key k≠0:=fun e0=>hn _ (dQ (by omega)) (cmpEq e0)
     omega
    by_cases h6:i<aV h k
    ·rw[if_pos h6];exact s.at (by omega) (by omega)
    ·rw[if_neg h6]
     by_cases h7:i=aV h k
     ·rw[if_pos h7];rw[gA];dsimp only;omega
     ·rw[if_neg h7];exact s.at (by omega) (by omega)
 refine⟨s',fun q=>b8 fun x=>?_⟩
 rw[aH s',mem_ins]
 by_cases hq:q=k
 ·subst hq
  rw[if_pos rfl]
  constructor
  ·rintro(h1|h1)
   ·simp only[Ent.mk.injEq]at h1;rw[h1.2]
   ·exact absurd rfl (hn _ h1)
  ·rintro h1;cases h1;exact .inl rfl
 ·rw[if_neg hq,aH s]
  constructor
  ·rintro(h1|h1)
   ·simp only[Ent.mk.injEq]at h1;exact absurd h1.1 hq
   ·exact h1
  ·exact .inr
theorem kK{h:List Ent}{p i:Nat}{x:Ent}(hp:p<h.length):(h.set p x).getD i default=if i=p then x else h.getD i default:=by
 rw[Q1,Q1,List.getElem?_set]
 by_cases e:p=i
 ·subst e;rw[if_pos rfl,if_pos rfl,if_pos hp];rfl
 ·rw[if_neg e,if_neg (by omega)]
theorem set_ok{h:List Ent}(s:srt h){k:List Int}{v:Int}(e:dr h k=true):srt (h.set (aV h k) ⟨(h.getD (aV h k) default).key,v⟩)∧∀q,lk (h.set (aV h k) ⟨(h.getD (aV h k) default).key,v⟩) q=if q=k then some v else lk h q:=by
 obtain⟨hp,hk⟩:=iu.1 e
 rw[hk]
 have key:∀i,((h.set (aV h k) ⟨k,v⟩).getD i default).key=(h.getD i default).key:=fun i=>by
  rw[kK hp]
  by_cases e1:i=aV h k
  ·rw[if_pos e1,e1,hk]
  ·rw[if_neg e1]
 have s':srt (h.set (aV h k) ⟨k,v⟩):=mL fun i j hij hj=>by
  rw[key,key];rw[List.length_set]at hj;exact s.at hij hj
 refine⟨s',fun q=>b8 fun x=>?_⟩
 rw[aH s']
 have hm:∀z:Ent,z∈h.set (aV h k) ⟨k,v⟩↔z=⟨k,v⟩∨(z∈h∧z.key≠k):=fun z=>by
  constructor
  ·intro hz
   obtain⟨i,hi,rfl⟩:=at_mem hz
   rw[List.length_set]at hi
   rw[kK hp]
   by_cases e1:i=aV h k
   ·rw[if_pos e1];exact .inl rfl
   ·rw[if_neg e1]
    refine .inr ⟨dQ hi,fun e2=>?_⟩
    rcases Nat.lt_or_ge i (aV h k)with h1|h1
    ·have:=s.at h1 hp;rw[e2,hk,cmpS]at this;omega
    ·have:=s.at (i:=aV h k) (j:=i) (by omega) hi;rw[e2,hk,cmpS]at this;omega
  ·rintro(rfl|⟨h1,h2⟩)
   ·have:=dQ (h:=h.set (aV h k) ⟨k,v⟩) (i:=aV h k) (by rw[List.length_set];exact hp)
    rwa [kK hp,if_pos rfl]at this
   ·obtain⟨i,hi,rfl⟩:=at_mem h1
    have e1:i≠aV h k:=fun e1=>h2 (by rw[e1,hk])
    have:=dQ (h:=h.set (aV h k) ⟨k,v⟩) (i:=i) (by rw[List.length_set];exact hi)
    rwa [kK hp,if_neg e1]at this
 rw[hm]
 by_cases hq:q=k
 ·subst hq
  rw[if_pos rfl]
  constructor
  ·rintro(h1|⟨_,h1⟩)
   ·simp only[Ent.mk.injEq]at h1;rw[h1.2]
   ·exact absurd rfl h1
  ·rintro h1;cases h1;exact .inl rfl
 ·rw[if_neg hq,aH s]
  constructor
  ·rintro(h1|⟨h1,_⟩)
   ·simp only[Ent.mk.injEq]at h1;exact absurd h1.1 hq
   ·exact h1
  ·exact fun h1=>.inr ⟨h1,hq⟩
theorem del_ok{h:List Ent}(s:srt h){k:List Int}(e:dr h k=true):srt (cj h (aV h k))∧∀q,lk (cj h (aV h k)) q=if q=k then none else lk h q:=by
 obtain⟨hp,hk⟩:=iu.1 e
 have s':srt (cj h (aV h k)):=mL fun i j hij hj=>by
  rw[bD _ _ hp]at hj
  rw[bL _ _ hp,bL _ _ hp]
  by_cases h1:j<aV h k
  ·rw[if_pos h1,if_pos (by omega)];exact s.at hij (by omega)
  ·rw[if_neg h1]
   by_cases h2:i<aV h k
   ·rw[if_pos h2];exact s.at (by omega) (by omega)
   ·rw[if_neg h2];exact s.at (by omega) (by omega)
 have hm:∀z:Ent,z∈cj h (aV h k)↔z∈h∧z.key≠k:=fun z=>by
  constructor
  ·intro hz
   obtain⟨i,hi,rfl⟩:=at_mem hz
   rw[bD _ _ hp]at hi
   rw[bL _ _ hp]
   by_cases h1:i<aV h k
   ·rw[if_pos h1]
    refine⟨dQ (by omega),fun e2=>?_⟩
    have:=s.at h1 hp;rw[e2,hk,cmpS]at this;omega
   ·rw[if_neg h1]
    refine⟨dQ (by omega),fun e2=>?_⟩
    have:=s.at (i:=aV h k) (j:=i+1) (by omega) (by omega);rw[e2,hk,cmpS]at this;omega
  ·rintro⟨h1,h2⟩
   obtain⟨i,hi,rfl⟩:=at_mem h1
   have e1:i≠aV h k:=fun e1=>h2 (by rw[e1,hk])
   rcases Nat.lt_or_ge i (aV h k)with h3|h3
   ·have:=dQ (h:=cj h (aV h k)) (i:=i) (by rw[bD _ _ hp];omega)
    rwa [bL _ _ hp,if_pos h3]at this
   ·have:=dQ (h:=cj h (aV h k)) (i:=i-1) (by rw[bD _ _ hp];omega)
    rwa [bL _ _ hp,if_neg (by omega),show i-1+1=i by omega]at this
 refine⟨s',fun q=>b8 fun x=>?_⟩
 rw[aH s',hm]
 by_cases hq:q=k
 ·subst hq
  rw[if_pos rfl]
  constructor
  ·rintro⟨_,h1⟩;exact absurd rfl h1
  ·intro h1;cases h1
 ·rw[if_neg hq,aH s]
  exact⟨fun h1=>h1.1,fun h1=>⟨h1,hq⟩⟩
def rJ(c:Kc)(o:Option Int):Res:=if c.op=2 then⟨true,0,c.val⟩else match o with|none=>⟨true,7,0⟩|some v=>⟨true,0,v⟩
def newE(c:Kc)(o:Option Int):Option Int:=if c.op=2 then some c.val else if c.op=3 then none else o
theorem fnd_inl{c:Kc}{h:List Ent}(s:srt h)(hop:1≤c.op∧c.op≤3){r:Res}(e:dG c h=.inl r):r=rJ c (lk h c.key)∧newE c (lk h c.key)=lk h c.key:=by
 unfold dG at e
 unfold rJ newE
 by_cases h1:c.op≠2∧dr h c.key=false
 ·rw[if_pos h1]at e
  cases e
  rw[j9 s h1.2,if_neg h1.1,if_neg h1.1]
  exact⟨rfl,by split<;>rfl⟩
 ·rw[if_neg h1]at e
  by_cases h2:c.op=1
  ·rw[if_pos h2]at e
   cases e
   have h3:dr h c.key=true:=by
    cases h4:dr h c.key with
    | true=>rfl
    | false=>exact absurd ⟨by omega,h4⟩ h1
   rw[nF s h3,if_neg (by omega),if_neg (by omega),if_neg (by omega)]
   exact⟨rfl,rfl⟩
  ·rw[if_neg h2]at e
   split at e
   ·cases e
   ·split at e<;>cases e
theorem ki{c:Kc}{h m:List Ent}{n:Int}(s:srt h)(hop:1≤c.op∧c.op≤3)(e:dG c h=.inr (m,n)) :
  rJ c (lk h c.key)=⟨true,0,n⟩∧srt m∧∀q,lk m q=if q=c.key then newE c (lk h c.key)else lk h q:=by
 unfold dG at e
 unfold rJ newE
 by_cases h1:c.op≠2∧dr h c.key=false
 ·rw[if_pos h1]at e;cases e
 ·rw [if_neg h1]at e
  by_cases h2:c.op=1
  ·rw[if_pos h2]at e;cases e
  ·rw[if_neg h2]at e
   by_cases h3:c.op=3
   ·rw[if_pos h3]at e
    cases e
    have h4:dr h c.key=true:=by
     cases h5:dr h c.key with
     | true=>rfl
     | false=>exact absurd ⟨by omega,h5⟩ h1
    rw[nF s h4,if_neg (by omega),if_neg (by omega),if_pos h3]
    exact⟨rfl,del_ok s h4⟩
   ·rw[if_neg h3]at e
    have h5:c.op=2:=by omega
    rw[if_pos h5,if_pos h5]
    cases h6:dr h c.key with
    | true =>
     rw[h6,if_pos rfl,if_pos h5]at e
     cases e
     exact⟨rfl,set_ok s h6⟩
    | false =>
     rw[h6,if_neg (by decide)]at e
     cases e
     exact⟨rfl,ins_ok s h6⟩
theorem nN{c:Kc}{h m:List Ent}{n:Int}(s:srt h)(hop:1≤c.op∧c.op≤3)(e:dG c h=.inr (m,n)){x:Ent}(hx:x∈m):x.key=c.key∨∃y∈h,y.key=x.key:=by
 obtain⟨_,h1,h2⟩:=ki s hop e
 by_cases hk:x.key=c.key
 ·exact .inl hk
 ·have h3:=j5 h1 hx
  rw[h2,if_neg hk]at h3
  exact .inr ⟨_,(aH s).1 h3,rfl⟩
end Dir
namespace Dir
def home(W:Nat→Int)(s:Int):Nat :=
 if W 0%2=0∨W (plc (W 0/2).toNat s)<FZ∨W (plc ((W 0/2).toNat+1) s)=0 then plc (W 0/2).toNat s else plc ((W 0/2).toNat+1) s
def own(M:Mc)(k:List Int):Option Int:=lk (M.Hd (home M.W (ay k))) k
theorem b7(lv:Nat)(s:Int):1≤plc lv s:=by have:=pow_pos2 lv;unfold plc;omega
theorem plc_ne(lv:Nat)(s t:Int):plc lv s≠plc (lv+1) t:=by
 obtain⟨i,h1,h2⟩:=plc_sh lv s
 obtain⟨j,h3,h4⟩:=plc_sh (lv+1) t
 intro e;rw[h2,h4]at e
 have:=gG h1 h3 e;omega
theorem l6{W W':Nat→Int}(h0:W' 0=W 0)(h:∀p,1≤p→(W' p<FZ↔W p<FZ)∧(W' p=0↔W p=0))(s:Int):home W' s=home W s:=by
 unfold home
 simp only[h0,(h _ (b7 _ s)).1,(h _ (b7 _ s)).2]
theorem Iw.plc{W:Nat→Int}{B:Int}(h:Iw W B){lv:Nat}(hl:lv≤4)(s:Int):okW (W 0) lv (W (plc lv s)) (W (plc (lv-1) s)) B∨lv=0∧okW (W 0) lv (W (Dir.plc lv s)) (W (Dir.plc 0 s)) B:=by
 obtain⟨i,h1,h2⟩:=plc_sh lv s
 have ho:=h.sh hl h1
 rcases Nat.eq_zero_or_pos lv with e|e
 ·subst e
  obtain rfl:i=0:=by simp at h1;omega
  have hp:Dir.plc 0 s=1:=by rw[h2]
  right;refine⟨rfl,?_⟩
  rw[hp];exact ho
 ·left
  have h3:=ii (lv-1) s
  rw[Nat.sub_add_cancel e,h2,Nat.add_sub_cancel_left]at h3
  unfold lZ at ho
  rw[h3,← h2]at ho
  exact ho
theorem Iw.at0{W:Nat→Int}{B:Int}(h:Iw W B){lv:Nat}(hl:lv≤4)(s:Int):∃low,okW (W 0) lv (W (Dir.plc lv s)) low B:=by
 rcases h.plc hl s with h|⟨_,h⟩<;>exact⟨_,h⟩
theorem Iw.at1{W:Nat→Int}{B:Int}(h:Iw W B){lv:Nat}(hl:lv≤3)(s:Int):okW (W 0) (lv+1) (W (Dir.plc (lv+1) s)) (W (Dir.plc lv s)) B:=by
 rcases h.plc (lv:=lv+1) (by omega) s with h|⟨h,_⟩
 ·exact h
 ·omega
theorem nD{W:Nat→Int}{B:Int}(h:Iw W B){lv:Nat}(hl:lv≤4){s:Int}(hv:0<W (plc lv s)∧W (plc lv s)<FZ):home W s=plc lv s:=by
 obtain⟨low,ho⟩:=h.at0 hl s
 have hd:=h.d
 unfold home
 by_cases e1:W 0=2*lv
 ·rw[if_pos (.inl (by omega)),show(W 0/2).toNat=lv by omega]
 ·by_cases e2:W 0=2*lv+1
  ·rw[show(W 0/2).toNat=lv by omega,if_pos (.inr (.inl hv.2))]
  ·have e3:W 0+1=2*lv:=by unfold okW at ho;omega
   obtain⟨l,rfl⟩:∃l,lv=l+1:=⟨lv-1,by omega⟩
   have ho1:=h.at1 (by omega:l≤3) s
   rw[show(W 0/2).toNat=l by omega]
   rw[if_neg]
   unfold okW at ho1;omega
theorem j8{W:Nat→Int}{B:Int}(h:Iw W B){lv i:Nat}(hl:lv≤3)(hi:i<2^lv)(hd:W 0=2*lv+1)(hv:0<W (2^lv+i)∧W (2^lv+i)<FZ)(s:Int) :
  home (upd W (2^lv+i) (W (2^lv+i)+FZ)) s=home W s:=by
 have hw:=sh_16 hl hi
 have e0:upd W (2^lv+i) (W (2^lv+i)+FZ) 0=W 0:=a6 _ _ (by omega)
 have ho1:=h.at1 hl s
 unfold home
 rw[e0,show(W 0/2).toNat=lv by omega]
 by_cases e:plc lv s=2^lv+i
 ·have e1:plc (lv+1) s≠2^lv+i:=by rw[← e];exact(plc_ne lv s s).symm
  have hz:W (plc (lv+1) s)=0:=by
   rw[e]at ho1
   unfold okW at ho1;omega
  rw[if_pos (.inr (.inr (by rw[a6 _ _ e1];exact hz))),if_pos (.inr (.inr hz))]
 ·rw[a6 _ _ e]
  by_cases e1:plc (lv+1) s=2^lv+i
  ·exfalso
   obtain⟨j,h3,h4⟩:=plc_sh (lv+1) s
   rw[h4]at e1
   have:=gG h3 hi e1;omega
  ·rw[a6 _ _ e1]
theorem rf{W:Nat→Int}{B:Int}(h:Iw W B){lv i:Nat}(hl:lv≤3)(hi:i<2^(lv+1))(hd:2*(lv:Int)+1≤W 0)(hz:W (2^(lv+1)+i)=0)(hlow:FZ≤W (2^lv+i%2^lv))(s:Int) :
  (plc (lv+1) s=2^(lv+1)+i→home W s=2^lv+i%2^lv∧home (upd W (2^(lv+1)+i) 1) s=2^(lv+1)+i) ∧
  (plc (lv+1) s≠2^(lv+1)+i→home (upd W (2^(lv+1)+i) 1) s=home W s∧home W s≠2^(lv+1)+i):=by
 have hw:=sh_32 (by omega:lv+1≤4) hi
 have ho:=h.sh (by omega:lv+1≤4) hi
 have hD:W 0=2*lv+1:=by
  have hF:FZ=4611686018427387904:=rfl
  rw[hz]at ho;unfold okW at ho;omega
 have e0:upd W (2^(lv+1)+i) 1 0=W 0:=a6 _ _ (by omega)
 have hp:plc lv s≠2^(lv+1)+i:=fun e=>by
  obtain⟨j,h3,h4⟩:=plc_sh lv s
  rw[h4]at e
  have:=gG h3 hi e;omega
 unfold home
 rw[e0,show(W 0/2).toNat=lv by omega,a6 _ _ hp]
 constructor
 ·intro e
  have h3:=ii lv s
  rw[e,Nat.add_sub_cancel_left]at h3
  rw[e,aF,if_pos (.inr (.inr hz)),if_neg (by rw[← h3];have hF:FZ=4611686018427387904:=rfl;omega)]
  exact⟨h3.symm,rfl⟩
 ·intro e
  rw[a6 _ _ e]
  refine⟨rfl,?_⟩
  split
  ·exact hp
  ·exact e
theorem l7{W:Nat→Int}{B:Int}(h:Iw W B){k:Nat}(hk:k≤3)(e:W 0=2*k)(s:Int):home (upd W 0 (2*k+1)) s=home W s:=by
 obtain⟨low,ho⟩:=h.at0 (by omega:k≤4) s
 have hp:=b7 k s
 unfold home
 have hx:W (plc k s)<FZ:=by unfold okW at ho;omega
 rw[aF,show((2*(k:Int)+1)/2).toNat=k by omega,show(W 0/2).toNat=k by omega,if_pos (.inr (.inl (by rw[a6 _ _ (by omega)];exact hx))),if_pos (.inl (by omega:W 0%2=0))]
theorem rg{W:Nat→Int}{k:Nat}(e:W 0=2*k+1)(hg:Cw.gone W k (2^k))(s:Int):home (upd W 0 (2*k+2)) s=home W s:=by
 unfold home
 rw[aF,show((2*(k:Int)+2)/2).toNat=k+1 by omega,show(W 0/2).toNat=k by omega,if_pos (.inl (by omega:(2*(k:Int)+2)%2=0)),if_neg]
 obtain⟨i,h1,h2⟩:=plc_sh k s
 have g:=hg i h1
 have hq:W (plc (k+1) s)≠0:=by
  obtain⟨j,h3,h4⟩:=plc_sh (k+1) s
  rw[h4]
  by_cases hlt:j<2^k
  ·exact(hg j hlt).2.1
  ·have hj:j-2^k<2^k:=by rw[Nat.pow_succ]at h3;omega
   have:=(hg _ hj).2.2
   rwa [Nat.sub_add_cancel (by omega)]at this
 rw[h2]
 omega
def Ih(M:Mc):Prop:=∀lv i,lv≤4→i<2^lv→srt (M.Hd (2^lv+i))∧∀e∈M.Hd (2^lv+i),ay e.key%2^lv=i
def okOp(c:Kc):Prop:=1≤c.op∧c.op≤3
def Ch(M:Mc):CS→Prop
 | .none=>True
 | .k0 c=>okOp c
 | .kE c w=>okOp c∧∃lv,lv≤4∧w=plc lv (ay c.key)
 | .kF c _ _=>okOp c
 | .kG c _ w v h=>okOp c∧v≤M.W w∧(M.W w=v→M.Hd w=h)
 | .kH c lv _ h=>okOp c∧M.Hd (plc (lv-1) (ay c.key))=h
 | .kL c lv _ h=>okOp c∧M.Hd (plc (lv-1) (ay c.key))=h
 | .kS c w v m n=>okOp c∧(∃lv,lv≤4∧w=plc lv (ay c.key))∧v≤M.W w∧(M.W w=v→dG c (M.Hd w)=.inr (m,n))
 | .s0=>True
 | .sM _=>True
 | .sF _ _=>True
 | .sG lv i v h=>v≤M.W (2^lv+i)∧(M.W (2^lv+i)=v→M.Hd (2^lv+i)=h)
 | .sH lv i _ h=>M.Hd (2^lv+i)=h
 | .sL lv i _ h=>M.Hd (2^lv+i)=h
 | .sV _=>True
structure oL(M M':Mc):Prop where
 le:∀w,M.W w≤M'.W w
 hd:∀w,1≤w→M'.W w=M.W w→M'.Hd w=M.Hd w
 fz:∀w,FZ≤M.W w→M'.W w=M.W w
theorem oL.refl(M:Mc):oL M M:=⟨fun _=>Int.le_refl _,fun _ _ _=>rfl,fun _ _=>rfl⟩
theorem oL.set{M:Mc}{w:Nat}{x:Int}{h:List Ent}(h1:M.W w<x)(h2:M.W w<FZ):oL M (M.set w x h):=by
 refine⟨fun j=>?_,fun j _ hj=>?_,fun j hj=>?_⟩
 ·show _≤upd M.W w x j
  unfold upd;split
  ·rename_i e;subst e;omega
  ·omega
 ·replace hj:upd M.W w x j=M.W j:=hj
  show upd M.Hd w h j=_
  unfold upd at hj⊢
  split at hj
  ·rename_i e;subst e;omega
  ·rename_i e;rw[if_neg e]
 ·show upd M.W w x j=_
  unfold upd;split
  ·rename_i e;subst e;omega
  ·rfl
theorem oL.ch{M M':Mc}(h:oL M M'){s:CS}(hc:Cw ae M.W s)(hs:Ch M s):Ch M' s:=by
 have swp:∀{w:Nat} {v:Int} {Q:List Ent→Prop},1≤w→v≤M.W w→(M.W w=v→Q (M.Hd w))→v≤M'.W w∧(M'.W w=v→Q (M'.Hd w)):=by
  intro w v Q hw h1 h2
  have h3:=h.le w
  refine⟨by omega,fun e=>?_⟩
  have e2:M.W w=v:=by omega
  rw[h.hd w hw (by omega)];exact h2 e2
 cases s with
 | none=>trivial
 | k0 c=>exact hs
 | kE c w=>exact hs
 | kF c lv w=>exact hs
 | kG c lv w v m =>
  obtain⟨a,b,d⟩:=hs
  have hw:1≤w:=by rw[hc.2.1];exact b7 _ _
  have:=swp (Q:=fun x=>x=m) hw b d
  exact⟨a,this.1,this.2⟩
 | kH c lv w m =>
  refine⟨hs.1,?_⟩
  have:=h.hd _ (b7 _ _) (h.fz _ hc.2.2.2.2)
  exact this.trans hs.2
 | kL c lv w m =>
  refine⟨hs.1,?_⟩
  have:=h.hd _ (b7 _ _) (h.fz _ hc.2.2.2.2)
  exact this.trans hs.2
 | kS c w v m n =>
  obtain⟨a,b,d,e⟩:=hs
  have:=swp (Q:=fun x=>dG c x=.inr (m,n)) hc.1 d e
  exact⟨a,b,this.1,this.2⟩
 | s0=>trivial
 | sM lv=>trivial
 | sF lv i=>trivial
 | sG lv i v m =>
  have hw:1≤2^lv+i:=by have:=pow_pos2 lv;omega
  exact swp (Q:=fun x=>x=m) hw hs.1 hs.2
 | sH lv i up m =>
  have hw:1≤2^lv+i:=by have:=pow_pos2 lv;omega
  show M'.Hd _=_
  rw[h.hd _ hw (h.fz _ hc.2.2.2.2.1)];exact hs
 | sL lv i up m =>
  have hw:1≤2^lv+i:=by have:=pow_pos2 lv;omega
  show M'.Hd _=_
  rw[h.hd _ hw (h.fz _ hc.2.2.2.2.1)];exact hs
 | sV lv=>trivial
def du:CS→Option Kc
 | .k0 c=>some c
 | .kE c _=>some c
 | .kF c _ _=>some c
 | .kG c _ _ _ _=>some c
 | .kH c _ _ _=>some c
 | .kL c _ _ _=>some c
 | .kS c _ _ _ _=>some c
 | _=>none
structure Eff(M:Mc)(s:CS)(M':Mc)(s':CS)(r:Res):Prop where
 mono:oL M M'
 ih:Ih M'
 ch:Ch M' s'
 no:r.done=false→r=r0∧s'≠.none∧du s'=du s∧∀k,own M' k=own M k
 yes:r.done=true→s'=.none∧match du s with
  | some c=>r=rJ c (own M c.key)∧∀k,own M' k=if k=c.key then newE c (own M c.key)else own M k
  | none=>(r=⟨true,0,0⟩∨(r=⟨true,5,0⟩∧8≤M.W 0))∧∀k,own M' k=own M k
theorem Eff.same{M:Mc}{s s':CS}(h:Ih M)(hc:Ch M s')(hn:s'≠.none)(hk:du s'=du s):Eff M s M s' r0 :=
 ⟨.refl M,h,hc,fun _=>⟨rfl,hn,hk,fun _=>rfl⟩,fun e=>by simp[r0]at e⟩
theorem Eff.calm{M M':Mc}{s s':CS}(hm:oL M M')(h:Ih M')(hc:Ch M' s')(hn:s'≠.none)(hk:du s'=du s)(ho:∀k,own M' k=own M k):Eff M s M' s' r0 :=
 ⟨hm,h,hc,fun _=>⟨rfl,hn,hk,ho⟩,fun e=>by simp[r0]at e⟩
theorem oz(c:Kc)(o:Option Int):(rJ c o).done=true:=by
 unfold rJ;split
 ·rfl
 ·split<;>rfl
theorem k9{M:Mc}{B:Int}(h:Iw M.W B){c:Kc}{w:Nat}(hw:∃lv,lv≤4∧w=plc lv (ay c.key))(hv:0<M.W w∧M.W w<FZ):home M.W (ay c.key)=w∧own M c.key=lk (M.Hd w) c.key:=by
 obtain⟨lv,hl,rfl⟩:=hw
 have:=nD h hl hv
 exact⟨this,by unfold own;rw[this]⟩
theorem Ih.word{M:Mc}(h:Ih M){w:Nat}(hw:1≤w∧w<32):srt (M.Hd w):=by
 obtain⟨lv,i,hl,hi,rfl⟩:=jL hw
 exact(h lv i hl hi).1
theorem plc_32{lv:Nat}(hl:lv≤4)(s:Int):1≤plc lv s∧plc lv s<32:=by
 obtain⟨i,h1,h2⟩:=plc_sh lv s
 rw[h2];exact sh_32 hl h1
theorem ge{M:Mc}{B:Int}(h:Iw M.W B)(hI:Ih M){c:Kc}(hop:okOp c){w:Nat}(hw:∃lv,lv≤4∧w=plc lv (ay c.key))(h0:0≤M.W w){s:CS}(hk:du s=some c) :
  Eff M s M (entered ae c w (M.W w) (M.Hd w)).1 (entered ae c w (M.W w) (M.Hd w)).2:=by
 unfold entered
 by_cases e:M.W w=0∨FZ≤M.W w
 ·rw[if_pos e]
  exact .same hI hop (by simp) (by rw[hk];rfl)
 ·rw[if_neg e]
  obtain⟨g1,g2⟩:=k9 (M:=M) h hw (by omega)
  have hs:srt (M.Hd w):=by obtain⟨lv,hl,rfl⟩:=hw;exact hI.word (plc_32 hl _)
  unfold found
  cases ef:ae.fnd c (M.Hd w)with
  | inl r =>
   have:=fnd_inl hs hop (show dG c (M.Hd w)=.inl r from ef)
   rw[← g2]at this
   refine⟨.refl M,hI,trivial,fun e=>?_,fun _=>⟨rfl,?_⟩⟩
   ·exfalso
    replace e:r.done=false:=e
    rw[this.1,oz]at e
    cases e
   ·rw[hk]
    refine⟨this.1,fun k=>?_⟩
    split
    ·rename_i ek;rw[ek,this.2]
    ·rfl
  | inr p =>
   obtain⟨m,n⟩:=p
   exact .same hI ⟨hop,hw,Int.le_refl _,fun _=>ef⟩ (by simp) (by rw[hk];rfl)
theorem Ih.set{M:Mc}(h:Ih M){lv i:Nat}(hl:lv≤4)(hi:i<2^lv){x:Int}{m:List Ent}(h1:srt m)(h2:∀e∈m,ay e.key%2^lv=i):Ih (M.set (2^lv+i) x m):=fun l j hl' hj=>by
 show srt (upd M.Hd _ _ _)∧∀e∈upd M.Hd _ _ _,_
 by_cases e:2^l+j=2^lv+i
 ·obtain⟨rfl,rfl⟩:=gG hj hi e
  rw[aF];exact⟨h1,h2⟩
 ·rw[a6 _ _ e];exact h l j hl' hj
theorem Ih.set0{M:Mc}(h:Ih M){x:Int}{m:List Ent}:Ih (M.set 0 x m):=fun l j hl' hj=>by
 show srt (upd M.Hd _ _ _)∧∀e∈upd M.Hd _ _ _,_
 rw[a6 _ _ (by have:=pow_pos2 l;omega)];exact h l j hl' hj
theorem re(W:Nat→Int)(s:Int):1≤home W s:=by unfold home;split<;>exact b7 _ _
theorem own_0{M:Mc}{x:Int}{m:List Ent}(hh:∀s,home (upd M.W 0 x) s=home M.W s)(k:List Int):own (M.set 0 x m) k=own M k:=by
 unfold own
 show lk (upd M.Hd 0 m (home (upd M.W 0 x) (ay k))) k=_
 rw[hh,a6 _ _ (by have:=re M.W (ay k);omega)]
theorem gN{M:Mc}{B:Int}(h:Iw M.W B)(hI:Ih M){lv i:Nat}(hl:lv≤3)(hi:i<2^lv)(hd:2*(lv:Int)+1≤M.W 0){v:Int}(hv:v<FZ)(e:M.W (2^lv+i)=v){m:List Ent}(hm:M.Hd (2^lv+i)=m) :
  oL M (M.set (2^lv+i) (v+FZ) m)∧Ih (M.set (2^lv+i) (v+FZ) m)∧∀k,own (M.set (2^lv+i) (v+FZ) m) k=own M k:=by
 obtain⟨g1,g2,_⟩:=fX h hl hi hd hv e
 have hF:FZ=4611686018427387904:=rfl
 have hi0:=hI lv i (by omega) hi
 refine⟨.set (by omega) (by omega),hI.set (by omega) hi (by rw[← hm];exact hi0.1) (by rw[← hm];exact hi0.2),fun k=>?_⟩
 unfold own
 show lk (upd M.Hd _ m (home (upd M.W _ (v+FZ)) (ay k))) k=_
 rw[← e,j8 h hl hi g2 (by omega)]
 congr 1
 unfold upd;split
 ·rename_i e2;rw[e2,hm]
 ·rfl
theorem sn{h:List Ent}(s:srt h)(lv i:Nat):srt (bM h lv i)∧(∀e∈bM h lv i,ay e.key%2^lv=i)∧∀k,ay k%2^lv=i→lk (bM h lv i) k=lk h k:=by
 have s':srt (bM h lv i):=List.Pairwise.filter _ s
 refine⟨s',fun e he=>by simpa[inSh]using(List.mem_filter.1 he).2,fun k hk=>b8 fun v=>?_⟩
 rw[aH s',aH s]
 unfold bM
 rw[List.mem_filter]
 exact⟨fun h=>h.1,fun h=>⟨h,by simpa[inSh]using hk⟩⟩
theorem cq{lv i:Nat}{s:Int}:plc lv s=2^lv+i↔s%2^lv=i:=by
 unfold plc
 have hp:(0:Int)<2^lv:=by exact_mod_cast pow_pos2 lv
 have h1:=Int.emod_nonneg s (by omega:(2^lv:Int)≠0)
 omega
theorem np{M:Mc}{B:Int}(h:Iw M.W B)(hI:Ih M){lv i:Nat}(hl:lv≤3)(hi:i<2^(lv+1))(hd:2*(lv:Int)+1≤M.W 0)(hz:M.W (2^(lv+1)+i)=0)(hlow:FZ≤M.W (2^lv+i%2^lv)){m:List Ent}(hm:M.Hd (2^lv+i%2^lv)=m) :
  oL M (M.set (2^(lv+1)+i) 1 (bM m (lv+1) i))∧Ih (M.set (2^(lv+1)+i) 1 (bM m (lv+1) i))∧∀k,own (M.set (2^(lv+1)+i) 1 (bM m (lv+1) i)) k=own M k:=by
 have hF:FZ=4611686018427387904:=rfl
 have hs:srt m:=by rw[← hm];exact(hI lv (i%2^lv) (by omega) (Nat.mod_lt _ (pow_pos2 lv))).1
 obtain⟨c1,c2,c3⟩:=sn hs (lv+1) i
 refine⟨.set (by omega) (by omega),hI.set (by omega) hi c1 c2,fun k=>?_⟩
 obtain⟨g1,g2⟩:=rf h hl hi hd hz hlow (ay k)
 unfold own
 show lk (upd M.Hd _ _ (home (upd M.W _ 1) (ay k))) k=_
 by_cases e:plc (lv+1) (ay k)=2^(lv+1)+i
 ·obtain⟨a,b⟩:=g1 e
  rw[b,aF,a,hm]
  exact c3 k (cq.1 e)
 ·obtain⟨a,b⟩:=g2 e
  rw[a,a6 _ _ b]
end Dir
namespace Dir
theorem low_plc{lv i:Nat}{s:Int}(e:plc (lv+1) s=2^(lv+1)+i):2^lv+i%2^lv=plc lv s:=by
 have h3:=ii lv s
 rwa [e,Nat.add_sub_cancel_left]at h3
theorem on_ne{lv i:Nat}{up:Bool}{h:List Ent}:on lv i up h≠.none:=by unfold on move;split<;>(try split)<;>simp
theorem jX{lv i:Nat}{up:Bool}{h:List Ent}:du (on lv i up h)=none:=by unfold on move;split<;>(try split)<;>rfl
theorem on_ch{M:Mc}{lv i:Nat}{up:Bool}{h:List Ent}(e:M.Hd (2^lv+i)=h):Ch M (on lv i up h):=by
 unfold on move;split
 ·split<;>trivial
 ·exact e
theorem step_eff{M:Mc}{B:Int}(h:Iw M.W B)(hB:1≤B∧B+1<FZ){s:CS}(hs:Cw ae M.W s)(hI:Ih M)(hc:Ch M s)(hn:s≠.none) :
  Eff M s (step ae M s).1 (step ae M s).2.1 (step ae M s).2.2:=by
 have hF:FZ=4611686018427387904:=rfl
 have hd:=h.d
 cases s with
 | none=>exact absurd rfl hn
 | k0 c =>
  by_cases e:M.W 0%2=0
  ·simp only[step,if_pos e]
   exact .same hI ⟨hc,_,by omega,rfl⟩ (by simp) rfl
  ·simp only[step,if_neg e]
   exact .same hI hc (by simp) rfl
 | kE c w =>
  obtain⟨hop,lv,hl,rfl⟩:=hc
  obtain⟨low,ho⟩:=h.at0 hl (ay c.key)
  exact ge h hI hop ⟨lv,hl,rfl⟩ ho.1 rfl
 | kF c lv w =>
  obtain⟨a,b,d⟩:=hs
  by_cases e:FZ≤M.W w
  ·simp only[step,if_pos e]
   exact .same hI ⟨hc,by rw[Nat.add_sub_cancel];exact congrArg M.Hd b.symm⟩ (by simp[toH]) rfl
  ·simp only[step,if_neg e]
   exact .same hI ⟨hc,Int.le_refl _,fun _=>rfl⟩ (by simp) rfl
 | kG c lv w v m =>
  obtain⟨a,b,d,e⟩:=hs
  obtain⟨hop,c1,c2⟩:=hc
  by_cases hm:M.W w=v
  ·simp only[step,if_pos hm]
   obtain⟨i,h1,h2⟩:=plc_sh lv (ae.sum c.key)
   have hb:=b
   rw[h2]at hb
   have hHd:=c2 hm
   subst hb
   obtain⟨g1,g2,g3⟩:=gN h hI a h1 d e hm hHd
   refine .calm g1 g2 ⟨hop,?_⟩ (by simp[toH]) rfl g3
   rw[Nat.add_sub_cancel]
   show upd M.Hd _ m (plc lv (ae.sum c.key))=m
   rw[h2,aF]
  ·simp only[step,if_neg hm]
   exact .same hI hop (by simp) rfl
 | kH c lv w m =>
  obtain⟨a,b,d,e,f⟩:=hs
  obtain⟨low,ho⟩:=h.at0 b (ay c.key)
  by_cases hm:M.W w=0
  ·simp only[step,if_pos hm]
   exact .same hI hc (by simp) rfl
  ·simp only[step,if_neg hm]
   refine ge h hI hc.1 ⟨lv,b,d⟩ ?_ rfl
   rw[d];exact ho.1
 | kL c lv w m =>
  obtain⟨a,b,d,e,f⟩:=hs
  obtain⟨hop,hHd⟩:=hc
  by_cases hm:M.W w=0
  ·simp only[step,if_pos hm]
   obtain⟨l,rfl⟩:∃l,lv=l+1:=⟨lv-1,by omega⟩
   obtain⟨i,h1,h2⟩:=plc_sh (l+1) (ae.sum c.key)
   rw[Nat.add_sub_cancel]at f hHd
   have hlow:=low_plc h2
   have hb:=d
   rw[h2]at hb
   subst hb
   have g:=np h hI (by omega) h1 (by omega) hm (by rw[hlow];exact f) (m:=m) (by rw[hlow];exact hHd)
   rw[Nat.add_sub_cancel_left]
   exact .calm g.1 g.2.1 ⟨hop,l+1,b,d⟩ (by simp) rfl g.2.2
  ·simp only[step,if_neg hm]
   exact .same hI ⟨hop,lv,b,d⟩ (by simp) rfl
 | kS c w v m n =>
  obtain⟨a,b,d,e⟩:=hs
  obtain⟨hop,hw,c1,c2⟩:=hc
  by_cases hm:M.W w=v
  ·simp only[step,if_pos hm]
   have hfn:=c2 hm
   obtain⟨g1,g2⟩:=k9 (M:=M) h hw (by omega)
   have hsrt:srt (M.Hd w):=hI.word ⟨a,b⟩
   have hk:=ki hsrt hop hfn
   obtain⟨lv,hl,hwe⟩:=hw
   obtain⟨i,h1,h2⟩:=plc_sh lv (ay c.key)
   have hset:Ih (M.set w (v+1) m):=by
    rw[hwe,h2]
    refine hI.set hl h1 hk.2.1 fun x hx=>?_
    rcases nN hsrt hop hfn hx with e1|⟨y,hy,e1⟩
    ·rw[e1];exact cq.1 h2
    ·rw[← e1]
     rw[hwe,h2]at hy
     exact(hI lv i hl h1).2 y hy
   refine⟨.set (by omega) (by omega),hset,trivial,fun e=>by simp at e,fun _=>⟨rfl,?_⟩⟩
   show(_=_∧∀k,_)
   rw[g2]
   refine⟨hk.1.symm,fun k=>?_⟩
   have hh:home (upd M.W w (v+1)) (ay k)=home M.W (ay k):=by
    refine l6 (a6 _ _ (by omega)) (fun p _=>?_) _
    by_cases ep:p=w
    ·subst ep
     rw[aF]
     have ho:=h.d
     have hv1:v+1<FZ:=by
      obtain⟨low,hok⟩:=h.at0 hl (ay c.key)
      rw[← hwe]at hok
      unfold okW at hok;omega
     omega
    ·rw[a6 _ _ ep];simp
   unfold own
   show lk (upd M.Hd w m (home (upd M.W w (v+1)) (ay k))) k=_
   rw[hh]
   by_cases ew:home M.W (ay k)=w
   ·rw[ew,aF,hk.2.2 k]
   ·rw[a6 _ _ ew,if_neg]
    intro e2;subst e2;exact ew g1
  ·simp only[step,if_neg hm]
   exact .same hI hop (by simp) rfl
 | s0 =>
  by_cases h1:M.W 0%2=1
  ·simp only[step,if_pos h1];exact .same hI trivial (by simp) rfl
  ·by_cases h2:M.W 0/2=4
   ·simp only[step,if_neg h1,if_pos h2]
    exact⟨.refl M,hI,trivial,fun e=>by simp at e,fun _=>⟨rfl,.inr ⟨rfl,by omega⟩,fun _=>rfl⟩⟩
   ·simp only[step,if_neg h1,if_neg h2];exact .same hI trivial (by simp) rfl
 | sM lv =>
  by_cases hm:M.W 0=2*lv
  ·simp only[step,if_pos hm]
   refine .calm (.set (by omega) (by omega)) hI.set0 trivial (by simp) rfl fun k=>own_0 (fun s=>l7 h hs hm s) k
  ·simp only[step,if_neg hm];exact .same hI trivial (by simp) rfl
 | sF lv i =>
  by_cases e:FZ≤M.W (2^lv+i)
  ·simp only[step,if_pos e];exact .same hI rfl (by simp) rfl
  ·simp only[step,if_neg e];exact .same hI ⟨Int.le_refl _,fun _=>rfl⟩ (by simp) rfl
 | sG lv i v m =>
  obtain⟨a,b,d,e,f⟩:=hs
  by_cases hm:M.W (2^lv+i)=v
  ·simp only[step,if_pos hm]
   obtain⟨g1,g2,g3⟩:=gN h hI a b d f hm (hc.2 hm)
   refine .calm g1 g2 ?_ (by simp) rfl g3
   show upd M.Hd _ m _=m
   rw[aF]
  ·simp only[step,if_neg hm];exact .same hI trivial (by simp) rfl
 | sH lv i up m =>
  by_cases hm:M.W (upW lv i up)=0
  ·simp only[step,if_pos hm];exact .same hI hc (by simp) rfl
  ·simp only[step,if_neg hm];exact .same hI (on_ch hc) on_ne jX
 | sL lv i up m =>
  obtain⟨a,b,d,e,f,g⟩:=hs
  obtain⟨j,h1,h2,h3⟩:=upW_sh (up:=up) b
  by_cases hm:M.W (upW lv i up)=0
  ·simp only[step,if_pos hm]
   rw[h2]at hm⊢
   rw[Nat.add_sub_cancel_left]
   have g:=np h hI a h1 d hm (by rw[h3];exact f) (m:=m) (by rw[h3];exact hc)
   refine .calm g.1 g.2.1 (on_ch ?_) on_ne jX g.2.2
   show upd M.Hd _ _ _=m
   rw[a6 _ _ (fun e9=>by have:=gG b h1 e9;omega)]
   exact hc
  ·simp only[step,if_neg hm];exact .same hI (on_ch hc) on_ne jX
 | sV lv =>
  obtain⟨a,b,d⟩:=hs
  by_cases hm:M.W 0=2*lv+1
  ·simp only[step,if_pos hm]
   exact⟨.set (by omega) (by omega),hI.set0,trivial,fun e=>by simp at e,fun _=>⟨rfl,.inl rfl,fun k=>own_0 (fun s=>rg hm d s) k⟩⟩
  ·simp only[step,if_neg hm]
   exact⟨.refl M,hI,trivial,fun e=>by simp at e,fun _=>⟨rfl,.inl rfl,fun _=>rfl⟩⟩
theorem Ih.zero:Ih M0:=fun lv i _ _=>⟨List.Pairwise.nil,fun e he=>by cases he⟩
end Dir
namespace Dir
def lvl(M:Mc):Nat:=(M.W 0/2).toNat
def nxt(M:Mc)(i j:Nat):List Ent:=if M.W (2^(lvl M+1)+j)=0 then bM (M.Hd (2^lvl M+i)) (lvl M+1) j else M.Hd (2^(lvl M+1)+j)
def partL(M:Mc)(i:Nat):List (List Ent):=if M.W 0%2=0∨M.W (2^lvl M+i)<FZ then[M.Hd (2^lvl M+i)]else[nxt M i i,nxt M i (i+2^lvl M)]
def allL(M:Mc):List (List Ent):=(List.range (2^lvl M)).flatMap (partL M)
def allE(M:Mc):List Ent:=(List.range (2^lvl M)).flatMap fun i=>(partL M i).flatten
theorem allE_eq(M:Mc):(allL M).flatten=allE M:=by
 unfold allL allE
 rw[List.flatMap_def,List.flatMap_def,List.flatten_flatten,List.map_map];rfl
theorem lh{lv:Nat}{s:Int}{j:Nat}(h:s%2^(lv+1)=j):s%2^lv=((j%2^lv:Nat):Int):=by
 have h1:=low_plc (cq.2 h)
 exact cq.1 h1.symm
theorem nc{lv:Nat}{s:Int}{i:Nat}(hi:i<2^lv)(h:s%2^lv=i):s%2^(lv+1)=i∨s%2^(lv+1)=((i+2^lv:Nat):Int):=by
 obtain⟨j,h1,h2⟩:=plc_sh (lv+1) s
 have h3:=cq.1 h2
 have h4:=lh h3
 rw[h]at h4
 have h5:j<2^lv*2:=by rw[← Nat.pow_succ];exact h1
 have h6:i=j%2^lv:=by omega
 rw[h3]
 by_cases h7:j<2^lv
 ·rw[Nat.mod_eq_of_lt h7]at h6;left;omega
 ·have h8:j%2^lv=j-2^lv:=by rw[Nat.mod_eq_sub_mod (by omega),Nat.mod_eq_of_lt (by omega)]
  right;omega
theorem rZ{M:Mc}{B:Int}(h:Iw M.W B)(hI:Ih M){i j:Nat}(hl:lvl M≤3)(hi:i<2^lvl M)(hj:j<2^(lvl M+1))(hij:j%2^lvl M=i)(hf:¬(M.W 0%2=0∨M.W (2^lvl M+i)<FZ)) :
  srt (nxt M i j)∧(∀e∈nxt M i j,ay e.key%2^(lvl M+1)=j)∧∀k,ay k%2^(lvl M+1)=j→own M k=lk (nxt M i j) k:=by
 have h0:=hI (lvl M) i (by omega) hi
 have h1:=hI (lvl M+1) j (by omega) hj
 have hp:∀s:Int,s%2^(lvl M+1)=j→plc (lvl M) s=2^lvl M+i∧plc (lvl M+1) s=2^(lvl M+1)+j:=fun s hs=>⟨cq.2 (by rw[lh hs,hij]),cq.2 hs⟩
 unfold nxt
 by_cases e:M.W (2^(lvl M+1)+j)=0
 ·rw[if_pos e]
  obtain⟨c1,c2,c3⟩:=sn h0.1 (lvl M+1) j
  refine⟨c1,c2,fun k hk=>?_⟩
  rw[c3 k hk]
  obtain⟨p1,p2⟩:=hp _ hk
  unfold own home
  show lk (M.Hd (if M.W 0%2=0∨M.W (plc (lvl M) (ay k))<FZ∨M.W (plc (lvl M+1) (ay k))=0 then plc (lvl M) (ay k)else plc (lvl M+1) (ay k))) k=_
  rw[p1,p2,if_pos (.inr (.inr e))]
 ·rw[if_neg e]
  refine⟨h1.1,h1.2,fun k hk=>?_⟩
  obtain⟨p1,p2⟩:=hp _ hk
  unfold own home
  show lk (M.Hd (if M.W 0%2=0∨M.W (plc (lvl M) (ay k))<FZ∨M.W (plc (lvl M+1) (ay k))=0 then plc (lvl M) (ay k)else plc (lvl M+1) (ay k))) k=_
  rw[p1,p2,if_neg (by omega)]
theorem fK{M:Mc}{B:Int}(h:Iw M.W B)(hI:Ih M){i:Nat}(hi:i<2^lvl M) :
  (partL M i).flatten.Pairwise (fun a b=>a.key≠b.key)∧(∀e∈(partL M i).flatten,ay e.key%2^lvl M=i)∧∀e:Ent,ay e.key%2^lvl M=i→(e∈(partL M i).flatten↔own M e.key=some e.val):=by
 have hd:=h.d
 have hlv:lvl M≤4:=by unfold lvl;omega
 have h0:=hI (lvl M) i hlv hi
 have pw:∀{l:List Ent},srt l→l.Pairwise (fun a b=>a.key≠b.key):=fun s=>List.Pairwise.imp (fun {a b} hab e=>by rw[e,cmpS]at hab;omega) s
 unfold partL
 by_cases e:M.W 0%2=0∨M.W (2^lvl M+i)<FZ
 ·rw[if_pos e]
  rw[show[M.Hd (2^lvl M+i)].flatten=M.Hd (2^lvl M+i)by simp]
  refine⟨pw h0.1,h0.2,fun x hx=>?_⟩
  have hp:plc (lvl M) (ay x.key)=2^lvl M+i:=cq.2 hx
  unfold own home
  show _↔lk (M.Hd (if M.W 0%2=0∨M.W (plc (lvl M) (ay x.key))<FZ∨M.W (plc (lvl M+1) (ay x.key))=0 then plc (lvl M) (ay x.key)else plc (lvl M+1) (ay x.key))) x.key=_
  rw[hp,if_pos (by rcases e with e|e<;>simp[e]),aH h0.1]
 ·rw[if_neg e]
  have hl3:lvl M≤3:=by unfold lvl;omega
  have hpw:2^(lvl M+1)=2^lvl M*2:=Nat.pow_succ 2 _
  obtain⟨a1,a2,a3⟩:=rZ h hI hl3 hi (j:=i) (by omega) (Nat.mod_eq_of_lt hi) e
  obtain⟨b1,b2,b3⟩:=rZ h hI hl3 hi (j:=i+2^lvl M) (by omega) (by rw[Nat.add_mod_right,Nat.mod_eq_of_lt hi]) e
  rw[show[nxt M i i,nxt M i (i+2^lvl M)].flatten=nxt M i i++nxt M i (i+2^lvl M)by simp]
  refine⟨?_,?_,?_⟩
  ·rw[List.pairwise_append]
   refine⟨pw a1,pw b1,fun x hx y hy e2=>?_⟩
   have g1:=a2 x hx
   have g2:=b2 y hy
   rw[e2,g2]at g1
   have:=pow_pos2 (lvl M)
   omega
  ·intro x hx
   rcases List.mem_append.1 hx with hx|hx
   ·rw[lh (a2 x hx),Nat.mod_eq_of_lt hi]
   ·rw[lh (b2 x hx),Nat.add_mod_right,Nat.mod_eq_of_lt hi]
  ·intro x hx
   rw[List.mem_append]
   have hpp:=pow_pos2 (lvl M)
   rcases nc hi hx with g|g
   ·rw[a3 _ g,aH a1]
    refine⟨fun hh=>hh.resolve_right fun hh2=>?_,.inl⟩
    have:=b2 x hh2
    rw[g]at this;omega
   ·rw[b3 _ g,aH b1]
    refine⟨fun hh=>hh.resolve_left fun hh2=>?_,.inr⟩
    have:=a2 x hh2
    rw[g]at this;omega
theorem all_ok{M:Mc}{B:Int}(h:Iw M.W B)(hI:Ih M):(allE M).Pairwise (fun a b=>a.key≠b.key)∧∀e:Ent,e∈allE M↔own M e.key=some e.val:=by
 unfold allE
 refine⟨?_,fun e=>?_⟩
 ·rw[List.pairwise_flatMap]
  refine⟨fun i hi=>(fK h hI (List.mem_range.1 hi)).1,?_⟩
  refine List.Pairwise.imp_of_mem ?_ (List.pairwise_lt_range (n:=2^lvl M))
  intro i j hi hj hij x hx y hy e
  have g1:=(fK h hI (List.mem_range.1 hi)).2.1 x hx
  have g2:=(fK h hI (List.mem_range.1 hj)).2.1 y hy
  rw[e,g2]at g1
  omega
 ·rw[List.mem_flatMap]
  obtain⟨i,h1,h2⟩:=plc_sh (lvl M) (ay e.key)
  have h3:=cq.1 h2
  rw[← (fK h hI h1).2.2 e h3]
  constructor
  ·rintro⟨j,hj,hm⟩
   have:=(fK h hI (List.mem_range.1 hj)).2.1 e hm
   rw[h3]at this
   have:j=i:=by omega
   subst this;exact hm
  ·exact fun hm=>⟨i,List.mem_range.2 h1,hm⟩
end Dir
def eO(h:List Dir.Ent):List D:=[al 2 aq h]
theorem d9(zs:List (List Dir.Ent))(c:List Dir.Ent):∀k,k<zs.length+1→bK zs.length (fun i=>eO (zs.getD i default)) (fun i=>bZ (eO c) 1 (0+i)) k=eO ((zs++[c]).getD k default):=fun k hk=>by
 simp only[bK]
 by_cases e:k<zs.length
 ·rw[if_pos e,Q1,Q1,Q11 e]
 ·rw[if_neg e]
  obtain rfl:k=zs.length:=by omega
  have:(zs++[c]).getD zs.length default=c:=by simp
  rw[Nat.sub_self,this];rfl
theorem gM{g:Nat→SV}(q5:∀j,SV.Lt 5 (g j))(M:Dir.Mc)(nl:Nat)(f:Nat→List D)(clk cnt:Int)(h0:0≤M.W 0)(h8:M.W 0≤8) :
  Fun TC 42 5 [ap] (aN g M nl f clk cnt) 5 (.tup [.i .i64 (Dir.lvl M),.b (decide (M.W 0%2=1))]) (aN g M nl f clk cnt):=by
 have qr:(M.W 0).tmod 2=M.W 0%2:=Q6 h0
 have ql:M.W 0/2=(Dir.lvl M:Int):=by unfold Dir.lvl;omega
 refine Fun.mk' Tryz.func42 rfl rfl zN (by decide) ?_
 (repeat' (first|((first|refine Wp.any ab rfl ?_|(with_reducible first|refine Go.mk ?_|apply am.of|refine Ov.ok zO ?_|refine And.intro zC ?_));conv=>whnf)|((refine aa.fn (bN nl M.W M.Hd f clk cnt 0 (by decide)) [1,2,3,4] rfl rfl rfl rfl rfl ?ha ?hh ?_);(case ha=>exact zA);(case hh=>exact zH);(conv=>whnf))|(with_reducible refine Ov.tdivN (by omega) ?_)))
 rw[qr,ql]
 (refine af.sealB [0,1,2,3,4] rfl rfl rfl ?_ ?_);(focus((conv=>whnf);(repeat' (first|exact zE))));(focus((conv=>whnf);(repeat' (first|exact zE|((refine And.intro ?_ ?_)<;>(conv=>whnf))))))
theorem cN{L:List Nat}:ac (0::1::2::3::4::L) ap ap:=.same (m:=5) (.of rfl) (by simp) fun i hi=>id5 hi
theorem ca(M:Dir.Mc)(i:Nat):(List.range (i+1)).flatMap (Dir.partL M)=(List.range i).flatMap (Dir.partL M)++Dir.partL M i:=by
 rw[List.range_succ,List.flatMap_append];simp
theorem bh(M:Dir.Mc):∀i,((List.range i).flatMap (Dir.partL M)).length≤2*i
 | 0=>by simp
 | i+1=>by
  rw[ca,Q9]
  have:=bh M i
  have:(Dir.partL M i).length≤2:=by unfold Dir.partL;split<;>simp
  omega
theorem nB{g:Nat→SV}(q5:∀j,SV.Lt 5 (g j))(M:Dir.Mc)(nl:Nat)(f:Nat→List D)(clk cnt:Int)(h0:0≤M.W 0)(h8:M.W 0≤8)(he:M.W 0%2=0) :
  Fun TC 44 5 [ap] (aN g M nl f clk cnt) 5 (.d (al 1 eO (Dir.allL M))) (aN g M nl f clk cnt):=by
 have hL:=gM q5 M nl f clk cnt h0 h8
 rw[decide_eq_false (by omega)]at hL
 have hlv:Dir.lvl M≤4:=by unfold Dir.lvl;omega
 have hp4:2^Dir.lvl M≤2^4:=Q16 (by omega) hlv
 have hsh:=bQ hlv
 have e2:((2^Dir.lvl M:Nat):Int)=2^Dir.lvl M:=by simp
 refine Fun.mk' Tryz.func44 rfl rfl zN (by decide) ?_
 (repeat' (first|((first|refine Wp.any ab rfl ?_|(with_reducible first|refine Go.mk ?_|apply am.of|refine And.intro zC ?_));conv=>whnf)|((refine aa.fn (hL) [0,1,2,3,4] rfl rfl rfl rfl rfl ?ha ?hh ?_);(case ha=>exact zA);(case hh=>exact zD);(conv=>whnf))))
 refine Wp.le (Le.virt 3 65 1 (fun i=>eO (([]:List (List Dir.Ent)).getD i default)) (by decide) rfl) ?_
 refine Wp.loopP (ι:=Nat) (fun i=>i≤2^Dir.lvl M) (fun i=>⟨⟨Tryz.f44.ntmps,5⟩,6,[(0,ap),(3,.sl 5 1 0 ((List.range i).flatMap (Dir.partL M)).length),(4,.i .i64 (Dir.lvl M)),(5,.b false),(19,.i .i64 (2^Dir.lvl M)),(20,.i .i64 i)],
  aN g M nl f clk cnt++[(5,some (aI 65 1 eO ((List.range i).flatMap (Dir.partL M))))]⟩) (fun i=>2^Dir.lvl M-i) 0 (Nat.zero_le _) ?_ ?_
 ·(refine Le.by [0,1,2,3,4,5] rfl rfl rfl rfl ?_ ?_<;>(conv=>whnf)<;>(repeat' (first|exact trivial|exact ac.rfl rfl|exact cN|exact ac.sl rfl|exact d4 (by assumption) (fun l hl=>by rcases l with _|_|_|_|_|l<;>first|rfl|omega)|exact⟨rfl,rfl,rfl⟩|exact⟨rfl,zzb rfl⟩|exact fun i hi=>rfl|((with_reducible refine And.intro ?_ ?_)<;>(conv=>whnf)))))
  rw[hsh];exact ac.rfl rfl
 ·rintro i h1
  have hpl:=Dir.plc_32 hlv (i:Int)
  have hfl:=bh M i
  (repeat' (first|((first|refine Wp.any ab rfl ?_|(with_reducible first|refine Go.mk ?_|apply am.of|refine Ov.ok zO ?_)|refine zV ?_|with_reducible refine And.intro zC ?_);conv=>whnf)|((with_reducible refine And.intro ?hb ?_);(case hb=>exact zz1);(conv=>whnf))|((with_reducible refine ai.pure (bc _ hlv _) rfl rfl ?_);conv=>whnf)|((refine ai.fn (bN nl M.W M.Hd f clk cnt (Dir.plc (Dir.lvl M) (i:Int)) hpl.2) [1,2,3,4] [1,2,3,4] rfl rfl rfl rfl rfl ?ha ?hh ?hs ?_);(case ha=>exact zA);(case hh=>exact zH);(case hs=>exact zK);(conv=>whnf))|((refine au (fun hc=>?_) (fun hc=>?_))<;>(try simp only[wz9]at hc)<;>(try (exfalso;omega))<;>(conv=>whnf))))
  ·have hi:i<2^Dir.lvl M:=by omega
   have hw:Dir.plc (Dir.lvl M) (i:Int)=2^Dir.lvl M+i:=by rw[aW (by omega) (by omega)];rfl
   have hpt:Dir.partL M i=[M.Hd (Dir.plc (Dir.lvl M) (i:Int))]:=by unfold Dir.partL;rw[if_pos (.inl he),hw]
   refine⟨i+1,by dsimp only;omega,by dsimp only;omega,?_⟩
   dsimp only
   rw[ca,hpt]
   (refine Le.by [0,1,2,3,4,21] rfl rfl rfl rfl ?_ ?_<;>(conv=>whnf)<;>(repeat' (first|exact trivial|exact ac.rfl rfl|exact cN|exact ac.sl rfl|exact cB (by assumption)|exact⟨rfl,rfl,rfl⟩|exact⟨rfl,zzb rfl⟩|exact fun i hi=>rfl|((with_reducible refine And.intro ?_ ?_)<;>(conv=>whnf)))))
   ·rw[Q9];exact ac.sl rfl
   ·rfl
   ·simp
   ·exact d9 _ _
  ·obtain rfl:i=2^Dir.lvl M:=by omega
   rw[show Dir.allL M=(List.range (2^Dir.lvl M)).flatMap (Dir.partL M)from rfl]
   (refine af.sealB [0,1,2,3,4] rfl rfl rfl ?_ ?_);(focus((conv=>whnf);(repeat' (first|exact zE))));(focus((conv=>whnf);(repeat' (first|exact zE|((refine And.intro ?_ ?_)<;>(conv=>whnf))))))
theorem jI(zs:List (List Dir.Ent))(a b:List Dir.Ent):∀k,k<zs.length+1+1→bK (zs.length+1) (bK zs.length (fun i=>eO (zs.getD i default)) (fun i=>bZ (eO a) 1 (0+i))) (fun i=>bZ (eO b) 1 (0+i)) k=eO ((zs++[a,b]).getD k default):=fun k hk=>by
 by_cases e:k<zs.length+1
 ·rw[bK,if_pos e,d9 _ _ _ e]
  congr 1
  rw[show zs++[a,b]=(zs++[a])++[b]by simp,Q1,Q1,Q11 (l₁:=zs++[a]) (by simpa using e)]
 ·rw[bK,if_neg e]
  obtain rfl:k=zs.length+1:=by omega
  have:(zs++[a,b]).getD (zs.length+1) default=b:=by simp[List.getD]
  rw[Nat.sub_self,this];rfl
theorem nA{g:Nat→SV}(q5:∀j,SV.Lt 5 (g j))(M:Dir.Mc)(nl:Nat)(f:Nat→List D)(clk cnt:Int)(h0:0≤M.W 0)(h8:M.W 0≤8)(hH:∀w,(M.Hd w).length≤16777216)(he:M.W 0%2=1) :
  Fun TC 44 5 [ap] (aN g M nl f clk cnt) 5 (.d (al 1 eO (Dir.allL M))) (aN g M nl f clk cnt):=by
 have hL:=gM q5 M nl f clk cnt h0 h8
 rw[decide_eq_true he]at hL
 have hlv:Dir.lvl M≤3:=by unfold Dir.lvl;omega
 have hp4:2^Dir.lvl M≤2^3:=Q16 (by omega) hlv
 have hsh:=bQ (lv:=Dir.lvl M) (by omega)
 have e2:((2^Dir.lvl M:Nat):Int)=2^Dir.lvl M:=by simp
 refine Fun.mk' Tryz.func44 rfl rfl zN (by decide) ?_
 (repeat' (first|((first|refine Wp.any ab rfl ?_|(with_reducible first|refine Go.mk ?_|apply am.of|refine And.intro zC ?_));conv=>whnf)|((refine aa.fn (hL) [0,1,2,3,4] rfl rfl rfl rfl rfl ?ha ?hh ?_);(case ha=>exact zA);(case hh=>exact zD);(conv=>whnf))))
 refine Wp.le (Le.virt 3 65 1 (fun i=>eO (([]:List (List Dir.Ent)).getD i default)) (by decide) rfl) ?_
 refine Wp.loopP (ι:=Nat) (fun i=>i≤2^Dir.lvl M) (fun i=>⟨⟨Tryz.f44.ntmps,5⟩,6,[(0,ap),(3,.sl 5 1 0 ((List.range i).flatMap (Dir.partL M)).length),(4,.i .i64 (Dir.lvl M)),(5,.b true),(19,.i .i64 (2^Dir.lvl M)),(20,.i .i64 i)],
  aN g M nl f clk cnt++[(5,some (aI 65 1 eO ((List.range i).flatMap (Dir.partL M))))]⟩) (fun i=>2^Dir.lvl M-i) 0 (Nat.zero_le _) ?_ ?_
 ·(refine Le.by [0,1,2,3,4,5] rfl rfl rfl rfl ?_ ?_<;>(conv=>whnf)<;>(repeat' (first|exact trivial|exact ac.rfl rfl|exact cN|exact ac.sl rfl|exact d4 (by assumption) (fun l hl=>by rcases l with _|_|_|_|_|l<;>first|rfl|omega)|exact⟨rfl,rfl,rfl⟩|exact⟨rfl,zzb rfl⟩|exact fun i hi=>rfl|((with_reducible refine And.intro ?_ ?_)<;>(conv=>whnf)))))
  rw[hsh];exact ac.rfl rfl
 ·rintro i h1
  have hpl:=Dir.plc_32 (by omega:Dir.lvl M≤4) (i:Int)
  have hq1:=Dir.plc_32 (by omega:Dir.lvl M+1≤4) (i:Int)
  have hq2:=Dir.plc_32 (by omega:Dir.lvl M+1≤4) ((i:Int)+IntKind.i64.wrap (1*2^min ((Dir.lvl M:Nat):Int).toNat IntKind.i64.bits))
  have hfl:=bh M i
  have hHp:=hH (Dir.plc (Dir.lvl M) (i:Int))
  have hcut:Pure TC 25 [.d (al 2 aq (M.Hd (Dir.plc (Dir.lvl M) (i:Int)))),.i .i64 ((Dir.lvl M:Int)+1),.i .i64 (i:Int)] (.d (al 2 aq (bM (M.Hd (Dir.plc (Dir.lvl M) (i:Int))) (Dir.lvl M+1) i))):=gi _ (Dir.lvl M+1) i (by omega) hHp
  have hcut2:Pure TC 25 [.d (al 2 aq (M.Hd (Dir.plc (Dir.lvl M) (i:Int)))),.i .i64 ((Dir.lvl M:Int)+1),.i .i64 ((i:Int)+IntKind.i64.wrap (1*2^min ((Dir.lvl M:Nat):Int).toNat IntKind.i64.bits))] (.d (al 2 aq (bM (M.Hd (Dir.plc (Dir.lvl M) (i:Int))) (Dir.lvl M+1) (i+2^Dir.lvl M)))):=by
   have:=gi (M.Hd (Dir.plc (Dir.lvl M) (i:Int))) (Dir.lvl M+1) (i+2^Dir.lvl M) (by omega) hHp
   rw[hsh]
   rwa [show(((i+2^Dir.lvl M:Nat):Nat):Int)=(i:Int)+2^Dir.lvl M by rw[Int.natCast_add,e2]]at this
  (repeat' (first|((first|refine Wp.any ab rfl ?_|(with_reducible first|refine Go.mk ?_|apply am.of|refine Ov.ok zO ?_)|refine zV ?_|with_reducible refine And.intro zC ?_);conv=>whnf)|((with_reducible refine And.intro ?hb ?_);(case hb=>exact zz1);(conv=>whnf))|((with_reducible first|refine ai.pure (bc _ (by omega:Dir.lvl M≤4) _) rfl rfl ?_|refine ai.pure (dC _ hlv _) rfl rfl ?_|refine aa.pure (hcut) rfl rfl ?_|refine aa.pure (hcut2) rfl rfl ?_);conv=>whnf)|((refine ai.fn (bN nl M.W M.Hd f clk cnt (Dir.plc (Dir.lvl M) (i:Int)) hpl.2) [1,2,3,4] [1,2,3,4] rfl rfl rfl rfl rfl ?ha ?hh ?hs ?_);(case ha=>exact zA);(case hh=>exact zH);(case hs=>exact zK);(conv=>whnf))|((refine ai.fn (bN nl M.W M.Hd f clk cnt (Dir.plc (Dir.lvl M+1) (i:Int)) hq1.2) [1,2,3,4] [1,2,3,4] rfl rfl rfl rfl rfl ?ha ?hh ?hs ?_);(case ha=>exact zA);(case hh=>exact zH);(case hs=>exact zK);(conv=>whnf))|((refine ai.fn (bN nl M.W M.Hd f clk cnt (Dir.plc (Dir.lvl M+1) ((i:Int)+IntKind.i64.wrap (1*2^min ((Dir.lvl M:Nat):Int).toNat IntKind.i64.bits))) hq2.2) [1,2,3,4] [1,2,3,4] rfl rfl rfl rfl rfl ?ha ?hh ?hs ?_);(case ha=>exact zA);(case hh=>exact zH);(case hs=>exact zK);(conv=>whnf))|((with_reducible refine Wp.loopN 4 ?_);conv=>whnf)|((refine au (fun hc=>?_) (fun hc=>?_))<;>(try simp only[wz9]at hc)<;>(try (exfalso;omega))<;>(conv=>whnf))))
  rotate_right
  ·obtain rfl:i=2^Dir.lvl M:=by omega
   rw[show Dir.allL M=(List.range (2^Dir.lvl M)).flatMap (Dir.partL M)from rfl]
   (refine af.sealB [0,1,2,3,4] rfl rfl rfl ?_ ?_);(focus((conv=>whnf);(repeat' (first|exact zE))));(focus((conv=>whnf);(repeat' (first|exact zE|((refine And.intro ?_ ?_)<;>(conv=>whnf))))))
  all_goals
   have hi:i<2^Dir.lvl M:=by omega
   have hpp:2^(Dir.lvl M+1)=2^Dir.lvl M*2:=Nat.pow_succ 2 _
   have hpi:(2:Int)^(Dir.lvl M+1)=2^Dir.lvl M*2:=Int.pow_succ 2 _
   have hw:Dir.plc (Dir.lvl M) (i:Int)=2^Dir.lvl M+i:=by rw[aW (by omega) (by omega)];rfl
   have hw1:Dir.plc (Dir.lvl M+1) (i:Int)=2^(Dir.lvl M+1)+i:=by rw[aW (by omega) (by omega)];rfl
   have hw2:Dir.plc (Dir.lvl M+1) ((i:Int)+IntKind.i64.wrap (1*2^min ((Dir.lvl M:Nat):Int).toNat IntKind.i64.bits))=2^(Dir.lvl M+1)+(i+2^Dir.lvl M):=by rw[hsh,aW (by omega) (by omega)];omega
   have hpt:Dir.partL M i=if M.W (Dir.plc (Dir.lvl M) (i:Int))<4611686018427387904 then[M.Hd (Dir.plc (Dir.lvl M) (i:Int))]else[if M.W (Dir.plc (Dir.lvl M+1) (i:Int))=0 then bM (M.Hd (Dir.plc (Dir.lvl M) (i:Int))) (Dir.lvl M+1) i else M.Hd (Dir.plc (Dir.lvl M+1) (i:Int)),
    if M.W (Dir.plc (Dir.lvl M+1) ((i:Int)+IntKind.i64.wrap (1*2^min ((Dir.lvl M:Nat):Int).toNat IntKind.i64.bits)))=0 then bM (M.Hd (Dir.plc (Dir.lvl M) (i:Int))) (Dir.lvl M+1) (i+2^Dir.lvl M)else M.Hd (Dir.plc (Dir.lvl M+1) ((i:Int)+IntKind.i64.wrap (1*2^min ((Dir.lvl M:Nat):Int).toNat IntKind.i64.bits)))]:=by
    unfold Dir.partL Dir.nxt
    rw[hw,hw1,hw2]
    by_cases hq:M.W (2^Dir.lvl M+i)<4611686018427387904
    ·rw[if_pos hq,if_pos (.inr hq)]
    ·rw[if_neg hq,if_neg (by intro h;rcases h with h|h;omega;exact hq h)]
   refine⟨i+1,by dsimp only;omega,by dsimp only;omega,?_⟩
   dsimp only
   rw[ca,hpt]
  ·rw[if_pos (by assumption)]
   (refine Le.by [0,1,2,3,4,21] rfl rfl rfl rfl ?_ ?_<;>(conv=>whnf)<;>(repeat' (first|exact trivial|exact ac.rfl rfl|exact cN|exact ac.sl rfl|exact cB (by assumption)|exact⟨rfl,rfl,rfl⟩|exact⟨rfl,zzb rfl⟩|exact fun i hi=>rfl|((with_reducible refine And.intro ?_ ?_)<;>(conv=>whnf)))))
   ·rw[Q9];exact ac.sl rfl
   ·rfl
   ·simp
   ·exact d9 _ _
  all_goals
   rw[if_neg (by assumption)]
   first
    | rw[if_pos (by assumption),if_pos (by assumption)]
    | rw[if_pos (by assumption),if_neg (by assumption)]
    | rw[if_neg (by assumption),if_pos (by assumption)]
    | rw[if_neg (by assumption),if_neg (by assumption)]
   (refine Le.by [0,1,2,3,4,54] rfl rfl rfl rfl ?_ ?_<;>(conv=>whnf)<;>(repeat' (first|exact trivial|exact ac.rfl rfl|exact cN|exact ac.sl rfl|exact cB (by assumption)|exact⟨rfl,rfl,rfl⟩|exact⟨rfl,zzb rfl⟩|exact fun i hi=>rfl|((with_reducible refine And.intro ?_ ?_)<;>(conv=>whnf)))))
   ·rw[Q9];exact ac.sl rfl
   ·rfl
   ·simp
   ·exact jI _ _ _
def SV.pv:SV→Bool
 | .d (.val _)=>true
 | _=>false
def SV.pl:SV→Bool
 | .d (.val _)=>true
 | .agg vs=>vs.all SV.pv
 | .tup vs=>vs.all fun|.d (.val _)=>true|.agg us=>us.all SV.pv|_=>false
 | _=>false
theorem RS.pv{E E':Env}{nx nx':Nat}{w w':World}{x:SV}{v:Value}(hx:x.pv=true)(h:RS E nx w x v):RS E' nx' w' x v:=by
 unfold SV.pv at hx
 split at hx
 ·cases h with|d _ _ h=>cases h with|val _ h=>exact .d _ _ (.val _ h)
 ·cases hx
theorem RS.pvA{E E':Env}{nx nx':Nat}{w w':World}{us:List SV}{v:Value}(hx:us.all SV.pv=true)(h:RS E nx w (.agg us) v):RS E' nx' w' (.agg us) v:=by
 rw[Q23]at hx
 cases h with
 | agg _ vs hs h1 hh=>exact .agg _ _ hs h1 fun j hj=>(hh j hj).pv (hx _ (Q14 hj))
theorem RS.pl{E E':Env}{nx nx':Nat}{w w':World}{x:SV}{v:Value}(hx:x.pl=true)(h:RS E nx w x v):RS E' nx' w' x v:=by
 unfold SV.pl at hx
 split at hx
 ·exact h.pv rfl
 ·exact h.pvA hx
 ·rw[Q23]at hx
  cases h with
  | tup _ vs hs hh =>
   refine .tup _ _ hs fun j hj=>?_
   have h1:=hx _ (Q14 hj)
   have h2:=hh j hj
   revert h1 h2
   split
   ·rename_i e;intro _ h2;rw[e]at h2⊢;exact h2.pv rfl
   ·rename_i us e;intro h1 h2;rw[e]at h2⊢;exact h2.pvA h1
   ·intro h1;cases h1
 ·cases hx
theorem Fun.ofPure{C:Cx}{g m:Nat}{args0 args:List SV}{r:SV}{H:List (Nat×Option Blk)}(h:Pure C g args0 r)(hr:r.pl=true)(hk:kO ⟨⟨0,m⟩,m,[],H⟩ args fun ys=>Les ys args0):Fun C g m args H m r H:=by
  refine⟨h.ent,Q4 _,fun E w vs hS hsz hargs=>?_⟩
  let O:Org:=⟨w,HB E H,E.Im,m,E.ρ,E.κ⟩
  have hs:Sat O E ⟨⟨0,m⟩,m,[],H⟩ { tmps:=#[],defers:=[] } w :=
    ⟨fun n=>.any _,⟨rfl,rfl⟩,rfl,hS.hp,hS.nx,hS.inj,fun b hb=>⟨(hS.im b hb).1,Or.inr (Or.inl hb),(hS.im b hb).2⟩,fun l b hb hr=>Or.inl ⟨l,b,hb,hr,rfl⟩,Kq.refl _ _,fun l hl=>⟨rfl,rfl⟩,Q4 _,fun b hb=>hb⟩
  obtain⟨ys,g1,g3,g5⟩:=fA hs args vs.toList _ (by simpa using hsz) (fun j x v hx hv=>by
    obtain⟨q1,q2⟩:=Q3 hx
    subst q2;rw[← cC hv];exact hargs j q1) hk
  have hlen:vs.size=ys.length:=by omega
  refine(h.out ⟨E.ρ,E.κ,E.all ⟨⟨0,m⟩,m,[],H⟩⟩ w vs (fun b hb=>?_) (by rw[hlen,g1.len]) fun j hj=>?_).mono ?_
  · rcases hb with hb|⟨l,x,hl,hr,rfl⟩
    ·exact(hs.im b hb).1
    ·exact(hs.hp l x hl).lt hr
  · have hj2:j<ys.length:=by rw[g1.len];exact hj
    have hj3:j<vs.size:=by omega
    exact(g1.out j hj2 hj).out _ _ _ _ (g5 j _ _ (Q0 hj2) (by simp[Array.getD,hj3]))
  · rintro e w' ⟨v,rfl,hkp,hv⟩
    have ha:=hs.after hkp
    exact⟨v,⟨E.ρ,E.κ,fun b=>E.Im b∨(w.heap.size≤b∧b<w'.heap.size)⟩,rfl,hkp.kq _,fun l hl=>⟨rfl,rfl⟩,⟨ha.hp,ha.nx,ha.inj,fun b hb=>⟨(ha.im b hb).1,(ha.im b hb).2.2⟩⟩,fun b hb=>Or.inl hb,
      fun b hb => by rcases hb with hb|hb
                     ·exact Or.inl hb
                     ·exact Or.inr (Or.inr hb.1),fun b hb=>Or.inl hb,hv.pl hr⟩
def Env.pi(E:Env)(π:Nat→Nat):Env:=⟨fun i=>E.ρ (π i),fun i=>E.κ (π i),E.Im⟩
structure oF(π:Nat→Nat)(nx':Nat)(x y:SV):Prop where
 out:∀E nx w v,RS E nx w x v→RS (E.pi π) nx' w y v
theorem oF.any{π:Nat→Nat}{nx':Nat}{x:SV}:oF π nx' x .any:=⟨fun _ _ _ _ _=>.any _⟩
theorem oF.sl{π:Nat→Nat}{nx' l l' z o n:Nat}(h:π l'=l)(hl:l'<nx'):oF π nx' (.sl l z o n) (.sl l' z o n):=⟨fun E nx w v hv=>by
 subst h
 cases hv with
 | sl _ _ _ _ a cap hlx hc hm ha h0=>exact .sl _ _ _ _ a cap hl hc hm ha h0⟩
theorem oF.mono{π:Nat→Nat}{nx':Nat}{x y z:SV}(h:SV.Le x y)(k:oF π nx' y z):oF π nx' x z:=⟨fun E nx w v hv=>k.out E nx w v (h.out E nx w v hv)⟩
structure PiBlk(π:Nat→Nat)(nx nx':Nat)(l k:Nat)(b b':Blk):Prop where
 real:∀κ,b'.real κ→b.real κ
 bs:∀E w,BS E nx w l b→BS (E.pi π) nx' w k b'
theorem PiBlk.row{π:Nat→Nat}{nx nx' k e z n:Nat}{f:Nat→List D}:PiBlk π nx nx' (π k) k (.row e z n f) (.row e z n f) :=
 ⟨fun _ h=>h,fun E w hb=>by
  obtain⟨h1,h2,h3,h4,h5⟩:=hb
  exact⟨h1,h2,h3,h4,h5⟩⟩
def rK(π:Nat→Nat)(nx':Nat):List SV→List SV→Prop
 | [],[]=>True
 | x::r,y::s=>oF π nx' x y∧rK π nx' r s
 | _,_=>False
theorem rK.out{π:Nat→Nat}{nx':Nat}:∀{xs ys:List SV},rK π nx' xs ys→xs.length=ys.length∧∀(j:Nat) (hx:j<xs.length) (hy:j<ys.length),oF π nx' xs[j] ys[j]
 | [],[],_=>⟨rfl,fun j hx=>by simp at hx⟩
 | x::r,y::s,⟨h1,h2⟩=>by
  obtain⟨g1,g2⟩:=rK.out h2
  refine⟨by simp[g1],fun j hx hy=>?_⟩
  cases j with
  | zero=>exact h1
  | succ j=>exact g2 j (by simpa using hx) (by simpa using hy)
 | [],_::_,h=>h.elim
 | _::_,[],h=>h.elim
def cX(lo hi:Nat)(T:List (Nat×Option Blk)):Prop:=∀k b,lkh T k=some b→lo≤k∧k<hi∧∃e z n f,b=.row e z n f
theorem Le.nx{nt:NT}{nx nx':Nat}{fr:List (Nat×SV)}{hp:List (Nat×Option Blk)}(h:nx≤nx'):Le ⟨nt,nx,fr,hp⟩ ⟨nt,nx',fr,hp⟩ :=
 ⟨fun O E a w hs=>⟨E,fun n=>RS.mono (E:=E) (fun _ _=>⟨rfl,rfl⟩) h (fun _ h=>h) (fun _ _=>rfl) (hs.fr n),hs.nt,hs.df,fun l b hb=>BS.mono (E:=E) (hs.nx l b hb) (fun _ _=>⟨rfl,rfl⟩) h (fun _ h=>h) (fun _ _=>rfl) (fun _=>rfl) (hs.hp l b hb),fun l b hb=>Nat.lt_of_lt_of_le (hs.nx l b hb) h,hs.inj,hs.im,hs.own,hs.kq,hs.lab,Nat.le_trans hs.nl h,hs.imo⟩⟩
def PiFr(π:Nat→Nat)(nx':Nat)(fr:List (Nat×SV)):List (Nat×SV)→Prop
 | []=>True
 | p::r=>oF π nx' (lk fr p.1) p.2∧PiFr π nx' fr r
theorem PiFr.out{π:Nat→Nat}{nx':Nat}{fr:List (Nat×SV)}:∀{l:List (Nat×SV)},PiFr π nx' fr l→∀p∈l,oF π nx' (lk fr p.1) p.2
 | [],_,p,h=>by cases h
 | q::r,h,p,hp=>by
  rcases Q22 hp with rfl|hp
  ·exact h.1
  ·exact PiFr.out h.2 p hp
section
theorem SV.Le.low{b:Nat}{x:D}:SV.Le (.d (.low b x)) (.d x):=⟨fun E nx w v h=>by
 cases h with|d _ _ h=>cases h with|low _ _ _ _ h=>exact .d _ _ h⟩
structure DL(x y:D):Prop where
 out:∀w Im v,RD w Im x v→RD w Im y v
theorem DL.rfl{x:D}:DL x x:=⟨fun _ _ _ h=>h⟩
theorem DL.fsl{lo e z n:Nat}{f:Nat→List D}:DL (.fsl lo e z n f) (.sl z n f):=⟨fun _ _ _ h=>h.fsl_sl⟩
theorem SV.Le.dle{x y:D}(h:DL x y):SV.Le (.d x) (.d y):=⟨fun E nx w v hv=>by cases hv with|d _ _ hv=>exact .d _ _ (h.out _ _ _ hv)⟩
theorem DL.sl{z n:Nat}{f g:Nat→List D}(hl:∀i,i<n→(f i).length=(g i).length)(h:∀i,i<n→∀j (hj:j<(f i).length) (hj':j<(g i).length),DL (f i)[j] (g i)[j]):DL (.sl z n f) (.sl z n g):=⟨fun w Im v hv=>by
 cases hv with
 | sl _ _ _ a cap q hc hm hl0 ha hg =>
  refine .sl _ _ _ a cap q hc hm (fun i hi=>by rw[← hl i hi];exact hl0 i hi) ha fun i j hi hj=>?_
  have hj0:j<(f i).length:=by rw[hl i hi];exact hj
  exact(h i hi j hj0 hj).out _ _ _ (hg i j hi hj0)⟩
theorem Fun.leA{C:Cx}{g m m':Nat}{args args0:List SV}{r:SV}{H H':List (Nat×Option Blk)}(h:Fun C g m args0 H m' r H')(hl:Les args args0):Fun C g m args H m' r H' :=
 ⟨h.ent,h.le,fun E w vs hS hsz hargs=>h.out E w vs hS (by rw[hsz,hl.len]) fun j hj=>(hl.out j (by rw[hl.len];exact hj) hj).out _ _ _ _ (hargs j (by rw[hl.len];exact hj))⟩
theorem Fun.fresh{C:Cx}{g b e z n:Nat}{args:List SV}{f:Nat→List D}(h:Fun C g 0 args [] 1 (.sl 0 z 0 n) [(0,some (.row e z n f))])
  (hlow:∀(E:Env) (w:World) (vs:Array Value),(∀j (hj:j<args.length),RS E 0 w args[j] (vs.getD j undef))→0<n→E.Im b):Pure C g args (.d (.fsl (b+1) e z n f)):=by
 refine⟨h.ent,fun E w vs hI hsz hargs=>(h.out E w vs (iM.mk (fun l b hb=>absurd hb (by simp[lkh])) (fun l b hb=>absurd hb (by simp[lkh])) (fun l l' b b' hb=>absurd hb (by simp[lkh])) (fun b hb=>⟨hI b hb,fun l x hl=>absurd hl (by simp[lkh])⟩)) hsz hargs).mono ?_⟩
 rintro ex w' ⟨v,E',rfl,hkq,hlab,hS,hnew,him,himo,hv⟩
 have hH:∀b,¬HB E [] b:=by rintro b ⟨l,x,hl,_⟩;simp[lkh]at hl
 have hkp:Kp w w':=⟨hkq.os,hkq.tape,hkq.output,hkq.size,fun b hb=>hkq.block b hb (hH b)⟩
 refine⟨v,rfl,hkp,.d _ _ ?_⟩
 obtain⟨h1,h2,h3,h4,h5⟩:=hS.hp 0 _ rfl
 cases hv with
 | sl _ _ _ _ a cap hl hc hm ha h0 =>
  obtain⟨q1,q2⟩:=h0 rfl
  by_cases hz:0<n*z
  ·have hn:0<n:=Nat.pos_of_ne_zero fun e=>by rw[e,Nat.zero_mul]at hz;omega
   have hk:0<E'.κ 0:=by omega
   obtain⟨us,g1,g2,g3,g4⟩:=h5 hk
   have hb:w.heap.size≤E'.ρ 0:=by
    rcases hnew _ ⟨0,_,rfl,hk,rfl⟩with h9|h9
    ·exact absurd h9 (hH _)
    ·exact h9
   have hlt:E'.ρ 0<w'.heap.size:=(Q17 g1).1
   have hbI:=hI _ (hlow E w vs hargs hn)
   have hm2:n*z≤E'.κ 0*z:=Q8 _ h1
   refine .fsl _ _ _ _ _ a cap (fun i j=>us.getD (i*z+j) undef) hc hm h4 (fun _=>⟨E'.ρ 0,us,q2 (by omega),⟨Or.inr ⟨hb,hlt⟩,by omega⟩,g1,by omega,fun i j _ _=>rfl⟩) fun i j hi hj=>?_
   refine(g4 i j hi hj).mono (fun b hb=>?_) fun _ _=>rfl
   rcases him b hb with h9|h9|h9
   ·exact Or.inl h9
   ·exact absurd h9 (hH b)
   ·exact Or.inr ⟨h9,(hS.im b hb).1⟩
  ·refine .fsl _ _ _ _ _ a cap (fun _ _=>undef) hc hm h4 (fun h=>absurd h hz) fun i j hi hj=>?_
   have:0<n:=by omega
   have h9:0<n*z:=Nat.mul_pos this h3
   exact absurd h9 hz
def mt(x y:Value):Prop:=x=y∨∃k m m',x=.int k m∧y=.int k m'
theorem mt.int{k:IntKind}{m:Int}{y:Value}(h:mt (.int k m) y):∃m',y=.int k m':=by
 rcases h with rfl|⟨k',a,b,e,rfl⟩
 ·exact⟨_,rfl⟩
 ·cases e;exact⟨_,rfl⟩
theorem mt.slice{a:Option Addr}{n c:Nat}{y:Value}(h:mt (.slice a n c) y):y=.slice a n c:=by
 rcases h with rfl|⟨k',m,b,e,rfl⟩
 ·rfl
 ·cases e
structure ZR(N:Nat→Prop)(w1 w:World):Prop where
 os:w.os=w1.os∧w.tape=w1.tape∧w.output=w1.output
 size:w.heap.size=w1.heap.size
 low:∀b,¬N b→w.heap[b]?=w1.heap[b]?
 cells:∀(b:Nat) (us:Array Value) (e:TypeId),w1.heap[b]?=some (Obj.cells us e (0,0))→∃us':Array Value,w.heap[b]?=some (.cells us' e (0,0))∧us'.size=us.size∧∀q:Nat,mt (us.getD q undef) (us'.getD q undef)
theorem ZR.refl(N:Nat→Prop)(w:World):ZR N w w:=⟨⟨rfl,rfl,rfl⟩,rfl,fun _ _=>rfl,fun b us e h=>⟨us,h,rfl,fun q=>.inl rfl⟩⟩
theorem ZR.store{C:Cx}{N:Nat→Prop}{t b e o:Nat}{w1 w:World}{i:TI}{us:Array Value}{k:IntKind}{m m':Int}(h:ZR N w1 w)(hN:N b)(hi:C.tt t=some i)(hs:i.size=1)(hb:w1.heap[b]?=some (.cells us e (0,0)))(ho:o<us.size)(hv:us.getD o undef=.int k m) :
  ∃w',(Instr.storeAt t (.pointer (some ⟨b,o,none⟩)) (.int k m')).run C.P w=.ok () w'∧ZR N w1 w':=by
 obtain⟨cur,g1,g2,g3⟩:=h.cells b us e hb
 have hrun:=aT (C:=C) hi (v:=.int k m') (b:=b) (o:=o) g1 (by rw[hs];rfl) (by intro u hu;simp[Value.cells]at hu;subst hu;rfl) (by show o+1≤cur.size;omega)
 refine⟨_,hrun,h.os,(setRow_size _ _ _).trans h.size,fun k hk=>by rw[setRow_other w _ _ _ (fun e9=>hk (by rw[e9];exact hN))];exact h.low k hk,fun b' us' e' hb'=>?_⟩
 by_cases eb:b'=b
 ·subst eb
  rw[hb]at hb'
  cases hb'
  refine⟨_,setRow_heap w _ cur _ e _ g1,?_,fun q=>?_⟩
  ·rw[List.size_toArray,aR _ _ _ (by show o+1≤_;simp;omega)];simpa using g2
  ·have eg:(cur.toList.take o++(Value.int k m').cells.toList++cur.toList.drop (o+(Value.int k m').cells.toList.length)).toArray.getD q undef=if o≤q∧q<o+1 then .int k m' else cur.getD q undef:=by
    rw[bB,aM _ _ _ (by show o+1≤cur.toList.length;simp;omega)]
    show((if o≤q∧q<o+1 then _ else _:Option Value)).getD undef=_
    by_cases eq:o≤q∧q<o+1
    ·rw[if_pos eq,if_pos eq,show q-o=0 by omega];rfl
    ·rw[if_neg eq,if_neg eq,← aB]
   rw[eg]
   by_cases eq:o≤q∧q<o+1
   ·have:q=o:=by omega
    subst this
    rw[if_pos eq,hv]
    exact .inr ⟨k,m,m',rfl,rfl⟩
   ·rw[if_neg eq];exact g3 q
 ·rw[setRow_other w _ _ _ eb];exact h.cells b' us' e' hb'
def lkv:List (Nat×Value)→Nat→Option Value
 | [],_=>none
 | (n,v)::r,k=>bif Nat.beq n k then some v else lkv r k
theorem iq(n:Nat)(v:Value)(r:List (Nat×Value))(k:Nat):lkv ((n,v)::r) k=if n=k then some v else lkv r k:=by
 show(bif Nat.beq n k then some v else lkv r k)=_
 by_cases h:n=k
 ·subst h;simp
 ·have:Nat.beq n k=false:=by cases hb:Nat.beq n k with|true=>exact absurd (Q2 hb) h|false=>rfl
  simp[this,h]
structure Fr(n0:Nat)(D:Nat→Prop)(a0:Act)(l:List (Nat×Value))(a:Act):Prop where
 sz:a.tmps.size=n0
 df:a.defers=a0.defers
 at_:∀n v,lkv l n=some v→a.tmps.getD n undef=v
 old:∀n,¬D n→a.tmps.getD n undef=a0.tmps.getD n undef
theorem Fr.put{n0 d:Nat}{D:Nat→Prop}{a0 a:Act}{l:List (Nat×Value)}{v:Value}(h:Fr n0 D a0 l a)(hd:d<n0)(hD:D d):Fr n0 D a0 ((d,v)::l) (a.put (some d) v):=by
 refine⟨by simp[Act.put,h.sz],h.df,fun n u hn=>?_,fun n hn=>?_⟩
 ·rw[ic a d n v (by rw[h.sz];exact hd)]
  rw[iq]at hn
  by_cases e:d=n
  ·rw[if_pos e]at hn⊢;exact(Option.some.inj hn)
  ·rw[if_neg e]at hn⊢;exact h.at_ n u hn
 ·rw[ic a d n v (by rw[h.sz];exact hd),if_neg (fun e=>hn (by rw[← e];exact hD))]
  exact h.old n hn
def evl(l:List (Nat×Value)):Operand→Option Value
 | .const v=>some v
 | .tmp n=>lkv l n
 | _=>none
theorem Fr.ev{n0:Nat}{D:Nat→Prop}{a0 a:Act}{l:List (Nat×Value)}(h:Fr n0 D a0 l a){x:Operand}{v:Value}(hx:evl l x=some v):a.eval x=v:=by
 cases x with
 | const u=>cases hx;rfl
 | tmp n=>exact h.at_ n v hx
 | _=>cases hx
structure ZX where
 C:Cx
 N:Nat→Prop
 n0:Nat
 D:Nat→Prop
 a0:Act
 w1:World
abbrev ZQ:=Exit→List (Nat×Value)→Prop
def ZP(X:ZX)(Q:ZQ)(e:Exit)(a:Act)(w:World):Prop:=∃l,Q e l∧Fr X.n0 X.D X.a0 l a∧ZR X.N X.w1 w
structure ZL(X:ZX)(ops:Array Oper)(r:List Oper)(l:List (Nat×Value))(Q:ZQ):Prop where
 out:∀a w,Fr X.n0 X.D X.a0 l a→ZR X.N X.w1 w→wpList X.C.P ops (ZP X Q) r a w
section
variable{X:ZX}{ops:Array Oper}{r:List Oper}{l:List (Nat×Value)}{Q:ZQ}{o:Oper}
theorem ZL.nil(h:Q .normal l):ZL X ops [] l Q:=⟨fun a w ha hw=>⟨l,h,ha,hw⟩⟩
theorem fk{d:Nat}{o:Oper}{v:Value}{a:Act}{w:World}(hg:o.guard=none)(hd:o.dst=some d)(hd0:d<X.n0)(hD:X.D d)(hr:(execOp a.eval o).run X.C.P w=.ok (.value v) w)(ha:Fr X.n0 X.D X.a0 l a)(hw:ZR X.N X.w1 w)
  (h:ZL X ops r ((d,v)::l) Q):wpList X.C.P ops (ZP X Q) (o::r) a w:=by
 unfold wpList
 rw[if_pos (by simp[Region.wanted,hg])]
 refine Or.inl ?_
 unfold Oper.wp
 rw[hr,Oper.upon_value,hd]
 exact h.out _ _ (ha.put hd0 hD) hw
theorem ZL.mv{d:Nat}{x:Operand}{v:Value}(ho:o.op=.move x)(hdst:o.dst=some d)(hg:o.guard=none)(hx:evl l x=some v)(hd:d<X.n0)(hD:X.D d)(h:ZL X ops r ((d,v)::l) Q):ZL X ops (o::r) l Q :=
 ⟨fun a w ha hw=>fk hg hdst hd hD (by simp[execOp,ho,ha.ev hx]) ha hw h⟩
theorem ZL.as{d:Nat}{x:Operand}{v:Value}(ho:o.op=.assign x)(hdst:o.dst=some d)(hg:o.guard=none)(hx:evl l x=some v)(hd:d<X.n0)(hD:X.D d)(h:ZL X ops r ((d,v)::l) Q):ZL X ops (o::r) l Q :=
 ⟨fun a w ha hw=>fk hg hdst hd hD (by simp[execOp,ho,ha.ev hx]) ha hw h⟩
theorem ZL.ix{d t b off n c z j:Nat}{kd:IntKind}{x y:Operand}(ho:o.op=.indexAddr t x y)(hdst:o.dst=some d)(hg:o.guard=none)(hx:evl l x=some (.slice (some ⟨b,off,none⟩) n c))(hy:evl l y=some (.int kd (j:Int)))(hz:gf X.C t z True)(hj:j<n)(hd:d<X.n0)(hD:X.D d)
  (h:ZL X ops r ((d,.pointer (some ⟨b,off+j*z,none⟩))::l) Q):ZL X ops (o::r) l Q :=
 ⟨fun a w ha hw=>by
  obtain⟨e,ht,h1,h2,_⟩:=cQ hz
  refine fk hg hdst hd hD ?_ ha hw h
  simp[execOp,ho,ha.ev hx,ha.ev hy,Instr.indexAt,run_underlying ht,asIntOf,hj,h1 w,Addr.add_mid]⟩
theorem ZL.fa{d t f b p:Nat}{x:Operand}(ho:o.op=.fieldAddr t x f)(hdst:o.dst=some d)(hg:o.guard=none)(hx:evl l x=some (.pointer (some ⟨b,p,none⟩)))(hd:d<X.n0)(hD:X.D d)(h:cy X.C t f fun q=>ZL X ops r ((d,.pointer (some ⟨b,p+q,none⟩))::l) Q):ZL X ops (o::r) l Q :=
 ⟨fun a w ha hw=>by
  obtain⟨q,h1,h2⟩:=bS (w:=w) h
  refine fk hg hdst hd hD ?_ ha hw h1
  simp[execOp,ho,ha.ev hx,h2]⟩
theorem ZL.ld{d t b e p:Nat}{i:TI}{x:Operand}{us:Array Value}(ho:o.op=.load t x)(hdst:o.dst=some d)(hg:o.guard=none)(hx:evl l x=some (.pointer (some ⟨b,p,none⟩)))(hi:X.C.tt t=some i)(hag:i.k.agg=false)(hb:X.w1.heap[b]?=some (.cells us e (0,0)))(hp:p<us.size)(hd:d<X.n0)(hD:X.D d)
  (h:∀v,mt (us.getD p undef) v→ZL X ops r ((d,v)::l) Q):ZL X ops (o::r) l Q :=
 ⟨fun a w ha hw=>by
  obtain⟨us',g1,g2,g3⟩:=hw.cells b us e hb
  have hag2:=(X.C.ok t i hi).isAgg w
  refine fk (v:=us'.getD p undef) hg hdst hd hD ?_ ha hw (h _ (g3 p))
  have hp':p<us'.size:=by omega
  simp[execOp,ho,ha.ev hx,Instr.loadAt,Instr.sureAddr,loadVar,hag2,hag,World.cell?,g1,Array.getD,hp']⟩
theorem ZL.st{t b e p:Nat}{i:TI}{x y:Operand}{us:Array Value}{k:IntKind}{m m':Int}(ho:o.op=.store t x y)(hdst:o.dst=none)(hg:o.guard=none)(hx:evl l x=some (.pointer (some ⟨b,p,none⟩)))(hy:evl l y=some (.int k m'))(hi:X.C.tt t=some i)(hz:i.size=1)(hN:X.N b)(hb:X.w1.heap[b]?=some (.cells us e (0,0)))(hp:p<us.size)(hv:us.getD p undef=.int k m)
  (h:ZL X ops r l Q):ZL X ops (o::r) l Q :=
 ⟨fun a w ha hw=>by
  obtain⟨w',g1,g2⟩:=hw.store (C:=X.C) (t:=t) (m':=m') hN hi hz hb hp hv
  unfold wpList
  rw[if_pos (by simp[Region.wanted,hg])]
  refine Or.inl ?_
  unfold Oper.wp
  rw[show(execOp a.eval o).run X.C.P w=.ok .skip w' by simp[execOp,ho,ha.ev hx,ha.ev hy,g1],Oper.upon_skip,hdst]
  exact h.out _ _ ha g2⟩
theorem ZL.len{d n c:Nat}{t:Nat}{x:Operand}{ad:Option Addr}{i:TI}{e:TypeId}(ho:o.op=.call ⟨.builtin .len,#[x],#[t]⟩)(hdst:o.dst=some d)(hg:o.guard=none)(hx:evl l x=some (.slice ad n c))(hi:X.C.tt t=some i)(hk:i.k=.slice e)(hd:d<X.n0)(hD:X.D d)
  (h:ZL X ops r ((d,.int .i64 n)::l) Q):ZL X ops (o::r) l Q :=
 ⟨fun a w ha hw=>by
  have ht:=(X.C.ok _ _ hi).slice hk
  refine fk hg hdst hd hD ?_ ha hw h
  simp[execOp,ho,resolve,invoke,builtin,ha.ev hx,Builtin.len_,run_underlying ht,goInt]⟩
theorem ZL.bin{d t t2:Nat}{op:BinOp}{x y:Operand}{u v:Value}(hu:u.oneCell'=true)(hv:v.oneCell'=true)(ho:o.op=.binOp op t x y t2)(hdst:o.dst=some d)(hg:o.guard=none)(hx:evl l x=some u)(hy:evl l y=some v)(hd:d<X.n0)(hD:X.D d)
  (h:binX X.C op t (.d (.val u)) (.d (.val v)) fun s=>∃q,s=.d (.val q)∧ZL X ops r ((d,q)::l) Q):ZL X ops (o::r) l Q :=
 ⟨fun a w ha hw=>by
  obtain⟨q,s,h1,⟨q',rfl,h2⟩,h3⟩:=ow (C:=X.C) (E:=⟨fun _=>0,fun _=>0,fun _=>False⟩) (nx:=0) (w:=w) (x:=x) (y:=y) (.d _ _ (.val u hu)) (.d _ _ (.val v hv)) h
  obtain rfl:=h3.val_inv
  refine fk hg hdst hd hD ?_ ha hw h2
  have e:(execOp a.eval o).run X.C.P w=((do eqGuard op t x y u v;binOp op t u v:Sem Value).run X.C.P w).andThen fun v w'=>.ok (.value v) w':=by
   simp[execOp,ho,ha.ev hx,ha.ev hy]
   generalize Sem.run X.C.P (eqGuard op t x y u v) w=r
   cases r<;>simp
  rw[e,h1];rfl⟩
end
structure ZW(X:ZX)(c:Code)(l:List (Nat×Value))(Q:ZQ):Prop where
 out:∀a w,Fr X.n0 X.D X.a0 l a→ZR X.N X.w1 w→c.wp X.C.P (ZP X Q) a w
def zThen(X:ZX)(c:Code)(Q:ZQ):ZQ
 | .normal,l=>ZW X c l Q
 | e,l=>Q e l
def zBlk(id:Nat)(Q:ZQ):ZQ
 | .exit i,l=>if i=id then Q .normal l else Q (.exit i) l
 | e,l=>Q e l
section
variable{X:ZX}{c y:Code}{l:List (Nat×Value)}{Q:ZQ}
theorem ZW.seq(h:ZW X c l (zThen X y Q)):ZW X (.seq c y) l Q:=⟨fun a w ha hw=>wp_seq (wp_mono (h.out a w ha hw) fun e a' w' ⟨l',h1,h2,h3⟩=>by
 cases e with
 | normal=>exact h1.out a' w' h2 h3
 | _=>exact⟨l',h1,h2,h3⟩)⟩
theorem ZW.block{id:Nat}(h:ZW X c l (zBlk id Q)):ZW X (.block id c) l Q:=⟨fun a w ha hw=>wp_block (wp_mono (h.out a w ha hw) fun e a' w' ⟨l',h1,h2,h3⟩=>by
 cases e with
 | exit i =>
  simp only[zBlk]at h1
  by_cases hi:i=id
  ·rw[if_pos hi]at h1;simp only[Exit.inBlock,hi,if_true];exact⟨l',h1,h2,h3⟩
  ·rw[if_neg hi]at h1;simp only[Exit.inBlock,hi,if_false];exact⟨l',h1,h2,h3⟩
 | _=>exact⟨l',h1,h2,h3⟩)⟩
theorem ZW.skip(h:Q .normal l):ZW X .skip l Q:=⟨fun _ _ ha hw=>wp_skip ⟨l,h,ha,hw⟩⟩
theorem ZW.exit{id:Nat}(h:Q (.exit id) l):ZW X (.exit id) l Q:=⟨fun _ _ ha hw=>wp_exit ⟨l,h,ha,hw⟩⟩
theorem ZW.region{id:Nat}{ops:List Oper}(h:ZL X ops.toArray ops l Q):ZW X (.region id ops.toArray false) l Q:=⟨fun a w ha hw=>wp_region_lit (h.out a w ha hw)⟩
theorem ZW.cond{x:Operand}{b:Bool}(hx:evl l x=some (.bool b))(h:bif b then ZW X c l Q else ZW X y l Q):ZW X (.cond x c y) l Q :=
 ⟨fun a w ha hw=>wp_cond_split (ha.ev hx) (fun e=>by subst e;exact h.out a w ha hw) (fun e=>by subst e;exact h.out a w ha hw)⟩
theorem Fr.le{n0:Nat}{D:Nat→Prop}{a0 a:Act}{l l':List (Nat×Value)}(h:∀p∈l',lkv l p.1=some p.2)(ha:Fr n0 D a0 l a):Fr n0 D a0 l' a:=by
 refine⟨ha.sz,ha.df,fun n v hn=>?_,ha.old⟩
 have key:∀q:List (Nat×Value),(∀p∈q,lkv l p.1=some p.2)→lkv q n=some v→lkv l n=some v:=by
  intro q
  induction q with
  | nil=>intro _ h;cases h
  | cons p q ih =>
   intro hq h9
   obtain⟨m,u⟩:=p
   rw[iq]at h9
   by_cases e:m=n
   ·rw[if_pos e]at h9;cases h9;subst e;exact hq (m,v) (by simp)
   ·rw[if_neg e]at h9;exact ih (fun p hp=>hq p (by simp[hp])) h9
 exact ha.at_ n v (key l' h hn)
theorem ZW.loop{n:Nat}(I:Nat→List (Nat×Value))(h0:∀p∈I 0,lkv l p.1=some p.2)(h:∀j,j≤n→ZW X c (I j) fun e l'=>match e with|.normal=>j<n∧∀p∈I (j+1),lkv l' p.1=some p.2|e=>Q e l'):ZW X (.loop c) l Q :=
 ⟨fun a w ha hw=>by
  have hdet:∀a:Act,∃f:Nat→Nat,True:=fun _=>⟨id,trivial⟩
  refine wp_loop (fun a w=>∃j,j≤n∧Fr X.n0 X.D X.a0 (I j) a∧ZR X.N X.w1 w) (fun a w=>open Classical in if hx:∃m,∃j,j≤n∧n-j=m∧Fr X.n0 X.D X.a0 (I j) a∧ZR X.N X.w1 w then Classical.choose (qY (fun m=>∃j,j≤n∧n-j=m∧Fr X.n0 X.D X.a0 (I j) a∧ZR X.N X.w1 w) _ (Classical.choose_spec hx))else 0) ⟨0,Nat.zero_le _,Fr.le h0 ha,hw⟩ fun a w hI=>?_
  have hx:∃m,∃j,j≤n∧n-j=m∧Fr X.n0 X.D X.a0 (I j) a∧ZR X.N X.w1 w:=by obtain⟨j,h1,h2,h3⟩:=hI;exact⟨_,j,h1,rfl,h2,h3⟩
  have hc:=Classical.choose_spec (qY (fun m=>∃j,j≤n∧n-j=m∧Fr X.n0 X.D X.a0 (I j) a∧ZR X.N X.w1 w) _ (Classical.choose_spec hx))
  obtain⟨⟨j,hj,e1,ha1,hw1⟩,_⟩:=hc
  refine wp_mono ((h j hj).out a w ha1 hw1) fun e a' w' ⟨l',h1,h2,h3⟩=>?_
  cases e with
  | normal =>
   obtain⟨hlt,h4⟩:=h1
   have h5:=Fr.le h4 h2
   refine⟨⟨j+1,hlt,h5,h3⟩,?_⟩
   have hx':∃m,∃j,j≤n∧n-j=m∧Fr X.n0 X.D X.a0 (I j) a'∧ZR X.N X.w1 w':=⟨_,j+1,hlt,rfl,h5,h3⟩
   have hc':=(Classical.choose_spec (qY (fun m=>∃j,j≤n∧n-j=m∧Fr X.n0 X.D X.a0 (I j) a'∧ZR X.N X.w1 w') _ (Classical.choose_spec hx'))).2 (n-(j+1)) ⟨j+1,hlt,rfl,h5,h3⟩
   simp only[dif_pos hx,dif_pos hx']
   omega
  | _=>exact⟨l',h1,h2,h3⟩⟩
end
end
end Go.Proofs.YtejiekfnaddanaaGreat
