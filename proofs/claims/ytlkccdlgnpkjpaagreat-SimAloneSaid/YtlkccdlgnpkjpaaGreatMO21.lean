/- Lemmas of Ct2, Ct3, Ct4, Pl8a, Ct9, Sm4. No condition. -/
import Derived.Test.YtlkccdlgnpkjpaaGreatMO20
set_option linter.unusedVariables false
set_option linter.unusedSimpArgs false
set_option linter.unusedSectionVars false
set_option maxHeartbeats 80000000
set_option maxRecDepth 100000
namespace Go.Proofs.YtlkccdlgnpkjpaaGreat
open Go.RowKit
section
namespace Core
open Dir (FZ plc upd upW Iw okW dj upd_same upd_ne pow_pos2)
open Hm (bh)
variable{sm:List Int→Int}{P:Ops}
def hel(P:Ops)(M:Mc):List Int:=(allE P M).flatMap (·.held)
structure OpsPm(P:Ops)(V:Cel→Prop)(Q:Int→Int→List Int→Prop):Prop where
 new:∀op pol key,op=1∨op=2∨op=3→Q op pol key→V ⟨pol,key,0,[]⟩
 allow:∀p c t n,V c→V (P.allow p c t n).2∧(P.allow p c t n).2.held=c.held
 acq:∀key c n,Q 2 c.pol key→V c→n∉c.held→1≤n→n≤MAX→(c.held.length:Int)≠(P.pol c.pol).permits →
  (P.acq (P.pol c.pol) c n).1.e=0∧(P.acq (P.pol c.pol) c n).1.g=true∧V (P.acq (P.pol c.pol) c n).2∧(P.acq (P.pol c.pol) c n).2.held.Perm (n::c.held)
 rel:∀key c n,Q 3 c.pol key→V c→(P.rel (P.pol c.pol) c n).1.e=0→V (P.rel (P.pol c.pol) c n).2∧c.held.Perm (n::(P.rel (P.pol c.pol) c n).2.held)
 idle:∀c t,V c→P.idle c t=true→c.held=[]
variable{V:Cel→Prop}{Q:Int→Int→List Int→Prop}
def hit(M:Mc):CS→Bool
 | .pS f _ _=>M.W f.w==f.v
 | _=>false
theorem mA(hP:OpsOk sm P){M:Mc}{B:Int}(h:Iw M.W B)(hB:1≤B∧B+1<FZ){x:X}{s:CS}(hs:Cw x M.W s)(hI:Ih sm M)(hc:Ch sm P x M s)(h1:hit M s=false)(h2:∀j sh g w v m n,s≠.eS j sh g w v m n)(k:List Int):own sm (step P M x s).M k=own sm M k:=by
 cases(gQ hP h hB hs hI hc).own with
 | calm hd ho hn=>exact ho k
 | put f c r e hw h0 ho=>subst e;simp[hit,hw]at h1
 | evict j sh g w v m n e hw t ht hm' hn ho=>exact(h2 _ _ _ _ _ _ _ e).elim
def swB(x:X):CS→Bool
 | .b0 _ (.lv r)=>x.op==2&&r.e==0
 | .b1 _ (.lv r) _=>x.op==2&&r.e==0
 | _=>false
def b1(b:Bool):Int:=if b=true then 1 else 0
end Core
end
section
namespace Core
open Dir (FZ plc upd upW Iw okW dj upd_same upd_ne pow_pos2)
open Hm (bh)
variable{sm:List Int→Int}{P:Ops}{V:Cel→Prop}{Q:Int→Int→List Int→Prop}
structure Pm(sm:List Int→Int)(P:Ops)(V:Cel→Prop)(Q:Int→Int→List Int→Prop)(M:Mc)(S:Nat→Wk)(A:Int)(R:List Int):Prop where
 v:∀k c,own sm M k=some c→V c
 b:∀s∈hel P M,1≤s∧s≤M.W 33
 nd:(hel P M).Nodup
 pr:∀i,(S i).s≠.none→(S i).x.op=2→swB (S i).x (S i).s=false→(S i).x.ser∉hel P M
 q:∀i,(S i).s≠.none→Q (S i).x.op (S i).x.pol (S i).x.key
 fr:∀i,Fr P (S i).x (S i).s
 rl:∀s∈R,(1≤s∧s≤M.W 33)∧s∉hel P M∧∀i,(S i).s≠.none→(S i).x.op=2→swB (S i).x (S i).s=false→(S i).x.ser≠s
 rn:R.Nodup
 cnt:((hel P M).length:Int)=A+sumI 64 (fun i=>b1 (swB (S i).x (S i).s))-R.length
end Core
end
section
namespace Core
open Dir (FZ plc upd upW Iw okW dj upd_same upd_ne pow_pos2)
open Hm (bh)
variable{sm:List Int→Int}{P:Ops}{V:Cel→Prop}{Q:Int→Int→List Int→Prop}
end Core
end
section
theorem b9:∀{ys:List Int} {l:Int},dE l ys=true↔(∀x∈ys,nP x=true∧l<x)∧ys.Pairwise (·<·)
 | [],l=>by simp[dE]
 | x::r,l=>by
  have ih:=b9 (ys:=r) (l:=x)
  simp only[dE,Q5,decide_eq_true_eq,ih,List.mem_cons,List.pairwise_cons]
  constructor
  ·rintro⟨⟨h1,h2⟩,h3,h4⟩
   refine⟨fun y hy=>?_,fun y hy=>(h3 y hy).2,h4⟩
   rcases hy with rfl|hy
   ·exact⟨h1,h2⟩
   ·exact⟨(h3 y hy).1,by have:=(h3 y hy).2;omega⟩
  ·rintro⟨h1,h2,h3⟩
   exact⟨h1 x (Or.inl rfl),fun y hy=>⟨(h1 y (Or.inr hy)).1,h2 y hy⟩,h3⟩
theorem s8{ys:List Int}{k:Nat}(h:k<ys.length):ys.getD k default∈ys:=by
 rw[Q1,Q0 h];exact Q14 h
theorem bX{ys:List Int}{k:Nat}(h:k<ys.length):ys.getD k default=ys[k]:=by
 rw[Q1,Q0 h];rfl
section
variable{ys:List Int}{t:Int}
theorem mH(h:ys.Pairwise (·<·)):(∀k,k<dF ys t→ys.getD k default<t)∧∀k,dF ys t≤k→k<ys.length→¬ys.getD k default<t:=by
 have:=tR (lt:=fun k=>decide (ys.getD k default<t)) (n:=ys.length) (fun i j hij hj hlt=>by
  simp only[decide_eq_true_eq]at hlt⊢
  by_cases e:i=j
  ·subst e;exact hlt
  ·have:=List.pairwise_iff_getElem.1 h i j (by omega) hj (by omega)
   rw[bX hj]at hlt
   rw[bX (show i<ys.length by omega)]
   omega)
 refine⟨fun k hk=>?_,fun k hk hkn=>?_⟩
 ·have:=this.1 k hk
  simpa using this
 ·have:=this.2 k hk hkn
  simp only[decide_eq_false_iff_not]at this
  exact this
theorem hX(h:ys.Pairwise (·<·)):lN ys t=true↔t∈ys:=by
 obtain⟨h1,h2⟩:=mH (t:=t) h
 unfold lN
 simp only[Q5,decide_eq_true_eq]
 constructor
 ·rintro⟨a,b⟩
  rw[← b];exact s8 a
 ·intro hm
  obtain⟨k,hk,rfl⟩:=List.getElem_of_mem hm
  have g1:¬k<dF ys ys[k]:=fun hlt=>by have:=h1 k hlt;rw[bX hk]at this;omega
  have g2:¬dF ys ys[k]<k:=fun hlt=>by
   have:=h2 _ (Q4 _) (by omega)
   rw[bX (show dF ys ys[k]<ys.length by omega)]at this
   have:=List.pairwise_iff_getElem.1 h _ k (show dF ys ys[k]<ys.length by omega) hk hlt
   omega
  have e:dF ys ys[k]=k:=by omega
  rw[e,bX hk]
  exact⟨hk,rfl⟩
theorem yn(h:dE 0 ys=true)(ht:nP t=true)(hn:t∉ys):dE 0 (bP ys (dF ys t) t)=true∧∀x,x∈bP ys (dF ys t) t↔x=t∨x∈ys:=by
 obtain⟨a,b⟩:=b9.1 h
 obtain⟨h1,h2⟩:=mH (t:=t) b
 have hm:∀x,x∈bP ys (dF ys t) t↔x=t∨x∈ys:=fun x=>by
  unfold bP
  rw[List.mem_append,List.mem_append,List.mem_singleton]
  constructor
  ·rintro((h|h)|h)
   ·exact Or.inr (List.mem_of_mem_take h)
   ·exact Or.inl h
   ·exact Or.inr (List.mem_of_mem_drop h)
  ·rintro(h|h)
   ·exact Or.inl (Or.inr h)
   ·rw[← List.take_append_drop (dF ys t) ys]at h
    rcases List.mem_append.1 h with h|h
    ·exact Or.inl (Or.inl h)
    ·exact Or.inr h
 refine⟨b9.2 ⟨fun x hx=>?_,?_⟩,hm⟩
 ·rcases(hm x).1 hx with rfl|hx
  ·refine⟨ht,?_⟩
   simp[nP]at ht;omega
  ·exact a x hx
 ·unfold bP
  rw[List.append_assoc,List.pairwise_append]
  refine⟨b.sublist (List.take_sublist _ _),?_,fun x hx y hy=>?_⟩
  ·rw[List.singleton_append,List.pairwise_cons]
   refine⟨fun y hy=>?_,b.sublist (List.drop_sublist _ _)⟩
   obtain⟨k,hk,rfl⟩:=List.getElem_of_mem hy
   rw[List.length_drop]at hk
   rw[List.getElem_drop]
   have h3:=h2 (dF ys t+k) (by omega) (by omega)
   rw[bX (show dF ys t+k<ys.length by omega)]at h3
   have h4:ys[dF ys t+k]≠t:=fun e=>hn (by rw[← e];exact Q14 _)
   omega
  ·obtain⟨k,hk,rfl⟩:=List.getElem_of_mem hx
   rw[Q10]at hk
   rw[List.getElem_take]
   have h3:=h1 k (by omega)
   rw[bX (show k<ys.length by omega)]at h3
   rw[List.singleton_append]at hy
   rcases Q22 hy with rfl|hy
   ·exact h3
   ·obtain⟨j,hj,rfl⟩:=List.getElem_of_mem hy
    rw[List.length_drop]at hj
    rw[List.getElem_drop]
    exact List.pairwise_iff_getElem.1 b k _ (by omega) (by omega) (by omega)
theorem pL(h:dE 0 ys=true)(hn:t∈ys):dE 0 (cR ys (dF ys t))=true∧(∀x,x∈cR ys (dF ys t)↔x≠t∧x∈ys)∧(cR ys (dF ys t)).length+1=ys.length:=by
 obtain⟨a,b⟩:=b9.1 h
 have hh:=(hX b).2 hn
 have hl:=lM hh
 have he:ys.getD (dF ys t) default=t:=by
  unfold lN at hh
  simp only[Q5,decide_eq_true_eq]at hh;exact hh.2
 rw[bX hl]at he
 have hsub:(cR ys (dF ys t)).Sublist ys:=by
  unfold cR
  have h2:(ys.take (dF ys t)++ys.drop (dF ys t)).Sublist ys:=by rw[List.take_append_drop];exact List.Sublist.refl _
  refine List.Sublist.trans (List.Sublist.append (List.Sublist.refl _) ?_) h2
  rw[List.drop_eq_getElem_cons hl]
  exact List.sublist_cons_self _ _
 refine⟨b9.2 ⟨fun x hx=>a x (hsub.subset hx),b.sublist hsub⟩,fun x=>?_,by rw[dV _ _ hl];omega⟩
 constructor
 ·intro hx
  refine⟨fun e=>?_,hsub.subset hx⟩
  subst e
  unfold cR at hx
  rcases List.mem_append.1 hx with hx|hx
  ·obtain⟨k,hk,e⟩:=List.getElem_of_mem hx
   rw[Q10]at hk
   rw[List.getElem_take]at e
   have:=List.pairwise_iff_getElem.1 b k _ (by omega) hl (by omega)
   omega
  ·obtain⟨k,hk,e⟩:=List.getElem_of_mem hx
   rw[List.length_drop]at hk
   rw[List.getElem_drop]at e
   have:=List.pairwise_iff_getElem.1 b _ (dF ys x+1+k) hl (by omega) (by omega)
   omega
 ·rintro⟨h1,h2⟩
  unfold cR
  rw[← List.take_append_drop (dF ys t) ys]at h2
  rcases List.mem_append.1 h2 with h2|h2
  ·exact List.mem_append_left _ h2
  ·rw[List.drop_eq_getElem_cons hl,he]at h2
   rcases Q22 h2 with h2|h2
   ·exact absurd h2 h1
   ·exact List.mem_append_right _ h2
end
end
def Vt(c:Cel):Prop:=(c.pol=0∧c.held=[])∨(c.pol=1∧gB 2 c.held=0)
def Qt(op pol:Int)(_:List Int):Prop:=(op≤4→pol=0∨pol=1)∧(op=2∨op=3→pol=1)
theorem e7{p:Int}{xs:List Int}:gB p xs=0↔1≤p∧p≤64∧(xs.length:Int)≤p∧dE 0 xs=true:=by
 unfold gB;split
 ·rename_i h;exact⟨fun _=>h,fun _=>rfl⟩
 ·rename_i h;exact⟨fun e=>by omega,fun e=>absurd e h⟩
theorem yo{α:Type}(xs:List α)(i:Nat)(x:α)(h:i≤xs.length):(bP xs i x).Perm (x::xs):=by
 unfold bP
 have:=List.perm_middle (l₁:=xs.take i) (a:=x) (l₂:=xs.drop i)
 rw[List.take_append_drop]at this
 simpa using this
theorem yI{xs:List Int}{n:Int}(h:dE 0 xs=true)(hn:n∈xs):xs.Perm (n::cR xs (dF xs n)):=by
 have h1:=pL h hn
 have nd:∀{ys:List Int},dE 0 ys=true→ys.Nodup:=fun h=>by
  rw[List.nodup_iff_pairwise_ne]
  exact(b9.1 h).2.imp fun {a b} hab=>by omega
 refine(List.perm_ext_iff_of_nodup (nd h) (List.nodup_cons.2 ⟨fun e=>((h1.2.1 n).1 e).1 rfl,nd h1.1⟩)).2 fun y=>?_
 rw[List.mem_cons,h1.2.1]
 by_cases e:y=n
 ·subst e;simp[hn]
 ·simp[e]
theorem kU(room:Int):Core.OpsPm (aa ak room) Vt Qt where
 new op pol key ho h:=by
  rcases h.1 (by omega)with e|e
  ·exact .inl ⟨e,rfl⟩
  ·exact .inr ⟨e,by show gB 2 []=0;decide⟩
 allow p c t n h:=⟨h,rfl⟩
 acq key c n hq h hn h1 h2 hl:=by
  have hp:c.pol=1:=hq.2 (.inl rfl)
  have hs:gB 2 c.held=0:=by
   rcases h with⟨e,_⟩|⟨_,e⟩
   ·omega
   ·exact e
  have e2:(aa ak room).pol c.pol=⟨2,0,0,2⟩:=by rw[hp];rfl
  rw[e2]at hl⊢
  have hr:=(e7.1 hs).2.2.2
  have hh:lN c.held n=false:=by
   cases e:lN c.held n with
   | false=>rfl
   | true=>exact absurd ((hX (b9.1 hr).2).1 e) hn
  have hM:Core.MAX=4611686018427387903:=rfl
  have hb:nP n=true:=by simp[nP];omega
  have ht:bN 2 c.held n=0:=nJ.2 ⟨hb,hs,hh,hl⟩
  have hbd:=gP ht
  have hC:fR ⟨2,0,0,2⟩ c n=⟨c.pol,c.key,c.tat,bP c.held (dF c.held n) n⟩:=by
   unfold fR;rw[if_pos ht,eK,if_pos ht]
  have hR:jm ⟨2,0,0,2⟩ c n=⟨0,true,2-(eK 2 c.held n).length,0,n,0⟩:=by unfold jm;rw[if_pos ht]
  show(jm ⟨2,0,0,2⟩ c n).e=0∧(jm ⟨2,0,0,2⟩ c n).g=true∧Vt (fR ⟨2,0,0,2⟩ c n)∧(fR ⟨2,0,0,2⟩ c n).held.Perm (n::c.held)
  rw[hR,hC]
  refine⟨rfl,rfl,.inr ⟨hp,?_⟩,yo _ _ _ (li _ _)⟩
  refine e7.2 ⟨by omega,by omega,?_,(yn hr hb hn).1⟩
  have:=hbd.2.2
  rwa [eK,if_pos ht]at this
 rel key c n hq h he:=by
  have hp:c.pol=1:=hq.2 (.inr rfl)
  have hs:gB 2 c.held=0:=by
   rcases h with⟨e,_⟩|⟨_,e⟩
   ·omega
   ·exact e
  have e2:(aa ak room).pol c.pol=⟨2,0,0,2⟩:=by rw[hp];rfl
  rw[e2]at he⊢
  replace he:(jo ⟨2,0,0,2⟩ c n).e=0:=he
  have hr:=(e7.1 hs).2.2.2
  have ht:cX 2 c.held n=0:=by
   unfold jo at he
   split at he
   ·assumption
   ·exact he
  have hn:n∈c.held:=(hX (b9.1 hr).2).1 (oe.1 ht).2
  have hbd:=ia ht
  have hC:jp ⟨2,0,0,2⟩ c n=⟨c.pol,c.key,c.tat,cR c.held (dF c.held n)⟩:=by
   unfold jp;rw[if_pos ht,iY,if_pos ht]
  show Vt (jp ⟨2,0,0,2⟩ c n)∧c.held.Perm (n::(jp ⟨2,0,0,2⟩ c n).held)
  rw[hC]
  refine⟨.inr ⟨hp,e7.2 ⟨by omega,by omega,?_,(pL hr hn).1⟩⟩,yI hr hn⟩
  have:=hbd.2.2
  rw[iY,if_pos ht]at this
  show((cR c.held (dF c.held n)).length:Int)≤2
  omega
 idle c t h hi:=by
  rcases h with⟨_,e⟩|⟨e,_⟩
  ·exact e
  ·replace hi:aH ak c t=true:=hi
   have hk:(ak.getD c.pol.toNat default).kind=2:=by rw[e];rfl
   unfold aH at hi
   rw[if_pos hk]at hi
   have:c.held.length=0:=by simpa using hi
   exact List.eq_nil_of_length_eq_zero this
section
namespace Sim
open Dir (upd upd_same upd_ne)
structure db(c:Req):Prop where
 chk:l7 ak c.op c.pol c.key c.n=0
 op:1≤c.op∧c.op≤6
 len:c.key.length≤255
 kx:c.op≠5→c.op≠6→Core.Kx ak (aJ c.op c.pol c.key c.n)
 n:0≤c.n
structure SI(room:Int)(xs:Nat→XB)(nl:Nat)(s:SS):Prop where
 law:eW ak room s.k s.M s.S xs nl ((s.k:Int)+1)
 cok:∀j,∀c∈(s.ws j).left,db c
 big:∀j,8≤j→(s.S j).s=.none∧(s.ws j).left=[]
variable{room:Int}{xs:Nat→XB}{nl:Nat}{s:SS}
theorem SI.w8(h:SI room xs nl s){w:Nat}(hc:isC (s.S w).s=true):w<8:=by
 by_cases e:w<8
 ·exact e
 ·have:=(h.big w (by omega)).1
  rw[this]at hc;cases hc
theorem SI.w8l(h:SI room xs nl s){w:Nat}{c:Req}{r:List Req}(hl:(s.ws w).left=c::r):w<8:=by
 by_cases e:w<8
 ·exact e
 ·have:=(h.big w (by omega)).2
  rw[this]at hl;cases hl
theorem SI.to(h:SI room xs nl s){w:Nat}(hw:w<8){xs':Nat→XB}{nl':Nat}(hL:eW ak room (s.k+1) (Core.mx (aa ak room) s.M s.S w) (Core.nx (aa ak room) s.M s.S w) xs' nl' ((s.k:Int)+1+1)) :
  SI room xs' nl' (adv (aa ak room) s w):=by
 refine⟨by show eW ak room (s.k+1) _ _ _ _ (((s.k+1:Nat):Int)+1);rw[show(((s.k+1:Nat):Int)+1)=(s.k:Int)+1+1 by omega];exact hL,h.cok,fun j hj=>⟨?_,(h.big j hj).2⟩⟩
 show(Core.nx (aa ak room) s.M s.S w j).s=.none
 unfold Core.nx;rw[upd_ne _ _ (by omega)];exact(h.big j hj).1
theorem SI.beg(h:SI room xs nl s){w:Nat}{c:Req}{r:List Req}(hl:(s.ws w).left=c::r){xs':Nat→XB}(hL:eW ak room s.k s.M (upd s.S w (newC c)) xs' nl ((s.k:Int)+1)):SI room xs' nl (beg s w c r):=by
 have hw:=h.w8l hl
 refine⟨hL,fun j d hd=>?_,fun j hj=>⟨?_,?_⟩⟩
 ·replace hd:d∈(upd s.ws w ⟨r,c,(s.k:Int)+1⟩ j).left:=hd
  by_cases e:j=w
  ·subst e
   rw[upd_same]at hd
   exact h.cok j d (by rw[hl];exact List.mem_cons_of_mem _ hd)
  ·rw[upd_ne _ _ e]at hd;exact h.cok j d hd
 ·show(upd s.S w (newC c) j).s=.none
  rw[upd_ne _ _ (by omega)];exact(h.big j hj).1
 ·show(upd s.ws w ⟨r,c,(s.k:Int)+1⟩ j).left=[]
  rw[upd_ne _ _ (by omega)];exact(h.big j hj).2
theorem SI.tick(h:SI room xs nl s){t:Int}(ht:0≤t):SI room xs nl (tick s t):=by
 have:=h.law.clk
 exact⟨h.law.tick (t:=min (s.M.clk+t) 4611686018427387903) (by omega),h.cok,h.big⟩
theorem SI.go(h:SI room xs nl s)(hk:s.k≤900000)(w:Nat):∃xs' nl',SI room xs' nl' (go (aa ak room) s w).1:=by
 unfold Sim.go
 split
 ·rename_i hc
  have hw:=h.w8 hc
  exact⟨_,_,h.to hw (h.law.step (by omega) (.inl hw) hc)⟩
 ·rename_i hc
  have hn:isC (s.S w).s=false:=by simpa using hc
  split
  ·exact⟨xs,nl,h⟩
  ·rename_i c r hl
   have hw:=h.w8l hl
   have hok:=h.cok w c (by rw[hl];exact List.mem_cons_self ..)
   have hL:=h.law.start (.inl hw) (mQ hn) (key:=c.key) (n:=c.n) hok.kx
   have hb:=h.beg hl hL
   have hp:isC ((Sim.beg s w c r).S w).s=true:=by
    show isC (upd s.S w (newC c) w).s=true
    rw[upd_same]
    show isC (Core.first (aJ c.op c.pol c.key c.n))=true
    unfold Core.first;(repeat' split)<;>rfl
   exact⟨_,_,hb.to hw (hb.law.step (by show s.k≤1000000;omega) (.inl hw) hp)⟩
theorem zk(h:SI room xs nl s){w:Nat}(hc:isC (s.S w).s=true):mu (adv (aa ak room) s w) w+1≤mu s w:=by
 have hp:=Core.T_pos (h.law.all.inv.cw w) (mR hc)
 show Core.T (Core.nx (aa ak room) s.M s.S w w).x (Core.mx (aa ak room) s.M s.S w).W (Core.nx (aa ak room) s.M s.S w w).s+166*(s.ws w).left.length+1≤_
 unfold mu
 cases hd:(Core.step (aa ak room) s.M (s.S w).x (s.S w).s).r.done with
 | false =>
  have:=(Core.alone_T (P:=aa ak room) h.law.all.inv (mR hc) hd).2
  omega
 | true =>
  have e:(Core.nx (aa ak room) s.M s.S w w).s=.none:=by unfold Core.nx;rw[upd_same];exact Core.step_none hd
  rw[e]
  show 0+_+1≤_
  omega
theorem qq(h:SI room xs nl s){w:Nat}(hg:(go (aa ak room) s w).2=true):mu (go (aa ak room) s w).1 w+1≤mu s w:=by
 unfold Sim.go at hg⊢
 split
 ·rename_i hc;exact zk h hc
 ·rename_i hc
  rw[if_neg hc]at hg
  have hn:isC (s.S w).s=false:=by simpa using hc
  split
  ·rename_i hl;rw[hl]at hg;cases hg
  ·rename_i c r hl
   have hok:=h.cok w c (by rw[hl];exact List.mem_cons_self ..)
   have hb:=h.beg hl (h.law.start (.inl (h.w8l hl)) (mQ hn) (key:=c.key) (n:=c.n) hok.kx)
   have hp:isC ((Sim.beg s w c r).S w).s=true:=by
    show isC (upd s.S w (newC c) w).s=true
    rw[upd_same]
    show isC (Core.first (aJ c.op c.pol c.key c.n))=true
    unfold Core.first;(repeat' split)<;>rfl
   have h1:=zk hb hp
   have h2:mu (Sim.beg s w c r) w≤165+166*r.length:=by
    have:=Core.T_le (hb.law.all.inv.cw w)
    unfold mu
    have e:((Sim.beg s w c r).ws w).left=r:=by show(upd s.ws w ⟨r,c,(s.k:Int)+1⟩ w).left=r;rw[upd_same]
    rw[e];omega
   have h3:166*(r.length+1)≤mu s w:=by unfold mu;rw[hl,List.length_cons];omega
   show mu (adv (aa ak room) (Sim.beg s w c r) w) w+1≤mu s w
   omega
theorem go_k(P:Core.Ops)(s:SS)(w:Nat):(go P s w).1.k≤s.k+1:=by
 unfold Sim.go
 split
 ·exact Q4 _
 ·split
  ·exact Nat.le_succ _
  ·exact Q4 _
theorem yt{P:Core.Ops}{s:SS}{w:Nat}(h:(go P s w).2=false):isC (s.S w).s=false∧(s.ws w).left=[]∧(go P s w).1=s:=by
 unfold Sim.go at h⊢
 split
 ·rename_i hc;rw[if_pos hc]at h;cases h
 ·rename_i hc
  rw[if_neg hc]at h
  split
  ·rename_i hl;exact⟨by simpa using hc,hl,rfl⟩
  ·rename_i hl;rw[hl]at h;cases h
theorem tn(w:Nat):∀(f:Nat) {xs:Nat→XB} {nl:Nat} {s:SS},SI room xs nl s→s.k+f≤900000→mu s w≤f →
  (∃xs' nl',SI room xs' nl' (fin (aa ak room) f s w))∧isC ((fin (aa ak room) f s w).S w).s=false∧((fin (aa ak room) f s w).ws w).left=[]∧(fin (aa ak room) f s w).k≤s.k+f
 | 0,xs,nl,s,h,hk,hm=>by
  have hg:(go (aa ak room) s w).2=false:=by
   cases e:(go (aa ak room) s w).2 with
   | false=>rfl
   | true=>have:=qq h e;omega
  obtain⟨h1,h2,_⟩:=yt hg
  exact⟨⟨xs,nl,h⟩,h1,h2,Q4 _⟩
 | f+1,xs,nl,s,h,hk,hm=>by
  unfold fin
  cases e:(go (aa ak room) s w).2 with
  | false =>
   obtain⟨h1,h2,_⟩:=yt e
   rw[if_neg (by decide)]
   exact⟨⟨xs,nl,h⟩,h1,h2,Nat.le_add_right _ _⟩
  | true =>
   rw[if_pos rfl]
   obtain⟨xs',nl',h'⟩:=h.go (by omega) w
   have h1:=qq h e
   have h2:=go_k (aa ak room) s w
   obtain⟨a,b,c,d⟩:=tn w f h' (by omega) (by omega)
   exact⟨a,b,c,by omega⟩
def muS(s:SS):Nat→Nat
 | 0=>0
 | n+1=>muS s n+(165+166*(s.ws n).left.length)
theorem mu_le(h:SI room xs nl s)(w:Nat):mu s w≤165+166*(s.ws w).left.length:=by
 have:=Core.T_le (h.law.all.inv.cw w)
 unfold mu;omega
theorem lT(b:Bool):∀(n:Nat) {xs:Nat→XB} {nl:Nat} {s:SS},SI room xs nl s→s.k+muS s n≤900000 →
  (∃xs' nl',SI room xs' nl' (eT (aa ak room) b n s))∧(eT (aa ak room) b n s).k≤s.k+muS s n∧(b=true→∀j,j<n→isC ((eT (aa ak room) b n s).S j).s=false∧((eT (aa ak room) b n s).ws j).left=[])
 | 0,xs,nl,s,h,hk=>⟨⟨xs,nl,h⟩,Q4 _,fun _ j hj=>by omega⟩
 | n+1,xs,nl,s,h,hk=>by
  simp only[muS]at hk
  obtain⟨⟨xs1,nl1,h1⟩,h2,h3⟩:=lT b n h (by omega)
  unfold eT
  cases b with
  | false =>
   rw[if_neg (by decide)]
   refine⟨⟨xs1,nl1,h1⟩,by simp only[muS];omega,fun e=>by cases e⟩
  | true =>
   rw[if_pos rfl]
   have ho:=lS (P:=aa ak room) true n s n (Q4 _)
   have hm:=mu_le h1 n
   rw[ho.2]at hm
   obtain⟨a,b,c,d⟩:=tn n (mu (eT (aa ak room) true n s) n) h1 (by omega) (Q4 _)
   refine⟨a,by simp only[muS];omega,fun _ j hj=>?_⟩
   by_cases e:j=n
   ·subst e;exact⟨b,c⟩
   ·have g:=ou (P:=aa ak room) (w:=n) (j:=j) e (mu (eT (aa ak room) true n s) n) (eT (aa ak room) true n s)
    obtain⟨g1,g2⟩:=h3 rfl j (by omega)
    exact⟨by rw[g.1];exact g1,by rw[g.2];exact g2⟩
theorem SI.zero(hr:1≤room∧room≤4096){work:List (List Req)}(hw:work.length≤8∨∀j,8≤j→work.getD j []=[])(hc:∀w∈work,∀c∈w,db c):SI room xs0 (aC 0) (ss0 work):=by
 refine⟨eW.zero nK hr,fun j c h=>?_,fun j hj=>⟨rfl,?_⟩⟩
 ·replace h:c∈work.getD j []:=h
  rw[Q1]at h
  cases e:work[j]? with
  | none=>rw[e]at h;cases h
  | some w=>rw[e]at h;exact hc w (List.mem_of_getElem? e) c h
 ·show work.getD j []=[]
  rcases hw with hw|hw
  ·rw[Q1,List.getElem?_eq_none (by omega)];rfl
  ·exact hw j hj
end Sim
end
end Go.Proofs.YtlkccdlgnpkjpaaGreat
