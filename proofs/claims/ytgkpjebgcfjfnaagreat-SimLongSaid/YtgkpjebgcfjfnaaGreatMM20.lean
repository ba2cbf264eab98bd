/- Lemmas of Ct2, Ct3, Ct4, Pl8a, Ct9, Sm4. No condition. -/
import Derived.Test.YtgkpjebgcfjfnaaGreatMM19
set_option linter.unusedVariables false
set_option linter.unusedSimpArgs false
set_option linter.unusedSectionVars false
set_option maxHeartbeats 80000000
set_option maxRecDepth 100000
namespace Go.Proofs.YtgkpjebgcfjfnaaGreat
open Go.RowKit
section
namespace Core
open Dir (FZ plc upd upW Iw okW de upd_same upd_ne pow_pos2)
open Hm (aZ)
variable{sm:List Int→Int}{P:Ops}
def hel(P:Ops)(M:Mc):List Int:=(allE P M).flatMap (·.held)
theorem bj(hP:OpsOk sm P){M:Mc}{B:Int}(h:Iw M.W B)(hI:Ih sm M):(allE P M).Nodup:=by
 rw[List.nodup_iff_pairwise_ne]
 exact(all_ok hP h hI).1.imp fun {a b} hab e=>hab (by rw[e])
theorem w6(hP:OpsOk sm P){M M':Mc}{B B':Int}(h:Iw M.W B)(hI:Ih sm M)(h':Iw M'.W B')(hI':Ih sm M')(ho:∀k,own sm M' k=own sm M k):(allE P M').Perm (allE P M):=by
 refine(List.perm_ext_iff_of_nodup (bj hP h' hI') (bj hP h hI)).2 fun c=>?_
 rw[(all_ok hP h' hI').2,(all_ok hP h hI).2,ho]
theorem all_put(hP:OpsOk sm P){M M':Mc}{B B':Int}(h:Iw M.W B)(hI:Ih sm M)(h':Iw M'.W B')(hI':Ih sm M'){k0:List Int}{c:Cel}(ho:∀k,own sm M' k=if k=k0 then some c else own sm M k) :
  ∃F,(allE P M').Perm (c::F)∧(allE P M).Perm ((own sm M k0).toList++F):=by
 have hk:idn c=k0:=fk (by rw[ho,if_pos rfl]:own sm M' k0=some c)
 have hF:((allE P M).filter fun e=>decide (idn e≠k0)).Nodup:=(bj hP h hI).filter _
 have hm:∀e,e∈(allE P M).filter (fun e=>decide (idn e≠k0))↔own sm M (idn e)=some e∧idn e≠k0:=fun e=>by
  rw[List.mem_filter,(all_ok hP h hI).2,decide_eq_true_eq]
 refine⟨_,(List.perm_ext_iff_of_nodup (bj hP h' hI') (List.nodup_cons.2 ⟨fun h9=>((hm c).1 h9).2 hk,hF⟩)).2 fun e=>?_,(List.perm_ext_iff_of_nodup (bj hP h hI) (List.nodup_append.2 ⟨?_,hF,fun a ha b hb e=>?_⟩)).2 fun e=>?_⟩
 ·rw[(all_ok hP h' hI').2,ho,List.mem_cons,hm]
  by_cases e1:idn e=k0
  ·rw[if_pos e1]
   constructor
   ·intro h9;cases h9;exact .inl rfl
   ·rintro(h9|h9)
    ·rw[h9]
    ·exact absurd e1 h9.2
  ·rw[if_neg e1]
   constructor
   ·exact fun h9=>.inr ⟨h9,e1⟩
   ·rintro(h9|h9)
    ·rw[h9]at e1;exact absurd hk e1
    ·exact h9.1
 ·cases own sm M k0<;>simp
 ·subst e
  have h1:=(hm a).1 hb
  cases e2:own sm M k0 with
  | none=>rw[e2]at ha;simp at ha
  | some d =>
   rw[e2]at ha
   obtain rfl:a=d:=by simpa using ha
   exact h1.2 (fk e2)
 ·rw [(all_ok hP h hI).2,List.mem_append,hm]
  constructor
  ·intro h9
   by_cases e1:idn e=k0
   ·left;rw[← e1,h9];simp
   ·exact .inr ⟨h9,e1⟩
  ·rintro(h9|h9)
   ·cases e2:own sm M k0 with
    | none=>rw[e2]at h9;simp at h9
    | some d =>
     rw[e2]at h9
     obtain rfl:e=d:=by simpa using h9
     rw[fk e2,e2]
   ·exact h9.1
theorem sD(hP:OpsOk sm P){M M':Mc}{B B':Int}(h:Iw M.W B)(hI:Ih sm M)(h':Iw M'.W B')(hI':Ih sm M'){w:Nat}(hw:1≤w∧w<32){t:Int}
  (ho:∀k,own sm M' k=if aZ M.W (sm k)=w then look (fY P (M.Hd w) t) k else own sm M k) :
  ∃G,(allE P M).Perm (allE P M'++G)∧∀c∈G,own sm M (idn c)=some c∧P.idle c t=true:=by
 have hs:Srt (M.Hd w):=hI.word hw
 have hr:Srt (fY P (M.Hd w) t):=hs.filter _
 have hb:∀e,own sm M' (idn e)=some e↔own sm M (idn e)=some e∧¬(aZ M.W (sm (idn e))=w∧P.idle e t=true):=fun e=>by
  rw[ho]
  by_cases e1:aZ M.W (sm (idn e))=w
  ·rw[if_pos e1]
   have:own sm M (idn e)=look (M.Hd w) (idn e):=by unfold own;rw[e1]
   rw[this,dq hr,dq hs]
   show e∈(M.Hd w).filter _↔_
   rw[List.mem_filter]
   simp[e1]
  ·rw[if_neg e1];simp[e1]
 refine⟨(allE P M).filter fun e=>decide (aZ M.W (sm (idn e))=w)&&P.idle e t,(List.perm_ext_iff_of_nodup (bj hP h hI) (List.nodup_append.2 ⟨bj hP h' hI',(bj hP h hI).filter _,fun a ha b hb2 e=>?_⟩)).2 fun e=>?_,fun c hc=>?_⟩
 ·subst e
  rw[(all_ok hP h' hI').2,hb]at ha
  have:=(List.mem_filter.1 hb2).2
  simp only[Q5,decide_eq_true_eq]at this
  exact ha.2 this
 ·rw[List.mem_append,(all_ok hP h' hI').2,hb,List.mem_filter,(all_ok hP h hI).2]
  simp only[Q5,decide_eq_true_eq]
  constructor
  ·intro h9
   by_cases e1:aZ M.W (sm (idn e))=w∧P.idle e t=true
   ·exact .inr ⟨h9,e1⟩
   ·exact .inl ⟨h9,e1⟩
  ·rintro(h9|h9)<;>exact h9.1
 ·obtain⟨h1,h2⟩:=List.mem_filter.1 hc
  simp only[Q5,decide_eq_true_eq]at h2
  exact⟨((all_ok hP h hI).2 c).1 h1,h2.2⟩
structure OpsPm(P:Ops)(V:Cel→Prop)(Q:Int→Int→List Int→Prop):Prop where
 new:∀op pol key,op=1∨op=2∨op=3→Q op pol key→V ⟨pol,key,0,[]⟩
 allow:∀p c t n,V c→V (P.allow p c t n).2∧(P.allow p c t n).2.held=c.held
 acq:∀key c n,Q 2 c.pol key→V c→n∉c.held→1≤n→n≤MAX→(c.held.length:Int)≠(P.pol c.pol).permits →
  (P.acq (P.pol c.pol) c n).1.e=0∧(P.acq (P.pol c.pol) c n).1.g=true∧V (P.acq (P.pol c.pol) c n).2∧(P.acq (P.pol c.pol) c n).2.held.Perm (n::c.held)
 rel:∀key c n,Q 3 c.pol key→V c→(P.rel (P.pol c.pol) c n).1.e=0→V (P.rel (P.pol c.pol) c n).2∧c.held.Perm (n::(P.rel (P.pol c.pol) c n).2.held)
 idle:∀c t,V c→P.idle c t=true→c.held=[]
variable{V:Cel→Prop}{Q:Int→Int→List Int→Prop}
def hit(M:Mc):CS→Bool
 | .pS f _ _=>M.W f.w==f.v
 | _=>false
inductive PE(P:Ops)(M:Mc)(x:X)(s:CS)(M':Mc):Prop
 | calm (h:(hel P M').Perm (hel P M)) (ho:hit M s=true→x.op=1)
 | acq (hh:hit M s=true) (ho:x.op=2) (h:(hel P M').Perm (x.ser::hel P M)) (hr:∀f c r,s=.pS f c r→r.e=0)
 | rel (hh:hit M s=true) (ho:x.op=3) (h:(hel P M).Perm (x.n::hel P M')) (hr:∀f c r,s=.pS f c r→r.e=0)
theorem mem_hel(hP:OpsOk sm P){M:Mc}{B:Int}(h:Iw M.W B)(hI:Ih sm M){k:List Int}{c:Cel}(hk:own sm M k=some c){n:Int}(hn:n∈c.held):n∈hel P M :=
 List.mem_flatMap.2 ⟨c,((all_ok hP h hI).2 c).2 (by rw[fk hk];exact hk),hn⟩
theorem step_pm(hP:OpsOk sm P)(hQ:OpsPm P V Q){M:Mc}{B:Int}(h:Iw M.W B)(hB:1≤B∧B+1<FZ){x:X}(hx:0≤x.ser)(h33:0≤M.W 33){s:CS}(hs:Cw x M.W s)(hI:Ih sm M)(hc:Ch sm P x M s)(hf:Fr P x s)
  (hV:∀k c,own sm M k=some c→V c) (hq:s≠.none→Q x.op x.pol x.key) (hm:x.ser≤MAX) (hnew:x.op=2→hit M s=true→x.ser∉hel P M) :
  (∀k c,own sm (step P M x s).M k=some c→V c)∧PE P M x s (step P M x s).M:=by
 have he:=gf hP h hB hs hI hc
 have iw':=(cN (P:=P) h hB hx h33 hs).iw
 have ih':=he.ih
 cases he.own with
 | calm hd ho hn =>
  refine⟨fun k c hk=>hV k c (by rw[← ho];exact hk),.calm ((w6 hP h hI iw' ih' ho).flatMap_right _) fun h9=>?_⟩
  cases s with
  | pS f c r=>exact absurd (by simpa[hit]using h9) (hn f c r rfl)
  | _=>simp[hit]at h9
 | put f c r e hw h0 ho =>
  subst e
  have hk:Kd sm P x M f:=hc.1
  have hhit:hit M (.pS f c r)=true:=by simpa[hit]using hw
  have hq:=hq (by simp)
  have hcell:f.cell=(own sm M (x.pol::x.key)).getD ⟨x.pol,x.key,0,[]⟩:=by
   rw[h0]
   have:=(hP.fnd f.h x.pol x.key hk.srt hk.k.1).2
   rw[← this,hk.fd];rfl
  have hid:idn f.cell=x.pol::x.key:=Kd.cell hP hk
  have hpol:f.cell.pol=x.pol:=by
   have h9:f.cell.pol::f.cell.key=x.pol::x.key:=hid
   exact(List.cons.inj h9).1
  have hop:x.op=1∨x.op=2∨x.op=3:=by
   rcases hf with a|a|a
   ·exact .inl a.1
   ·exact .inr (.inl a.1)
   ·exact .inr (.inr a.1)
  have hVf:V f.cell:=by
   rw[hcell]
   cases e2:own sm M (x.pol::x.key)with
   | none=>exact hQ.new _ _ _ hop hq
   | some d=>exact hV _ _ e2
  have hmem:∀n,n∈f.cell.held→n∈hel P M:=fun n hn=>by
   rw[hcell]at hn
   cases e2:own sm M (x.pol::x.key)with
   | none=>rw[e2]at hn;simp at hn
   | some d=>rw[e2]at hn;exact mem_hel hP h hI e2 hn
  obtain⟨F,p1,p2⟩:=all_put hP h hI iw' ih' ho
  have q1:(hel P (step P M x (.pS f c r)).M).Perm (c.held++F.flatMap (·.held)):=by
   have:=p1.flatMap_right (·.held)
   rwa [List.flatMap_cons]at this
  have q2:(hel P M).Perm (f.cell.held++F.flatMap (·.held)):=by
   have h9:=p2.flatMap_right (·.held)
   rw[List.flatMap_append]at h9
   have e9:(own sm M (x.pol::x.key)).toList.flatMap (·.held)=f.cell.held:=by
    rw[hcell]
    cases e2:own sm M (x.pol::x.key)with
    | none=>rfl
    | some d=>simp
   rw[e9]at h9;exact h9
  have vv:V c→∀k d,own sm (step P M x (.pS f c r)).M k=some d→V d:=fun hc9 k d hk9=>by
   rw[ho]at hk9
   split at hk9
   ·cases hk9;exact hc9
   ·exact hV _ _ hk9
  rcases hf with⟨h1,⟨t,ht⟩,h3,h4⟩|⟨h1,h2,h3,h4⟩|⟨h1,h2,h3⟩
  ·have g:=hQ.allow (P.pol x.pol) f.cell t x.n hVf
   rw[ht]at g
   have g2:c.held=f.cell.held:=g.2
   refine⟨vv g.1,.calm ?_ fun _=>h1⟩
   rw[g2]at q1
   exact q1.trans q2.symm
  ·have g:=hQ.acq x.key f.cell x.ser (by rw[hpol,← h1];exact hq) hVf (fun h9=>hnew h1 hhit (hmem _ h9)) (by omega) hm (by rw[hpol];exact h2)
   rw[hpol,h3]at g
   refine⟨vv g.2.2.1,.acq hhit h1 ?_ fun f' c' r' e=>by cases e;exact g.1⟩
   refine q1.trans (((g.2.2.2:c.held.Perm (x.ser::f.cell.held)).append_right _).trans ?_)
   exact(q2.symm.cons x.ser)
  ·have g:=hQ.rel x.key f.cell x.n (by rw[hpol,← h1];exact hq) hVf (by rw[hpol,h2];exact h3)
   rw[hpol,h2]at g
   refine⟨vv g.1,.rel hhit h1 ?_ fun f' c' r' e=>by cases e;exact h3⟩
   refine q2.trans (((g.2:f.cell.held.Perm (x.n::c.held)).append_right _).trans ?_)
   exact(q1.symm.cons x.n)
 | evict j sh g w v m n e hw t ht hm' hn ho =>
  subst e
  have hw2:1≤w∧w<32:=⟨hs.2.2.1,hs.2.2.2.1⟩
  obtain⟨G,p1,p2⟩:=sD hP h hI iw' ih' hw2 (t:=t) fun k=>by rw[ho,hm']
  refine⟨fun k c hk=>?_,.calm ?_ fun h9=>by simp[hit]at h9⟩
  ·have h1:=((all_ok hP iw' ih').2 c).2 (by rw[fk hk];exact hk)
   have h2:=p1.mem_iff.2 (List.mem_append_left G h1)
   exact hV _ _ (((all_ok hP h hI).2 c).1 h2)
  ·have h9:=p1.flatMap_right (·.held)
   rw[List.flatMap_append]at h9
   have e9:G.flatMap (·.held)=[]:=by
    rw[List.flatMap_eq_nil_iff]
    intro c hc
    obtain⟨g1,g2⟩:=p2 c hc
    exact hQ.idle c t (hV _ _ g1) g2
   rw[e9,List.append_nil]at h9
   exact h9.symm
def swB(x:X):CS→Bool
 | .b0 _ (.lv r)=>x.op==2&&r.e==0
 | .b1 _ (.lv r) _=>x.op==2&&r.e==0
 | _=>false
def okD(r:Rs):Bool:=r.done&&r.r.e==0
def b1(b:Bool):Int:=if b=true then 1 else 0
theorem kj{x:X}(h:x.op=2)(r:Rpl):b1 (swB x (leave x r).1)+b1 (okD (leave x r).2)=if r.e=0 then 1 else 0:=by
 unfold leave
 by_cases e:x.res=true
 ·rw[if_pos e];simp[swB,okD,r0,h,b1]
 ·rw[if_neg e];simp[swB,okD,b1]
theorem xk(x y:X)(f:Fd)(c:Cel)(r:Rpl):swB x (put y f c r)=false:=by unfold put;split<;>rfl
theorem po{x:X}(h:x.op=2){f:Fc}(hf:Fo x f)(w:Nat)(v:Int)(l:List Cel):swB x (entered P x f w v l).1=false∧okD (entered P x f w v l).2=false∨b1 (swB x (entered P x f w v l).1)+b1 (okD (entered P x f w v l).2)=0:=by
 unfold entered
 split
 ·exact .inl ⟨rfl,rfl⟩
 ·unfold found
  cases f with
  | key =>
   show swB x (foundK P x (fdOf P x w v l)).1=false∧okD (foundK P x (fdOf P x w v l)).2=false∨b1 (swB x (foundK P x (fdOf P x w v l)).1)+b1 (okD (foundK P x (fdOf P x w v l)).2)=0
   unfold foundK
   rw[if_neg (by omega),if_pos h]
   split
   ·right;rw[kj h];rfl
   ·split
    ·exact .inl ⟨xk _ _ _ _ _,rfl⟩
    ·exact .inl ⟨rfl,rfl⟩
  | ev j sh g=>have:x.op=5:=hf;omega
theorem b1_0{a b:Bool}(h:a=false∧b=false∨b1 a+b1 b=0):b1 a+b1 b=0:=by
 rcases h with⟨h1,h2⟩|h
 ·rw[h1,h2];rfl
 ·exact h
theorem qh{M:Mc}{x:X}{s:CS}(h:Fr P x s)(ho:x.op=2)(hp:hit M s=true→∀f c r,s=.pS f c r→r.e=0) :
  b1 (swB (step P M x s).x (step P M x s).s)+b1 (okD (step P M x s).r)=b1 (swB x s)+b1 (hit M s):=by
 have no5:∀{q:Prop},x.op=5→q:=fun e=>by omega
 have no6:∀{q:Prop},x.op=6→q:=fun e=>by omega
 have no1:∀{q:Prop},x.op=1→q:=fun e=>by omega
 have en:∀{f:Fc} (hf:Fo x f) (w:Nat) (v:Int) (l:List Cel),b1 (swB x (entered P x f w v l).1)+b1 (okD (entered P x f w v l).2)=0:=fun hf w v l=>b1_0 (po ho hf w v l)
 cases s with
 | none=>rfl
 | k0 f=>simp only[step];split<;>rfl
 | kE f w=>exact en h _ _ _
 | kF f lv w=>simp only[step];split<;>rfl
 | kG f lv w v m=>simp only[step];split<;>rfl
 | kH f lv w m =>
  simp only[step];split
  ·rfl
  ·exact en h _ _ _
 | kL f lv w m=>rfl
 | al f=>exact no1 h
 | pk c=>exact absurd ho h.2.1
 | a0 f =>
  simp only[step];split
  ·show b1 (swB x (leave x (er 5)).1)+b1 (okD (leave x (er 5)).2)=0
   rw[kj ho];rfl
  ·rfl
 | a1 f u =>
  simp only[step];split
  ·show b1 (swB _ (put x f _ _))+b1 (okD r0)=0
   rw[xk];rfl
  ·rfl
 | p0 f c r=>simp only[step];split<;>rfl
 | p1 f c r u=>simp only[step];split<;>rfl
 | pS f c r =>
  by_cases hm:M.W f.w=f.v
  ·have hr:=hp (by simpa[hit]using hm) f c r rfl
   simp only[step,if_pos hm]
   show b1 (swB x (if f.there=true then leave x r else(.none,⟨true,r⟩):CS×Rs).1)+b1 (okD (if f.there=true then leave x r else(.none,⟨true,r⟩):CS×Rs).2)=0+b1 (M.W f.w==f.v)
   have e1:b1 (M.W f.w==f.v)=1:=by simp[hm,b1]
   rw[e1]
   split
   ·rw[kj ho,if_pos hr];rfl
   ·simp[swB,okD,hr,b1]
  ·simp only[step,if_neg hm]
   have e1:b1 (M.W f.w==f.v)=0:=by simp[hm,b1]
   show 0+0=0+b1 (M.W f.w==f.v)
   rw[e1]
 | b0 n k=>cases k<;>rfl
 | b1 n k u =>
  simp only[step];split
  ·cases k with
   | lv r=>show b1 (swB x .none)+b1 (okD ⟨true,r⟩)=b1 (x.op==2&&r.e==0)+0;simp[swB,okD,ho,b1]
   | ev j sh g=>exact no5 h
  ·cases k<;>rfl
 | e0=>exact no5 h
 | eC j sh g w v m=>exact no5 h
 | eS j sh g w v m n=>exact no5 h
 | s0=>exact no6 h
 | sM lv=>exact no6 h
 | sF lv i=>exact no6 h
 | sG lv i v m=>exact no6 h
 | sH lv i up m=>exact no6 h
 | sL lv i up m=>exact no6 h
 | sV lv=>exact no6 h
end Core
end
section
namespace Core
open Dir (FZ plc upd upW Iw okW de upd_same upd_ne pow_pos2)
open Hm (aZ)
variable{sm:List Int→Int}{P:Ops}{V:Cel→Prop}{Q:Int→Int→List Int→Prop}
theorem iy{x:X}(h:x.op=3){f:Fc}(hf:Fo x f)(w:Nat)(v:Int)(l:List Cel):okD (entered P x f w v l).2=false:=by
 unfold entered
 split
 ·rfl
 ·unfold found
  cases f with
  | key =>
   show okD (foundK P x (fdOf P x w v l)).2=false
   unfold foundK
   rw[if_neg (by omega),if_neg (by omega),if_pos h]
   split
   ·rfl
   ·rename_i h9;simp[okD,h9]
  | ev j sh g=>have:x.op=5:=hf;omega
theorem qg{M:Mc}{x:X}{s:CS}(hs:Cw x M.W s)(h:Fr P x s)(hr:Rx x s)(ho:x.op=3):okD (step P M x s).r=hit M s:=by
 have no5:∀{q:Prop},x.op=5→q:=fun e=>by omega
 have no6:∀{q:Prop},x.op=6→q:=fun e=>by omega
 have no1:∀{q:Prop},x.op=1→q:=fun e=>by omega
 have no2:∀{q:Prop},x.op=2→q:=fun e=>by omega
 have nres:x.res=false:=by
  cases e:x.res with
  | false=>rfl
  | true=>rcases hr.op e with h9|h9<;>omega
 cases s with
 | none=>rfl
 | k0 f=>rfl
 | kE f w=>exact iy ho h _ _ _
 | kF f lv w=>rfl
 | kG f lv w v m=>simp only[step];split<;>rfl
 | kH f lv w m =>
  simp only[step];split
  ·rfl
  ·exact iy ho h _ _ _
 | kL f lv w m=>rfl
 | al f=>exact no1 h
 | pk c=>exact absurd ho h.2.2.1
 | a0 f=>exact no2 h.1
 | a1 f u=>exact no2 h.1
 | p0 f c r=>simp only[step];split<;>rfl
 | p1 f c r u=>simp only[step];split<;>rfl
 | pS f c r =>
  have hr0:r.e=0:=by
   rcases h with⟨a,_⟩|⟨a,_⟩|⟨_,_,a⟩
   ·exact no1 a
   ·exact no2 a
   ·exact a
  by_cases hm:M.W f.w=f.v
  ·simp only[step,if_pos hm]
   have e1:hit M (.pS f c r)=true:=by simpa[hit]using hm
   rw[e1]
   show okD (if f.there=true then leave x r else(.none,⟨true,r⟩):CS×Rs).2=true
   split
   ·unfold leave;rw[if_neg (by simp[nres])];simp[okD,hr0]
   ·simp[okD,hr0]
  ·simp only[step,if_neg hm]
   have e1:hit M (.pS f c r)=false:=by simpa[hit]using hm
   rw[e1];rfl
 | b0 n k =>
  cases k with
  | lv r=>rcases h.1 with⟨a,_⟩|⟨a,_⟩;exact no1 a;exact no2 a
  | ev j sh g=>exact no5 h
 | b1 n k u =>
  cases k with
  | lv r=>rcases h.1 with⟨a,_⟩|⟨a,_⟩;exact no1 a;exact no2 a
  | ev j sh g=>exact no5 h
 | e0=>exact no5 h
 | eC j sh g w v m=>exact no5 h
 | eS j sh g w v m n=>exact no5 h
 | s0=>exact no6 h
 | sM lv=>exact no6 h
 | sF lv i=>exact no6 h
 | sG lv i v m=>exact no6 h
 | sH lv i up m=>exact no6 h
 | sL lv i up m=>exact no6 h
 | sV lv=>exact no6 h
structure Pm(sm:List Int→Int)(P:Ops)(V:Cel→Prop)(Q:Int→Int→List Int→Prop)(M:Mc)(S:Nat→Wk)(A:Int)(R:List Int):Prop where
 v:∀k c,own sm M k=some c→V c
 b:∀s∈hel P M,1≤s∧s≤M.W 33
 nd:(hel P M).Nodup
 pr:∀i,(S i).s≠.none→(S i).x.op=2→swB (S i).x (S i).s=false→(S i).x.ser∉hel P M
 q:∀i,(S i).s≠.none→Q (S i).x.op (S i).x.pol (S i).x.key
 fr:∀i,Fr P (S i).x (S i).s
 rl:∀s∈R,(1≤s∧s≤M.W 33)∧s∉hel P M∧∀i,(S i).s≠.none→(S i).x.op=2→swB (S i).x (S i).s=false→(S i).x.ser≠s
 rn:R.Nodup
 cnt:((hel P M).length:Int)=A+sumI 64 (fun i=>b1 (swB (S i).x (S i).s))-R.length
def pZ(x:X)(r:Rs)(A:Int):Int:=if x.op=2∧okD r=true then A+1 else A
def lm(x:X)(r:Rs)(R:List Int):List Int:=if x.op=3∧okD r=true then x.n::R else R
theorem step_kn(M:Mc)(x:X)(s:CS):(Core.step P M x s).x.pol=x.pol∧(Core.step P M x s).x.key=x.key∧(Core.step P M x s).x.n=x.n:=by
 cases s with
 | s0=>simp only[step];split;exact⟨rfl,rfl,rfl⟩;split<;>exact⟨rfl,rfl,rfl⟩
 | _=>(first|exact⟨rfl,rfl,rfl⟩|(simp only[step];split<;>exact⟨rfl,rfl,rfl⟩))
theorem swB_2{x:X}{s:CS}(h:swB x s=true):x.op=2:=by
 cases s with
 | b0 n k=>cases k<;>simp[swB]at h;exact h.1
 | b1 n k u=>cases k<;>simp[swB]at h;exact h.1
 | _=>simp[swB]at h
theorem swB_b{x:X}{s:CS}(h:swB x s=true)(M:Mc):hit M s=false∧s≠.none:=by
 cases s with
 | b0 n k=>exact⟨rfl,by simp⟩
 | b1 n k u=>exact⟨rfl,by simp⟩
 | _=>simp[swB]at h
end Core
end
section
namespace Core
open Dir (FZ plc upd upW Iw okW de upd_same upd_ne pow_pos2)
open Hm (aZ)
variable{sm:List Int→Int}{P:Ops}{V:Cel→Prop}{Q:Int→Int→List Int→Prop}
theorem b1_bd(b:Bool):0≤b1 b∧b1 b≤1:=by unfold b1;split<;>omega
theorem b1_z{b:Bool}(h:b1 b=0):b=false:=by cases b with
 | false=>rfl
 | true=>simp[b1]at h
theorem sw_0{x:X}(h:x.op≠2)(s:CS):swB x s=false:=by
 cases e:swB x s with
 | false=>rfl
 | true=>exact absurd (swB_2 e) h
theorem wg{M:Mc}{x:X}{s:CS}(h:(Core.step P M x s).s≠.none):okD (Core.step P M x s).r=false:=by
 cases e:(Core.step P M x s).r.done with
 | false=>unfold okD;rw[e];rfl
 | true=>exact absurd (step_none e) h
theorem hit_acq{M M':Mc}{x:X}{s:CS}(h:PE P M x s M')(h2:x.op=2)(hh:hit M s=true):∀f c r,s=.pS f c r→r.e=0:=by
 cases h with
 | calm a b=>have:=b hh;omega
 | acq a b c d=>exact d
 | rel a b c d=>omega
end Core
end
section
section
variable{ys:List Int}{t:Int}
end
end
def Vt(c:Cel):Prop:=(c.pol=0∧c.held=[])∨(c.pol=1∧i6 2 c.held=0)
def Qt(op pol:Int)(_:List Int):Prop:=(op≤4→pol=0∨pol=1)∧(op=2∨op=3→pol=1)
section
namespace Sim
open Dir (upd upd_same upd_ne)
structure jM(c:Req):Prop where
 chk:ni ax c.op c.pol c.key c.n=0
 op:1≤c.op∧c.op≤6
 len:c.key.length≤255
 kx:c.op≠5→c.op≠6→Core.Kx ax (aI c.op c.pol c.key c.n)
 n:0≤c.n
structure SI(room:Int)(xs:Nat→XB)(nl:Nat)(s:SS):Prop where
 law:ee ax room s.k s.M s.S xs nl ((s.k:Int)+1)
 cok:∀j,∀c∈(s.ws j).left,jM c
 big:∀j,8≤j→(s.S j).s=.none∧(s.ws j).left=[]
variable{room:Int}{xs:Nat→XB}{nl:Nat}{s:SS}
theorem SI.w8(h:SI room xs nl s){w:Nat}(hc:isC (s.S w).s=true):w<8:=by
 by_cases e:w<8
 ·exact e
 ·have:=(h.big w (by omega)).1
  rw[this]at hc;cases hc
theorem SI.w8l(h:SI room xs nl s){w:Nat}{c:Req}{r:List Req}(hl:(s.ws w).left=c::r):w<8:=by
 by_cases e:w<8
 ·exact e
 ·have:=(h.big w (by omega)).2
  rw[this]at hl;cases hl
theorem SI.to(h:SI room xs nl s){w:Nat}(hw:w<8){xs':Nat→XB}{nl':Nat}(hL:ee ax room (s.k+1) (Core.mx (aa ax room) s.M s.S w) (Core.nx (aa ax room) s.M s.S w) xs' nl' ((s.k:Int)+1+1)) :
  SI room xs' nl' (adv (aa ax room) s w):=by
 refine⟨by show ee ax room (s.k+1) _ _ _ _ (((s.k+1:Nat):Int)+1);rw[show(((s.k+1:Nat):Int)+1)=(s.k:Int)+1+1 by omega];exact hL,h.cok,fun j hj=>⟨?_,(h.big j hj).2⟩⟩
 show(Core.nx (aa ax room) s.M s.S w j).s=.none
 unfold Core.nx;rw[upd_ne _ _ (by omega)];exact(h.big j hj).1
theorem SI.beg(h:SI room xs nl s){w:Nat}{c:Req}{r:List Req}(hl:(s.ws w).left=c::r){xs':Nat→XB}(hL:ee ax room s.k s.M (upd s.S w (newC c)) xs' nl ((s.k:Int)+1)):SI room xs' nl (beg s w c r):=by
 have hw:=h.w8l hl
 refine⟨hL,fun j d hd=>?_,fun j hj=>⟨?_,?_⟩⟩
 ·replace hd:d∈(upd s.ws w ⟨r,c,(s.k:Int)+1⟩ j).left:=hd
  by_cases e:j=w
  ·subst e
   rw[upd_same]at hd
   exact h.cok j d (by rw[hl];exact List.mem_cons_of_mem _ hd)
  ·rw[upd_ne _ _ e]at hd;exact h.cok j d hd
 ·show(upd s.S w (newC c) j).s=.none
  rw[upd_ne _ _ (by omega)];exact(h.big j hj).1
 ·show(upd s.ws w ⟨r,c,(s.k:Int)+1⟩ j).left=[]
  rw[upd_ne _ _ (by omega)];exact(h.big j hj).2
theorem SI.tick(h:SI room xs nl s){t:Int}(ht:0≤t):SI room xs nl (tick s t):=by
 have:=h.law.clk
 exact⟨h.law.tick (t:=min (s.M.clk+t) 4611686018427387903) (by omega),h.cok,h.big⟩
theorem SI.go(h:SI room xs nl s)(hk:s.k≤900000)(w:Nat):∃xs' nl',SI room xs' nl' (go (aa ax room) s w).1:=by
 unfold Sim.go
 split
 ·rename_i hc
  have hw:=h.w8 hc
  exact⟨_,_,h.to hw (h.law.step (by omega) (.inl hw) hc)⟩
 ·rename_i hc
  have hn:isC (s.S w).s=false:=by simpa using hc
  split
  ·exact⟨xs,nl,h⟩
  ·rename_i c r hl
   have hw:=h.w8l hl
   have hok:=h.cok w c (by rw[hl];exact List.mem_cons_self ..)
   have hL:=h.law.start (.inl hw) (ry hn) (key:=c.key) (n:=c.n) hok.kx
   have hb:=h.beg hl hL
   have hp:isC ((Sim.beg s w c r).S w).s=true:=by
    show isC (upd s.S w (newC c) w).s=true
    rw[upd_same]
    show isC (Core.first (aI c.op c.pol c.key c.n))=true
    unfold Core.first;(repeat' split)<;>rfl
   exact⟨_,_,hb.to hw (hb.law.step (by show s.k≤1000000;omega) (.inl hw) hp)⟩
theorem xq(h:SI room xs nl s){w:Nat}(hc:isC (s.S w).s=true):mu (adv (aa ax room) s w) w+1≤mu s w:=by
 have hp:=Core.T_pos (h.law.all.inv.cw w) (n9 hc)
 show Core.T (Core.nx (aa ax room) s.M s.S w w).x (Core.mx (aa ax room) s.M s.S w).W (Core.nx (aa ax room) s.M s.S w w).s+166*(s.ws w).left.length+1≤_
 unfold mu
 cases hd:(Core.step (aa ax room) s.M (s.S w).x (s.S w).s).r.done with
 | false =>
  have:=(Core.alone_T (P:=aa ax room) h.law.all.inv (n9 hc) hd).2
  omega
 | true =>
  have e:(Core.nx (aa ax room) s.M s.S w w).s=.none:=by unfold Core.nx;rw[upd_same];exact Core.step_none hd
  rw[e]
  show 0+_+1≤_
  omega
theorem o7(h:SI room xs nl s){w:Nat}(hg:(go (aa ax room) s w).2=true):mu (go (aa ax room) s w).1 w+1≤mu s w:=by
 unfold Sim.go at hg⊢
 split
 ·rename_i hc;exact xq h hc
 ·rename_i hc
  rw[if_neg hc]at hg
  have hn:isC (s.S w).s=false:=by simpa using hc
  split
  ·rename_i hl;rw[hl]at hg;cases hg
  ·rename_i c r hl
   have hok:=h.cok w c (by rw[hl];exact List.mem_cons_self ..)
   have hb:=h.beg hl (h.law.start (.inl (h.w8l hl)) (ry hn) (key:=c.key) (n:=c.n) hok.kx)
   have hp:isC ((Sim.beg s w c r).S w).s=true:=by
    show isC (upd s.S w (newC c) w).s=true
    rw[upd_same]
    show isC (Core.first (aI c.op c.pol c.key c.n))=true
    unfold Core.first;(repeat' split)<;>rfl
   have h1:=xq hb hp
   have h2:mu (Sim.beg s w c r) w≤165+166*r.length:=by
    have:=Core.T_le (hb.law.all.inv.cw w)
    unfold mu
    have e:((Sim.beg s w c r).ws w).left=r:=by show(upd s.ws w ⟨r,c,(s.k:Int)+1⟩ w).left=r;rw[upd_same]
    rw[e];omega
   have h3:166*(r.length+1)≤mu s w:=by unfold mu;rw[hl,List.length_cons];omega
   show mu (adv (aa ax room) (Sim.beg s w c r) w) w+1≤mu s w
   omega
theorem go_k(P:Core.Ops)(s:SS)(w:Nat):(go P s w).1.k≤s.k+1:=by
 unfold Sim.go
 split
 ·exact Q4 _
 ·split
  ·exact Nat.le_succ _
  ·exact Q4 _
theorem wB{P:Core.Ops}{s:SS}{w:Nat}(h:(go P s w).2=false):isC (s.S w).s=false∧(s.ws w).left=[]∧(go P s w).1=s:=by
 unfold Sim.go at h⊢
 split
 ·rename_i hc;rw[if_pos hc]at h;cases h
 ·rename_i hc
  rw[if_neg hc]at h
  split
  ·rename_i hl;exact⟨by simpa using hc,hl,rfl⟩
  ·rename_i hl;rw[hl]at h;cases h
theorem rT(w:Nat):∀(f:Nat) {xs:Nat→XB} {nl:Nat} {s:SS},SI room xs nl s→s.k+f≤900000→mu s w≤f →
  (∃xs' nl',SI room xs' nl' (fin (aa ax room) f s w))∧isC ((fin (aa ax room) f s w).S w).s=false∧((fin (aa ax room) f s w).ws w).left=[]∧(fin (aa ax room) f s w).k≤s.k+f
 | 0,xs,nl,s,h,hk,hm=>by
  have hg:(go (aa ax room) s w).2=false:=by
   cases e:(go (aa ax room) s w).2 with
   | false=>rfl
   | true=>have:=o7 h e;omega
  obtain⟨h1,h2,_⟩:=wB hg
  exact⟨⟨xs,nl,h⟩,h1,h2,Q4 _⟩
 | f+1,xs,nl,s,h,hk,hm=>by
  unfold fin
  cases e:(go (aa ax room) s w).2 with
  | false =>
   obtain⟨h1,h2,_⟩:=wB e
   rw[if_neg (by decide)]
   exact⟨⟨xs,nl,h⟩,h1,h2,Nat.le_add_right _ _⟩
  | true =>
   rw[if_pos rfl]
   obtain⟨xs',nl',h'⟩:=h.go (by omega) w
   have h1:=o7 h e
   have h2:=go_k (aa ax room) s w
   obtain⟨a,b,c,d⟩:=rT w f h' (by omega) (by omega)
   exact⟨a,b,c,by omega⟩
def muS(s:SS):Nat→Nat
 | 0=>0
 | n+1=>muS s n+(165+166*(s.ws n).left.length)
theorem mu_le(h:SI room xs nl s)(w:Nat):mu s w≤165+166*(s.ws w).left.length:=by
 have:=Core.T_le (h.law.all.inv.cw w)
 unfold mu;omega
theorem ou(b:Bool):∀(n:Nat) {xs:Nat→XB} {nl:Nat} {s:SS},SI room xs nl s→s.k+muS s n≤900000 →
  (∃xs' nl',SI room xs' nl' (fB (aa ax room) b n s))∧(fB (aa ax room) b n s).k≤s.k+muS s n∧(b=true→∀j,j<n→isC ((fB (aa ax room) b n s).S j).s=false∧((fB (aa ax room) b n s).ws j).left=[])
 | 0,xs,nl,s,h,hk=>⟨⟨xs,nl,h⟩,Q4 _,fun _ j hj=>by omega⟩
 | n+1,xs,nl,s,h,hk=>by
  simp only[muS]at hk
  obtain⟨⟨xs1,nl1,h1⟩,h2,h3⟩:=ou b n h (by omega)
  unfold fB
  cases b with
  | false =>
   rw[if_neg (by decide)]
   refine⟨⟨xs1,nl1,h1⟩,by simp only[muS];omega,fun e=>by cases e⟩
  | true =>
   rw[if_pos rfl]
   have ho:=kJ (P:=aa ax room) true n s n (Q4 _)
   have hm:=mu_le h1 n
   rw[ho.2]at hm
   obtain⟨a,b,c,d⟩:=rT n (mu (fB (aa ax room) true n s) n) h1 (by omega) (Q4 _)
   refine⟨a,by simp only[muS];omega,fun _ j hj=>?_⟩
   by_cases e:j=n
   ·subst e;exact⟨b,c⟩
   ·have g:=m8 (P:=aa ax room) (w:=n) (j:=j) e (mu (fB (aa ax room) true n s) n) (fB (aa ax room) true n s)
    obtain⟨g1,g2⟩:=h3 rfl j (by omega)
    exact⟨by rw[g.1];exact g1,by rw[g.2];exact g2⟩
theorem SI.zero(hr:1≤room∧room≤4096){work:List (List Req)}(hw:work.length≤8∨∀j,8≤j→work.getD j []=[])(hc:∀w∈work,∀c∈w,jM c):SI room xs0 (aC 0) (ss0 work):=by
 refine⟨ee.zero tab2_ok hr,fun j c h=>?_,fun j hj=>⟨rfl,?_⟩⟩
 ·replace h:c∈work.getD j []:=h
  rw[Q1]at h
  cases e:work[j]? with
  | none=>rw[e]at h;cases h
  | some w=>rw[e]at h;exact hc w (List.mem_of_getElem? e) c h
 ·show work.getD j []=[]
  rcases hw with hw|hw
  ·rw[Q1,List.getElem?_eq_none (by omega)];rfl
  ·exact hw j hj
end Sim
end
end Go.Proofs.YtgkpjebgcfjfnaaGreat
