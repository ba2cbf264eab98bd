/- Lemmas of Cq4, Cq5, Cq6, Cq7, Cq8, Cs2, Cs3, Cs4, Cs5, Dp5, Cq9, Sx23, Dr1, Cc0, Sx25, Sx28, Cc1. No condition. -/
import Derived.Test.YtgkpjebgcfjfnaaGreatMM7
set_option linter.unusedVariables false
set_option linter.unusedSimpArgs false
set_option linter.unusedSectionVars false
set_option maxHeartbeats 80000000
set_option maxRecDepth 100000
namespace Go.Proofs.YtgkpjebgcfjfnaaGreat
open Go.RowKit
section
namespace Core
open Dir (FZ plc upd upW Iw okW de upd_same upd_ne pow_pos2 plc_sh bh sh_32 sh_16 bQ aK)
open Hm (aZ bP)
variable{sm:List Int→Int}{P:Ops}
theorem dq{xs:List Cel}(h:Srt xs){x:Cel}:look xs (idn x)=some x↔x∈xs:=(cR h).trans (and_iff_left rfl)
def lvl(M:Mc):Nat:=(M.W 0/2).toNat
def nxt(P:Ops)(M:Mc)(i j:Nat):List Cel:=if M.W (2^(lvl M+1)+j)=0 then P.cut (M.Hd (2^lvl M+i)) (lvl M+1) j else M.Hd (2^(lvl M+1)+j)
def partL(P:Ops)(M:Mc)(i:Nat):List (List Cel):=if M.W 0%2=0∨M.W (2^lvl M+i)<FZ then[M.Hd (2^lvl M+i)]else[nxt P M i i,nxt P M i (i+2^lvl M)]
def allL(P:Ops)(M:Mc):List (List Cel):=(List.range (2^lvl M)).flatMap (partL P M)
def allE(P:Ops)(M:Mc):List Cel:=(List.range (2^lvl M)).flatMap fun i=>(partL P M i).flatten
theorem allE_eq(P:Ops)(M:Mc):(allL P M).flatten=allE P M:=by
 unfold allL allE
 rw[List.flatMap_def,List.flatMap_def,List.flatten_flatten,List.map_map];rfl
theorem nV{lv:Nat}{s:Int}{j:Nat}(h:s%2^(lv+1)=j):s%2^lv=((j%2^lv:Nat):Int):=by
 have h1:=rc (cz.2 h)
 exact cz.1 h1.symm
theorem qV{lv:Nat}{s:Int}{i:Nat}(hi:i<2^lv)(h:s%2^lv=i):s%2^(lv+1)=i∨s%2^(lv+1)=((i+2^lv:Nat):Int):=by
 obtain⟨j,h1,h2⟩:=plc_sh (lv+1) s
 have h3:=cz.1 h2
 have h4:=nV h3
 rw[h]at h4
 have h5:j<2^lv*2:=by rw[← Nat.pow_succ];exact h1
 have h6:i=j%2^lv:=by omega
 rw[h3]
 by_cases h7:j<2^lv
 ·rw[Nat.mod_eq_of_lt h7]at h6;left;omega
 ·have h8:j%2^lv=j-2^lv:=by rw[Nat.mod_eq_sub_mod (by omega),Nat.mod_eq_of_lt (by omega)]
  right;omega
theorem xn(hP:OpsOk sm P){M:Mc}{B:Int}(h:Iw M.W B)(hI:Ih sm M){i j:Nat}(hl:lvl M≤3)(hi:i<2^lvl M)(hj:j<2^(lvl M+1))(hij:j%2^lvl M=i)(hf:¬(M.W 0%2=0∨M.W (2^lvl M+i)<FZ)) :
  Srt (nxt P M i j)∧(∀e∈nxt P M i j,sm (idn e)%2^(lvl M+1)=(j:Int))∧∀k,sm k%2^(lvl M+1)=(j:Int)→own sm M k=look (nxt P M i j) k:=by
 have h0:=hI (lvl M) i (by omega) hi
 have h1:=hI (lvl M+1) j (by omega) hj
 have hp:∀s:Int,s%2^(lvl M+1)=(j:Int)→plc (lvl M) s=2^lvl M+i∧plc (lvl M+1) s=2^(lvl M+1)+j:=fun s hs=>⟨cz.2 (by rw[nV hs,hij]),cz.2 hs⟩
 unfold nxt
 by_cases e:M.W (2^(lvl M+1)+j)=0
 ·rw[if_pos e]
  obtain⟨c1,c2,c3⟩:=xL hP h0.1 (lvl M+1) j
  refine⟨c1,c2,fun k hk=>?_⟩
  rw[c3 k hk]
  obtain⟨p1,p2⟩:=hp _ hk
  unfold own aZ
  show look (M.Hd (if M.W 0%2=0∨M.W (plc (lvl M) (sm k))<FZ∨M.W (plc (lvl M+1) (sm k))=0 then plc (lvl M) (sm k)else plc (lvl M+1) (sm k))) k=_
  rw[p1,p2,if_pos (.inr (.inr e))]
 ·rw[if_neg e]
  refine⟨h1.1,h1.2,fun k hk=>?_⟩
  obtain⟨p1,p2⟩:=hp _ hk
  unfold own aZ
  show look (M.Hd (if M.W 0%2=0∨M.W (plc (lvl M) (sm k))<FZ∨M.W (plc (lvl M+1) (sm k))=0 then plc (lvl M) (sm k)else plc (lvl M+1) (sm k))) k=_
  rw[p1,p2,if_neg (by omega)]
theorem gY(hP:OpsOk sm P){M:Mc}{B:Int}(h:Iw M.W B)(hI:Ih sm M){i:Nat}(hi:i<2^lvl M) :
  (partL P M i).flatten.Pairwise (fun a b=>idn a≠idn b)∧(∀e∈(partL P M i).flatten,sm (idn e)%2^lvl M=(i:Int))∧∀e:Cel,sm (idn e)%2^lvl M=(i:Int)→(e∈(partL P M i).flatten↔own sm M (idn e)=some e):=by
 have hd:=h.d
 have hlv:lvl M≤4:=by unfold lvl;omega
 have h0:=hI (lvl M) i hlv hi
 have pw:∀{l:List Cel},Srt l→l.Pairwise (fun a b=>idn a≠idn b):=fun s=>List.Pairwise.imp (fun {a b} hab e=>by rw[e,be]at hab;omega) s.lt
 unfold partL
 by_cases e:M.W 0%2=0∨M.W (2^lvl M+i)<FZ
 ·rw[if_pos e]
  rw[show[M.Hd (2^lvl M+i)].flatten=M.Hd (2^lvl M+i)by simp]
  refine⟨pw h0.1,h0.2,fun x hx=>?_⟩
  have hp:plc (lvl M) (sm (idn x))=2^lvl M+i:=cz.2 hx
  unfold own aZ
  show _↔look (M.Hd (if M.W 0%2=0∨M.W (plc (lvl M) (sm (idn x)))<FZ∨M.W (plc (lvl M+1) (sm (idn x)))=0 then plc (lvl M) (sm (idn x))else plc (lvl M+1) (sm (idn x)))) (idn x)=_
  rw[hp,if_pos (by rcases e with e|e<;>simp[e]),dq h0.1]
 ·rw[if_neg e]
  have hl3:lvl M≤3:=by unfold lvl;omega
  have hpw:2^(lvl M+1)=2^lvl M*2:=Nat.pow_succ 2 _
  obtain⟨a1,a2,a3⟩:=xn hP h hI hl3 hi (j:=i) (by omega) (Nat.mod_eq_of_lt hi) e
  obtain⟨b1,b2,b3⟩:=xn hP h hI hl3 hi (j:=i+2^lvl M) (by omega) (by rw[Nat.add_mod_right,Nat.mod_eq_of_lt hi]) e
  rw[show[nxt P M i i,nxt P M i (i+2^lvl M)].flatten=nxt P M i i++nxt P M i (i+2^lvl M)by simp]
  refine⟨?_,?_,?_⟩
  ·rw[List.pairwise_append]
   refine⟨pw a1,pw b1,fun x hx y hy e2=>?_⟩
   have g1:=a2 x hx
   have g2:=b2 y hy
   rw[e2,g2]at g1
   have:=pow_pos2 (lvl M)
   omega
  ·intro x hx
   rcases List.mem_append.1 hx with hx|hx
   ·rw[nV (a2 x hx),Nat.mod_eq_of_lt hi]
   ·rw[nV (b2 x hx),Nat.add_mod_right,Nat.mod_eq_of_lt hi]
  ·intro x hx
   rw[List.mem_append]
   have hpp:=pow_pos2 (lvl M)
   rcases qV hi hx with g|g
   ·rw[a3 _ g,dq a1]
    refine⟨fun hh=>hh.resolve_right fun hh2=>?_,.inl⟩
    have:=b2 x hh2
    rw[g]at this;omega
   ·rw[b3 _ g,dq b1]
    refine⟨fun hh=>hh.resolve_left fun hh2=>?_,.inr⟩
    have:=a2 x hh2
    rw[g]at this;omega
theorem all_ok(hP:OpsOk sm P){M:Mc}{B:Int}(h:Iw M.W B)(hI:Ih sm M):(allE P M).Pairwise (fun a b=>idn a≠idn b)∧∀e:Cel,e∈allE P M↔own sm M (idn e)=some e:=by
 unfold allE
 refine⟨?_,fun e=>?_⟩
 ·rw[List.pairwise_flatMap]
  refine⟨fun i hi=>(gY hP h hI (List.mem_range.1 hi)).1,?_⟩
  refine List.Pairwise.imp_of_mem ?_ (List.pairwise_lt_range (n:=2^lvl M))
  intro i j hi hj hij x hx y hy e
  have g1:=(gY hP h hI (List.mem_range.1 hi)).2.1 x hx
  have g2:=(gY hP h hI (List.mem_range.1 hj)).2.1 y hy
  rw[e,g2]at g1
  omega
 ·rw[List.mem_flatMap]
  obtain⟨i,h1,h2⟩:=plc_sh (lvl M) (sm (idn e))
  have h3:=cz.1 h2
  rw[← (gY hP h hI h1).2.2 e h3]
  constructor
  ·rintro⟨j,hj,hm⟩
   have:=(gY hP h hI (List.mem_range.1 hj)).2.1 e hm
   rw[h3]at this
   have:j=i:=by omega
   subst this;exact hm
  ·exact fun hm=>⟨i,List.mem_range.2 h1,hm⟩
end Core
end
section
namespace Core
open Dir (FZ plc upd upW Iw okW de upd_same upd_ne pow_pos2 plc_sh bh sh_32 sh_16 bQ aK)
open Hm (aZ bP cg)
variable{sm:List Int→Int}{P:Ops}
def ids(P:Ops)(M:Mc):List (List Int):=(allE P M).map idn
theorem fq(P:Ops)(M:Mc):(ids P M).length=(allE P M).length:=List.length_map _
theorem cE(hP:OpsOk sm P){M:Mc}{B:Int}(h:Iw M.W B)(hI:Ih sm M):(ids P M).Nodup:=by
 unfold ids
 rw[List.nodup_iff_pairwise_ne,List.pairwise_map]
 exact(all_ok hP h hI).1
theorem fk{M:Mc}{k:List Int}{c:Cel}(h:own sm M k=some c):idn c=k:=(bG h).2
theorem dv(hP:OpsOk sm P){M:Mc}{B:Int}(h:Iw M.W B)(hI:Ih sm M)(k:List Int):k∈ids P M↔(own sm M k).isSome=true:=by
 unfold ids
 rw[List.mem_map]
 constructor
 ·rintro⟨c,hc,rfl⟩
  rw[((all_ok hP h hI).2 c).1 hc];rfl
 ·intro hk
  cases e:own sm M k with
  | none=>rw[e]at hk;cases hk
  | some c =>
   have:=fk e
   exact⟨c,((all_ok hP h hI).2 c).2 (by rw[this];exact e),this⟩
theorem n6(hP:OpsOk sm P){M M':Mc}{B B':Int}(h:Iw M.W B)(hI:Ih sm M)(h':Iw M'.W B')(hI':Ih sm M')(ho:∀k,(own sm M' k).isSome=(own sm M k).isSome):(allE P M').length=(allE P M).length:=by
 rw[← fq,← fq]
 refine((List.perm_ext_iff_of_nodup (cE hP h' hI') (cE hP h hI)).2 fun k=>?_).length_eq
 rw[dv hP h' hI',dv hP h hI,ho]
theorem wo(hP:OpsOk sm P){M M':Mc}{B B':Int}(h:Iw M.W B)(hI:Ih sm M)(h':Iw M'.W B')(hI':Ih sm M'){i:List Int}(hn:own sm M i=none)(ho:∀k,(own sm M' k).isSome=true↔k=i∨(own sm M k).isSome=true) :
  (allE P M').length=(allE P M).length+1:=by
 rw[← fq,← fq]
 have hp:(ids P M').Perm (i::ids P M):=(List.perm_ext_iff_of_nodup (cE hP h' hI') (List.nodup_cons.2 ⟨by rw[dv hP h hI,hn];simp,cE hP h hI⟩)).2 fun k=>by
  rw[dv hP h' hI',ho,List.mem_cons,dv hP h hI]
 rw[hp.length_eq];rfl
theorem ov(q:Cel→Bool):∀l:List Cel,(l.filter q).length+(l.filter fun c=>!q c).length=l.length
 | []=>rfl
 | c::l=>by
  have:=ov q l
  cases e:q c<;>simp[e]<;>omega
theorem wq(hP:OpsOk sm P){M M':Mc}{B B':Int}(h:Iw M.W B)(hI:Ih sm M)(h':Iw M'.W B')(hI':Ih sm M'){w:Nat}(hw:1≤w∧w<32)(hv:0<M.W w∧M.W w<FZ)(t:Int)
  (ho:∀k,own sm M' k=if aZ M.W (sm k)=w then look (fY P (M.Hd w) t) k else own sm M k) :
  ((allE P M').length:Int)=(allE P M).length-((M.Hd w).length-(fY P (M.Hd w) t).length):=by
 have hs:Srt (M.Hd w):=hI.word hw
 have hr:Srt (fY P (M.Hd w) t):=hs.filter _
 have hG:Srt ((M.Hd w).filter fun c=>P.idle c t):=hs.filter _
 have hhome:∀c∈M.Hd w,aZ M.W (sm (idn c))=w:=fun c hc=>by
  obtain⟨lv,i,hl,hi,e⟩:=aK hw
  have h1:=(hI lv i hl hi).2 c (by rw[← e];exact hc)
  have h2:=cz.2 h1
  rw[← e]at h2
  rw[← h2];rw[← h2]at hv
  exact cg h hl hv
 have hown:∀k,aZ M.W (sm k)=w→own sm M k=look (M.Hd w) k:=fun k hk=>by unfold own;rw[hk]
 have hgn:(((M.Hd w).filter fun c=>P.idle c t).map idn).Nodup:=by
  rw[List.nodup_iff_pairwise_ne]
  exact hG.ids.imp fun {a b} hab e=>by rw[e,be]at hab;omega
 have key:(ids P M).Perm (ids P M'++((M.Hd w).filter fun c=>P.idle c t).map idn):=by
  refine(List.perm_ext_iff_of_nodup (cE hP h hI) ?_).2 fun k=>?_
  ·rw[List.nodup_append]
   refine⟨cE hP h' hI',hgn,fun a ha b hb e=>?_⟩
   subst e
   obtain⟨g,hg,e⟩:=List.mem_map.1 hb
   obtain⟨g1,g2⟩:=List.mem_filter.1 hg
   rw[dv hP h' hI',ho,← e,if_pos (hhome g g1)]at ha
   cases e3:look (fY P (M.Hd w) t) (idn g)with
   | none=>rw[e3]at ha;cases ha
   | some c =>
    obtain⟨m1,m2⟩:=bG e3
    obtain⟨m3,m4⟩:=List.mem_filter.1 m1
    have:=hs.uniq m3 g1 m2
    subst this
    rw[g2]at m4;cases m4
  ·rw [List.mem_append,dv hP h hI,dv hP h' hI',ho]
   by_cases e:aZ M.W (sm k)=w
   ·rw [if_pos e,hown k e]
    constructor
    ·intro hk
     cases e3:look (M.Hd w) k with
     | none=>rw[e3]at hk;cases hk
     | some c =>
      obtain⟨m1,m2⟩:=bG e3
      by_cases e4:P.idle c t=true
      ·exact .inr (List.mem_map.2 ⟨c,List.mem_filter.2 ⟨m1,e4⟩,m2⟩)
      ·have:c∈fY P (M.Hd w) t:=List.mem_filter.2 ⟨m1,by simpa using e4⟩
       have:=hr.look_of this
       rw[m2]at this
       exact .inl (by rw[this];rfl)
    ·rintro(hk|hk)
     ·cases e3:look (fY P (M.Hd w) t) k with
      | none=>rw[e3]at hk;cases hk
      | some c =>
       obtain⟨m1,m2⟩:=bG e3
       have:=hs.look_of (List.mem_filter.1 m1).1
       rw[m2]at this;rw[this];rfl
     ·obtain⟨c,hc,m2⟩:=List.mem_map.1 hk
      have:=hs.look_of (List.mem_filter.1 hc).1
      rw[m2]at this;rw[this];rfl
   ·rw[if_neg e]
    constructor
    ·exact .inl
    ·rintro(hk|hk)
     ·exact hk
     ·obtain⟨c,hc,m2⟩:=List.mem_map.1 hk
      exact absurd (by rw[← m2];exact hhome c (List.mem_filter.1 hc).1) e
 have hl:=key.length_eq
 rw[Q9,List.length_map,fq,fq]at hl
 have hf:=ov (fun c=>P.idle c t) (M.Hd w)
 have hr2:(fY P (M.Hd w) t).length=((M.Hd w).filter fun c=>!P.idle c t).length:=rfl
 omega
end Core
end
section
namespace Core
open Dir (FZ plc upd upW Iw okW de upd_same upd_ne pow_pos2 plc_sh sh_32 aK upW_sh)
variable{sm:List Int→Int}{P:Ops}
def aQ(x:X):CS→Int
 | .none=>0
 | .b0 n _=>n
 | .b1 n _ _=>n
 | _=>if x.res=true then 1 else 0
def Rf(x:X):Fc→Prop
 | .key=>True
 | .ev _ _ _=>x.res=false
def Rb(x:X):Bk→Prop
 | .lv _=>True
 | .ev _ _ _=>x.res=false
def Rs'(x:X):CS→Prop
 | .k0 f=>Rf x f
 | .kE f _=>Rf x f
 | .kF f _ _=>Rf x f
 | .kG f _ _ _ _=>Rf x f
 | .kH f _ _ _=>Rf x f
 | .kL f _ _ _=>Rf x f
 | .pk _=>x.res=false
 | .a0 _=>x.op=2
 | .a1 _ _=>x.op=2
 | .p0 _ _ _=>x.op=1∨x.op=2
 | .p1 _ _ _ _=>x.op=1∨x.op=2
 | .b0 _ k=>Rb x k
 | .b1 _ k _=>Rb x k
 | .e0=>x.res=false
 | .eC _ _ _ _ _ _=>x.res=false
 | .eS _ _ _ _ _ _ _=>x.res=false
 | .s0=>x.res=false
 | .sM _=>x.res=false
 | .sF _ _=>x.res=false
 | .sG _ _ _ _=>x.res=false
 | .sH _ _ _ _=>x.res=false
 | .sL _ _ _ _=>x.res=false
 | .sV _=>x.res=false
 | _=>True
structure Rx(x:X)(s:CS):Prop where
 op:x.res=true→x.op=1∨x.op=2
 st:Rs' x s
theorem dD{x:X}(r:Rpl):aQ x (leave x r).1=if x.res=true then 1 else 0:=by
 unfold leave;split<;>simp[aQ]
theorem gi(x y:X)(f:Fd)(c:Cel)(r:Rpl):aQ x (put y f c r)=if x.res=true then 1 else 0:=by
 unfold put;split<;>rfl
theorem co{x:X}(h:x.res=false)(j sh:Nat)(g:Int):aQ x (further j sh g).1=0:=by
 unfold further;split
 ·rfl
 ·simp[aQ,h]
theorem mZ{x:X}{f:Fd}(h:Rx x (.k0 .key)):aQ x (foundK P x f).1=if x.res=true then 1 else 0:=by
 have hr:¬x.op=1→¬x.op=2→x.res=false:=fun h1 h2=>by
  cases e:x.res with
  | false=>rfl
  | true=>rcases h.op e with h3|h3<;>contradiction
 unfold foundK
 by_cases h1:x.op=1
 ·rw[if_pos h1];rfl
 rw[if_neg h1]
 by_cases h2:x.op=2
 ·rw[if_pos h2]
  split
  ·exact dD _
  ·split
   ·exact gi _ _ _ _ _
   ·rfl
 rw[if_neg h2]
 have h3:=hr h1 h2
 split
 ·split
  ·exact gi _ _ _ _ _
  ·simp[aQ,h3]
 ·split
  ·simp[aQ,h3]
  ·rfl
theorem fT{x:X}{f:Fc}{w:Nat}{v:Int}{h:List Cel}(hr:Rx x (.k0 f)):aQ x (entered P x f w v h).1=if x.res=true then 1 else 0:=by
 unfold entered
 split
 ·rfl
 ·unfold found
  cases f with
  | key=>exact mZ hr
  | ev j sh g =>
   have h0:x.res=false:=hr.st
   dsimp only
   split
   ·rw[co h0,h0];rfl
   ·rfl
theorem qR(x:X)(lv i:Nat)(up:Bool)(h:List Cel):aQ x (on lv i up h)=if x.res=true then 1 else 0:=by
 unfold on move;split
 ·split<;>rfl
 ·rfl
theorem qi{M:Mc}{x:X}{s:CS}(hs:Cw x M.W s)(hr:Rx x s) :
  (step P M x s).M.W 32=M.W 32+dC M s+aQ (step P M x s).x (step P M x s).s-aQ x s:=by
 have p32:∀lv,lv≤4→∀s:Int,plc lv s<32:=fun lv hl s=>by obtain⟨i,h1,h2⟩:=plc_sh lv s;rw[h2];exact(sh_32 hl h1).2
 have ne:∀(w:Nat) (v:Int) (h:List Cel),w<32→(M.set w v h).W 32=M.W 32:=fun w v h hw=>upd_ne _ _ (by omega)
 cases s with
 | none=>simp[step,dC,aQ]
 | k0 f=>simp only[step,dC];split<;>simp only[aQ]<;>omega
 | kE f w =>
  show M.W 32=M.W 32+0+aQ x (entered P x f w (M.W w) (M.Hd w)).1-(if x.res=true then 1 else 0)
  rw[fT ⟨hr.op,hr.st⟩];omega
 | kF f lv w=>simp only[step,dC];split<;>simp only[aQ,toH]<;>omega
 | kG f lv w v m =>
  simp only[step,dC];split
  ·show(M.set w (v+FZ) m).W 32=_
   rw[ne _ _ _ (by rw[hs.2.2.1];exact p32 _ (by have:=hs.2.1;omega) _)]
   simp only[aQ,toH];omega
  ·simp only[aQ];omega
 | kH f lv w m =>
  simp only[step,dC];split
  ·simp only[aQ];omega
  ·show M.W 32=M.W 32+0+aQ x (entered P x f w (M.W w) (M.Hd w)).1-(if x.res=true then 1 else 0)
   rw[fT ⟨hr.op,hr.st⟩];omega
 | kL f lv w m =>
  simp only[step,dC];split
  ·rw[ne _ _ _ (by rw[hs.2.2.2.1];exact p32 _ hs.2.2.1 _)];simp only[aQ];omega
  ·simp only[aQ];omega
 | al f =>
  simp only[step,dC];split
  ·show M.W 32=M.W 32+0+aQ x (leave x _).1-(if x.res=true then 1 else 0)
   rw[dD];omega
  ·show M.W 32=M.W 32+0+aQ x (put x _ _ _)-(if x.res=true then 1 else 0)
   rw[gi];omega
 | pk c=>have:x.res=false:=hr.st;simp[step,dC,aQ,this]
 | a0 f =>
  simp only[step,dC];split
  ·show M.W 32=M.W 32+0+aQ x (leave x _).1-(if x.res=true then 1 else 0)
   rw[dD];omega
  ·simp only[aQ];omega
 | a1 f u =>
  simp only[step,dC];split
  ·show upd M.W 33 (u+1) 32=M.W 32+0+aQ { x with ser:=u+1 } (put x _ _ _)-(if x.res=true then 1 else 0)
   rw[upd_ne _ _ (by omega),gi];dsimp only;omega
  ·simp only[aQ];omega
 | p0 f c r =>
  have:x.res=false:=hs.2.2.1
  simp only[step,dC];split
  ·simp[aQ,this]
  ·simp only[aQ];omega
 | p1 f c r u =>
  have:x.res=false:=hs.2.2.1
  simp only[step,dC];split
  ·rename_i hm
   show upd M.W 32 (u+1) 32=_
   rw[upd_same,hm];simp[aQ,this]
  ·simp only[aQ];omega
 | pS f c r =>
  obtain⟨⟨a,b,d,e⟩,g,k⟩:=hs
  simp only[step,dC];split
  ·rename_i hm
   show(M.set f.w (f.v+1) _).W 32=M.W 32+_+aQ x (if _ then _ else _:CS×Rs).1-(if x.res=true then 1 else 0)
   rw[ne _ _ _ b]
   cases ht:f.there with
   | true=>rw[if_neg (by simp),if_pos rfl,dD];omega
   | false =>
    have hres:x.res=true:=by rcases k with k|k;rw[ht]at k;cases k;exact k
    rw[if_pos ⟨hm,rfl⟩,if_neg (by simp),hres];simp[aQ]
  ·rename_i hm
   rw[if_neg (fun h=>hm h.1)];simp only[aQ];omega
 | b0 n k=>simp only[step,dC,aQ];omega
 | b1 n k u =>
  simp only[step,dC];split
  ·rename_i hm
   show upd M.W 32 (u-n) 32=M.W 32+0+aQ x (after n k).1-n
   rw[upd_same]
   cases k with
   | lv r=>simp only[after,aQ];omega
   | ev j sh g=>rw[show(after n (.ev j sh g))=further j sh (g+n)from rfl,co hr.st];omega
  ·simp only[aQ];omega
 | e0=>show M.W 32=M.W 32+0+(if x.res=true then 1 else 0)-(if x.res=true then 1 else 0);omega
 | eC j sh g w v m =>
  have:x.res=false:=hr.st
  simp only[step,dC];split
  ·show M.W 32=M.W 32+0+aQ x (further j sh g).1-(if x.res=true then 1 else 0)
   rw[co this,this];simp
  ·simp only[aQ];omega
 | eS j sh g w v m n =>
  have:x.res=false:=hr.st
  simp only[step,dC];split
  ·rw[ne _ _ _ hs.2.2.2.1];simp only[aQ,this];simp;omega
  ·show M.W 32=M.W 32+0+aQ x (further j sh g).1-(if x.res=true then 1 else 0)
   rw[co this,this];simp
 | s0 =>
  have:x.res=false:=hr.st
  simp only[step,dC];split
  ·simp only[aQ];omega
  ·split
   ·simp[aQ,this]
   ·simp only[aQ];omega
 | sM lv =>
  simp only[step,dC];split
  ·rw[ne _ _ _ (by omega)];simp only[aQ];omega
  ·simp only[aQ];omega
 | sF lv i=>simp only[step,dC];split<;>simp only[aQ]<;>omega
 | sG lv i v m =>
  simp only[step,dC];split
  ·rw[ne _ _ _ (sh_32 (by have:=hs.1;omega) hs.2.1).2];simp only[aQ];omega
  ·simp only[aQ];omega
 | sH lv i up m =>
  simp only[step,dC];split
  ·simp only[aQ];omega
  ·rw[qR];simp only[aQ];omega
 | sL lv i up m =>
  obtain⟨j,h1,h2,h3⟩:=upW_sh (up:=up) hs.2.1
  have hw:=sh_32 (by have:=hs.1;omega:lv+1≤4) h1
  show(if _ then _ else _:Mc).W 32=M.W 32+0+aQ x (on lv i up m)-(if x.res=true then 1 else 0)
  rw[qR]
  split
  ·rw[ne _ _ _ (by omega)];omega
  ·omega
 | sV lv =>
  have:x.res=false:=hr.st
  show(if _ then _ else _:Mc).W 32=M.W 32+0+0-(if x.res=true then 1 else 0)
  rw[this]
  split
  ·rw[ne _ _ _ (by omega)];simp
  ·simp
end Core
end
section
namespace Core
open Dir (FZ plc upd upW Iw okW de upd_same upd_ne pow_pos2 plc_sh sh_32 aK upW_sh)
variable{sm:List Int→Int}{P:Ops}
theorem oV(hP:OpsOk sm P){M:Mc}{B:Int}(h:Iw M.W B)(hB:1≤B∧B+1<FZ){x:X}(hx:0≤x.ser)(h33:0≤M.W 33){s:CS}(hs:Cw x M.W s)(hI:Ih sm M)(hc:Ch sm P x M s) :
  ((allE P (step P M x s).M).length:Int)=(allE P M).length+dC M s:=by
 have he:=gf hP h hB hs hI hc
 have iw':=(cN (P:=P) h hB hx h33 hs).iw
 cases he.own with
 | calm hd ho=>rw[n6 hP h hI iw' he.ih fun k=>by rw[ho],hd];omega
 | put f c r e hw h0 ho =>
  subst e
  have hk:Kd sm P x M f:=hc.1
  have ht:f.there=(look f.h (x.pol::x.key)).isSome:=by rw[hk.fd];exact(hP.fnd f.h x.pol x.key hk.srt hk.k.1).1
  rw[← h0]at ht
  cases e2:own sm M (x.pol::x.key)with
  | none =>
   rw[e2]at ht
   rw[wo hP h hI iw' he.ih e2 fun k=>by
    rw[ho];by_cases ek:k=x.pol::x.key
    ·rw[if_pos ek];simp[ek]
    ·rw[if_neg ek];simp[ek]]
   show _=_+(if M.W f.w=f.v∧f.there=false then(1:Int)else 0)
   rw[if_pos ⟨hw,ht⟩];omega
  | some d =>
   rw[e2]at ht
   rw[n6 hP h hI iw' he.ih fun k=>by
    rw[ho];by_cases ek:k=x.pol::x.key
    ·rw[if_pos ek,ek,e2];rfl
    ·rw[if_neg ek]]
   show _=_+(if M.W f.w=f.v∧f.there=false then(1:Int)else 0)
   rw[if_neg (by rw[ht];simp)];omega
 | evict j sh g w v m n e hw t ht hm hn ho =>
  subst e
  obtain⟨a,b,c,d,e,e',k⟩:=hs
  rw[wq hP h hI iw' he.ih ⟨c,d⟩ (by omega) t fun k=>by rw[ho,hm]]
  show _=_+(if M.W w=v then -n else(0:Int))
  rw[if_pos hw,hn,← hm];omega
def sumI(n:Nat)(f:Nat→Int):Int :=
 match n with
 | 0=>0
 | n+1=>sumI n f+f n
theorem iY{f g:Nat→Int}:∀{n:Nat},(∀j,j<n→g j=f j)→sumI n g=sumI n f
 | 0,_=>rfl
 | n+1,h=>by simp only[sumI];rw[iY (n:=n) fun j hj=>h j (by omega),h n (by omega)]
theorem cM{f g:Nat→Int}{i:Nat}:∀{n:Nat},i<n→(∀j,j<n→j≠i→g j=f j)→sumI n g=sumI n f+g i-f i
 | 0,h,_=>by omega
 | n+1,h,hh=>by
  simp only[sumI]
  by_cases e:i=n
  ·subst e
   rw[iY (n:=i) fun j hj=>hh j (by omega) (by omega)];omega
  ·rw[cM (n:=n) (by omega) fun j hj hne=>hh j (by omega) hne,hh n (by omega) (fun e'=>e e'.symm)];omega
theorem jR{f:Nat→Int}:∀{n:Nat},(∀j,j<n→0≤f j)→0≤sumI n f
 | 0,_=>Int.le_refl _
 | n+1,h=>by
  have:=jR (n:=n) fun j hj=>h j (by omega)
  have:=h n (by omega)
  simp only[sumI];omega
theorem qP{x:X}{W:Nat→Int}{s:CS}(hs:Cw x W s):0≤aQ x s:=by
 cases s with
 | none=>exact Int.le_refl _
 | b0 n k=>have:=hs.1;simp only[aQ];omega
 | b1 n k u=>have:=hs.1;simp only[aQ];omega
 | _=>simp only[aQ];split<;>omega
def Ru(P:Ops):CS→Prop
 | .p1 _ _ _ u=>u≠P.room
 | _=>True
structure All(sm:List Int→Int)(P:Ops)(M:Mc)(S:Nat→Wk)(B:Int):Prop where
 inv:Inv M S B
 ih:Ih sm M
 ch:∀i,Ch sm P (S i).x M (S i).s
 rx:∀i,Rx (S i).x (S i).s
 ru:∀i,Ru P (S i).s
 cnt:M.W 32=(allE P M).length+sumI 64 fun i=>aQ (S i).x (S i).s
 room:M.W 32≤P.room
theorem All.ge{M:Mc}{S:Nat→Wk}{B:Int}(h:All sm P M S B):((allE P M).length:Int)≤M.W 32:=by
 have:=jR (f:=fun i=>aQ (S i).x (S i).s) (n:=64) fun j _=>qP (h.inv.cw j)
 have:=h.cnt
 omega
end Core
end
section
namespace Core
open Dir (FZ plc upd upW Iw okW de upd_same upd_ne pow_pos2 plc_sh sh_32 aK upW_sh)
variable{sm:List Int→Int}{P:Ops}
theorem gt{x:X}(h:x.res=true→x.op=1∨x.op=2)(r:Rpl):Rx x (leave x r).1:=by
 unfold leave;split
 ·exact⟨h,trivial⟩
 ·exact⟨h,trivial⟩
theorem nJ{x y:X}(h:x.res=true→x.op=1∨x.op=2){f:Fd}(h2:f.there=true∨x.op=1∨x.op=2)(c:Cel)(r:Rpl)(hy:y.res=x.res):Rx x (put y f c r):=by
 unfold put;split
 ·exact⟨h,trivial⟩
 ·rename_i e
  refine⟨h,?_⟩
  rcases h2 with h2|h2
  ·exact absurd (.inl h2) e
  ·exact h2
theorem dH{x:X}(h:x.res=true→x.op=1∨x.op=2)(h0:x.res=false)(j sh:Nat)(g:Int):Rx x (further j sh g).1:=by
 unfold further;split
 ·exact⟨h,trivial⟩
 ·exact⟨h,h0⟩
theorem jw(hP:OpsOk sm P){M:Mc}(hI:Ih sm M){x:X}{f:Fc}(hr:Rx x (.k0 f))(hk:KF sm x f){w:Nat}(hw:∃lv,lv≤4∧w=plc lv (sumF x f)):Rx x (entered P x f w (M.W w) (M.Hd w)).1:=by
 have hsrt:Srt (M.Hd w):=by obtain⟨lv,hl,rfl⟩:=hw;exact hI.word (plc_32 hl _)
 have h:=hr.op
 unfold entered
 split
 ·exact hr
 ·unfold found
  cases f with
  | key =>
   show Rx x (foundK P x (fdOf P x w (M.W w) (M.Hd w))).1
   have hres:¬x.op=1→¬x.op=2→x.res=false:=fun h1 h2=>by
    cases e:x.res with
    | false=>rfl
    | true=>rcases h e with h3|h3<;>contradiction
   have hf:=hP.fnd (M.Hd w) x.pol x.key hsrt (show K sm x from hk).1
   unfold foundK
   by_cases h1:x.op=1
   ·rw[if_pos h1];exact⟨h,trivial⟩
   rw[if_neg h1]
   by_cases h2:x.op=2
   ·rw[if_pos h2]
    split
    ·exact gt h _
    ·split
     ·exact nJ h (.inr (.inr h2)) _ _ rfl
     ·exact⟨h,h2⟩
   rw[if_neg h2]
   split
   ·split
    ·rename_i he
     refine nJ h (.inl ?_) _ _ rfl
     have h5:=hP.rel0 _ _ _ he
     show(P.fnd (M.Hd w) x.pol x.key).2.1=true
     replace h5:(P.fnd (M.Hd w) x.pol x.key).2.2.held≠[]:=h5
     rw[hf.1]
     rw[hf.2]at h5
     cases e:look (M.Hd w) (x.pol::x.key)with
     | none=>rw[e]at h5;exact absurd rfl h5
     | some d=>rfl
    ·exact⟨h,trivial⟩
   ·split
    ·exact⟨h,trivial⟩
    ·exact⟨h,hres h1 h2⟩
  | ev j sh g =>
   have h0:x.res=false:=hr.st
   dsimp only
   split
   ·exact dH h h0 _ _ _
   ·exact⟨h,h0⟩
theorem on_rx{x:X}(h:x.res=true→x.op=1∨x.op=2)(h0:x.res=false)(lv i:Nat)(up:Bool)(m:List Cel):Rx x (on lv i up m):=by
 unfold on move;split
 ·split<;>exact⟨h,h0⟩
 ·exact⟨h,h0⟩
theorem step_rx(hP:OpsOk sm P){M:Mc}{x:X}{s:CS}(hs:Cw x M.W s)(hI:Ih sm M)(hc:Ch sm P x M s)(hr:Rx x s):Rx (step P M x s).x (step P M x s).s:=by
 have h:=hr.op
 cases s with
 | none=>exact hr
 | k0 f=>simp only[step];split<;>exact⟨h,hr.st⟩
 | kE f w=>exact jw hP hI ⟨h,hr.st⟩ hc.1 hc.2
 | kF f lv w=>simp only[step];split<;>exact⟨h,hr.st⟩
 | kG f lv w v m=>simp only[step];split<;>exact⟨h,hr.st⟩
 | kH f lv w m =>
  simp only[step];split
  ·exact⟨h,hr.st⟩
  ·exact jw hP hI ⟨h,hr.st⟩ hc.1 ⟨lv,hs.2.2.1,hs.2.2.2.1⟩
 | kL f lv w m=>exact⟨h,hr.st⟩
 | al f =>
  have h1:x.op=1:=hs.2
  simp only[step];split
  ·exact gt h _
  ·exact nJ h (.inr (.inl h1)) _ _ rfl
 | pk c=>exact⟨h,trivial⟩
 | a0 f =>
  simp only[step];split
  ·exact gt h _
  ·exact⟨h,hr.st⟩
 | a1 f u =>
  simp only[step];split
  ·have h2:x.op=2:=hr.st
   exact nJ (x:={ x with ser:=u+1 }) h (.inr (.inr h2)) _ _ rfl
  ·exact⟨h,hr.st⟩
 | p0 f c r =>
  simp only[step];split
  ·exact⟨h,trivial⟩
  ·exact⟨h,hr.st⟩
 | p1 f c r u =>
  simp only[step];split
  ·exact⟨fun _=>hr.st,trivial⟩
  ·exact⟨h,hr.st⟩
 | pS f c r =>
  simp only[step];split
  ·show Rx x (if _ then _ else _:CS×Rs).1
   split
   ·exact gt h _
   ·exact⟨h,trivial⟩
  ·exact⟨h,trivial⟩
 | b0 n k=>exact⟨h,hr.st⟩
 | b1 n k u =>
  simp only[step];split
  ·show Rx x (after n k).1
   cases k with
   | lv r=>exact⟨h,trivial⟩
   | ev j sh g=>exact dH h hr.st _ _ _
  ·exact⟨h,hr.st⟩
 | e0=>exact⟨h,hr.st⟩
 | eC j sh g w v m =>
  simp only[step];split
  ·exact dH h hr.st _ _ _
  ·exact⟨h,hr.st⟩
 | eS j sh g w v m n =>
  simp only[step];split
  ·exact⟨h,hr.st⟩
  ·exact dH h hr.st _ _ _
 | s0 =>
  simp only[step];split
  ·exact⟨h,hr.st⟩
  ·split
   ·exact⟨h,trivial⟩
   ·exact⟨h,hr.st⟩
 | sM lv=>simp only[step];split<;>exact⟨h,hr.st⟩
 | sF lv i=>simp only[step];split<;>exact⟨h,hr.st⟩
 | sG lv i v m=>simp only[step];split<;>exact⟨h,hr.st⟩
 | sH lv i up m =>
  simp only[step];split
  ·exact⟨h,hr.st⟩
  ·exact on_rx h hr.st _ _ _ _
 | sL lv i up m=>exact on_rx h hr.st _ _ _ _
 | sV lv=>exact⟨h,trivial⟩
theorem gu(x:X)(r:Rpl):Ru P (leave x r).1:=by unfold leave;split<;>trivial
theorem qE(x:X)(f:Fd)(c:Cel)(r:Rpl):Ru P (put x f c r):=by unfold put;split<;>trivial
theorem dI(j sh:Nat)(g:Int):Ru P (further j sh g).1:=by unfold further;split<;>trivial
theorem jx(x:X)(f:Fc)(w:Nat)(v:Int)(h:List Cel):Ru P (entered P x f w v h).1:=by
 unfold entered;split
 ·trivial
 ·unfold found
  cases f with
  | key =>
   show Ru P (foundK P x (fdOf P x w v h)).1
   unfold foundK
   (repeat' split)<;>first|trivial|exact gu _ _|exact qE _ _ _ _
  | ev j sh g=>dsimp only;split;exact dI _ _ _;trivial
theorem on_ru(lv i:Nat)(up:Bool)(m:List Cel):Ru P (on lv i up m):=by
 unfold on move;(repeat' split)<;>trivial
theorem step_ru{M:Mc}{x:X}{s:CS}(hr:Ru P s):Ru P (Core.step P M x s).s:=by
 cases s with
 | none=>trivial
 | k0 f=>simp only[step];split<;>trivial
 | kE f w=>exact jx _ _ _ _ _
 | kF f lv w=>simp only[step];split<;>trivial
 | kG f lv w v m=>simp only[step];split<;>trivial
 | kH f lv w m=>simp only[step];split;trivial;exact jx _ _ _ _ _
 | kL f lv w m=>trivial
 | al f=>simp only[step];split;exact gu _ _;exact qE _ _ _ _
 | pk c=>trivial
 | a0 f=>simp only[step];split;exact gu _ _;trivial
 | a1 f u=>simp only[step];split;exact qE _ _ _ _;trivial
 | p0 f c r =>
  simp only[step];split
  ·trivial
  ·rename_i e;exact e
 | p1 f c r u=>simp only[step];split;trivial;trivial
 | pS f c r =>
  simp only[step];split
  ·show Ru P (if _ then _ else _:CS×Rs).1
   split
   ·exact gu _ _
   ·trivial
  ·trivial
 | b0 n k=>trivial
 | b1 n k u =>
  simp only[step];split
  ·show Ru P (after n k).1
   cases k with
   | lv r=>trivial
   | ev j sh g=>exact dI _ _ _
  ·trivial
 | e0=>trivial
 | eC j sh g w v m=>simp only[step];split;exact dI _ _ _;trivial
 | eS j sh g w v m n=>simp only[step];split;trivial;exact dI _ _ _
 | s0=>simp only[step];split;trivial;split<;>trivial
 | sM lv=>simp only[step];split<;>trivial
 | sF lv i=>simp only[step];split<;>trivial
 | sG lv i v m=>simp only[step];split<;>trivial
 | sH lv i up m=>simp only[step];split;trivial;exact on_ru _ _ _ _
 | sL lv i up m=>exact on_ru _ _ _ _
 | sV lv=>trivial
theorem qf{M:Mc}{B:Int}(h:Iw M.W B)(hB:1≤B∧B+1<FZ){x:X}(hx:0≤x.ser)(h33:0≤M.W 33){s:CS}(hs:Cw x M.W s)(hr:Ru P s)(hm:M.W 32≤P.room):(Core.step P M x s).M.W 32≤P.room:=by
 cases(cN (P:=P) h hB hx h33 hs).chg with
 | no h=>rw[h];exact hm
 | d h1 h2=>rw[h1,upd_ne _ _ (by omega)];exact hm
 | fz w h0 h1 h2=>rw[h2,upd_ne _ _ (by omega)];exact hm
 | lay w h0 h1 h2=>rw[h2,upd_ne _ _ (by omega)];exact hm
 | key w h0 h1 h2=>rw[h2,upd_ne _ _ (by omega)];exact hm
 | ser h1 h2=>rw[h2,upd_ne _ _ (by omega)];exact hm
 | cnt y h2 k2 =>
  cases s with
  | p1 f c r u =>
   have hr:u≠P.room:=hr
   simp only[step];split
   ·show upd M.W 32 (u+1) 32≤_
    rw[upd_same];omega
   ·exact hm
  | b1 n k u =>
   have:=hs.1
   simp only[step];split
   ·show upd M.W 32 (u-n) 32≤_
    rw[upd_same];omega
   ·exact hm
  | _=>exact absurd k2 (by simp[kd])
theorem All.step(hP:OpsOk sm P){M:Mc}{S:Nat→Wk}{B:Int}(h:All sm P M S B)(hB:B+1<FZ){i:Nat}(hi:i<64):All sm P (mx P M S i) (nx P M S i) (B+1):=by
 have hI:=h.inv
 have he:=gf hP hI.iw ⟨hI.b,hB⟩ (hI.cw i) h.ih (h.ch i)
 have hs:=hI.step (P:=P) hB i
 have ho:=qi (P:=P) (hI.cw i) (h.rx i)
 have hcl:=oV hP hI.iw ⟨hI.b,hB⟩ (hI.ser i) hI.c33 (hI.cw i) h.ih (h.ch i)
 have at_:∀{q:Wk→Prop},q ⟨(Core.step P M (S i).x (S i).s).x,(Core.step P M (S i).x (S i).s).s⟩→(∀j,j≠i→q (S j))→∀j,q (nx P M S i j):=fun {q} h1 h2 j=>by
  unfold nx
  by_cases e:j=i
  ·rw[e,upd_same];exact h1
  ·rw[upd_ne _ _ e];exact h2 j e
 have hsum:=cM (f:=fun j=>aQ (S j).x (S j).s) (g:=fun j=>aQ (nx P M S i j).x (nx P M S i j).s) (i:=i) (n:=64) hi fun j _ hne=>by
  show aQ (nx P M S i j).x (nx P M S i j).s=_
  unfold nx;rw[upd_ne _ _ hne]
 have hii:nx P M S i i=⟨(Core.step P M (S i).x (S i).s).x,(Core.step P M (S i).x (S i).s).s⟩:=by unfold nx;rw[upd_same]
 simp only[hii]at hsum
 have hcnt:=h.cnt
 refine⟨hs,he.ih,at_ (q:=fun k=>Ch sm P k.x (mx P M S i) k.s) he.ch fun j _=>he.mono.ch (hI.cw j) (h.ch j),at_ (q:=fun k=>Rx k.x k.s) (step_rx hP (hI.cw i) h.ih (h.ch i) (h.rx i)) fun j _=>h.rx j,at_ (q:=fun k=>Ru P k.s) (step_ru (h.ru i)) fun j _=>h.ru j,?_,qf hI.iw ⟨hI.b,hB⟩ (hI.ser i) hI.c33 (hI.cw i) (h.ru i) h.room⟩
 ·show(Core.step P M (S i).x (S i).s).M.W 32=((allE P (Core.step P M (S i).x (S i).s).M).length:Int)+sumI 64 fun j=>aQ (nx P M S i j).x (nx P M S i j).s
  rw[hsum,hcl,ho,hcnt];omega
end Core
end
section
namespace Core
open Dir (FZ upd upd_same upd_ne)
variable{P:Ops}
theorem step_none{M:Mc}{x:X}{s:CS}(hr:(Core.step P M x s).r.done=true):(Core.step P M x s).s=.none:=by
 have lv:∀r,(leave x r).2.done=true→(leave x r).1=.none:=fun r h=>by unfold leave at h⊢;split at h<;>simp_all [r0]
 have fu:∀j sh g,(further j sh g).2.done=true→(further j sh g).1=.none:=fun j sh g h=>by unfold further at h⊢;split at h<;>simp_all [r0]
 have hfk:∀f,(foundK P x f).2.done=true→(foundK P x f).1=.none:=fun f h=>by
  unfold foundK at h⊢
  by_cases h1:x.op=1
  ·rw[if_pos h1]at h;simp[r0]at h
  rw[if_neg h1]at h⊢
  by_cases h2:x.op=2
  ·rw[if_pos h2]at h⊢
   by_cases h3:(f.cell.held.length:Int)=(P.pol x.pol).permits
   ·rw[if_pos h3]at h⊢;exact lv _ h
   rw[if_neg h3]at h⊢
   by_cases h4:0<x.ser
   ·rw[if_pos h4]at h;simp[r0]at h
   ·rw[if_neg h4]at h;simp[r0]at h
  rw[if_neg h2]at h⊢
  by_cases h5:x.op=3
  ·rw[if_pos h5]at h⊢
   by_cases h6:(P.rel (P.pol x.pol) f.cell x.n).1.e=0
   ·rw[if_pos h6]at h;simp[r0]at h
   ·rw[if_neg h6]
  rw[if_neg h5]at h⊢
  by_cases h7:(P.pol x.pol).kind=2
  ·rw[if_pos h7]
  ·rw[if_neg h7]at h;simp[r0]at h
 have hen:∀f w v hh,(entered P x f w v hh).2.done=true→(entered P x f w v hh).1=.none:=fun f w v hh h=>by
  unfold entered at h⊢
  split at h
  ·simp[r0]at h
  ·rename_i e;rw[if_neg e]
   cases f with
   | key=>exact hfk _ h
   | ev j sh g =>
    simp only[found]at h⊢
    split at h
    ·rename_i e;rw[if_pos e];exact fu _ _ _ h
    ·simp[r0]at h
 cases s with
 | none=>rfl
 | k0 f=>simp[step,r0]at hr
 | kE f w=>exact hen _ _ _ _ hr
 | kF f lv w=>simp[step,r0]at hr
 | kG f lv w v m=>simp only[step]at hr;split at hr<;>simp[r0]at hr
 | kH f lv w m =>
  by_cases e:M.W w=0
  ·simp[step,if_pos e,r0]at hr
  ·simp only[step,if_neg e]at hr⊢;exact hen _ _ _ _ hr
 | kL f lv w m=>simp[step,r0]at hr
 | al f =>
  simp only[step]at hr⊢
  split at hr<;>rename_i e
  ·rw[if_pos e];exact lv _ hr
  ·simp[r0]at hr
 | pk c=>rfl
 | a0 f =>
  simp only[step]at hr⊢
  split at hr<;>rename_i e
  ·rw[if_pos e];exact lv _ hr
  ·simp[r0]at hr
 | a1 f u=>simp only[step]at hr;split at hr<;>simp[r0]at hr
 | p0 f c r =>
  simp only[step]at hr⊢
  split at hr<;>rename_i e
  ·rw[if_pos e]
  ·simp[r0]at hr
 | p1 f c r u=>simp only[step]at hr;split at hr<;>simp[r0]at hr
 | pS f c r =>
  simp only[step]at hr⊢
  split at hr<;>rename_i e
  ·rw[if_pos e]
   simp only[same]at hr⊢
   split at hr<;>rename_i e2
   ·rw[if_pos e2];exact lv _ hr
   ·rw[if_neg e2]
  ·simp[r0]at hr
 | b0 n k=>simp[step,r0]at hr
 | b1 n k u =>
  simp only[step]at hr⊢
  split at hr<;>rename_i e
  ·rw[if_pos e]
   cases k with
   | lv r=>rfl
   | ev j sh g=>exact fu _ _ _ hr
  ·simp[r0]at hr
 | e0=>simp[step,r0]at hr
 | eC j sh g w v m =>
  simp only[step]at hr⊢
  split at hr<;>rename_i e
  ·rw[if_pos e];exact fu _ _ _ hr
  ·simp[r0]at hr
 | eS j sh g w v m n =>
  simp only[step]at hr⊢
  split at hr<;>rename_i e
  ·simp[r0]at hr
  ·rw[if_neg e];exact fu _ _ _ hr
 | s0 =>
  simp only[step]at hr⊢
  split at hr<;>rename_i e
  ·simp[r0]at hr
  ·rw[if_neg e]
   split at hr<;>rename_i e2
   ·rw[if_pos e2]
   ·simp[r0]at hr
 | sM lv=>simp only[step]at hr;split at hr<;>simp[r0]at hr
 | sF lv i=>simp[step,r0]at hr
 | sG lv i v m=>simp only[step]at hr;split at hr<;>simp[r0]at hr
 | sH lv i up m=>simp[step,r0]at hr
 | sL lv i up m=>simp[step,r0]at hr
 | sV lv=>rfl
structure Sers(M:Mc)(S:Nat→Wk)(G:List Int):Prop where
 le:∀i,(S i).x.ser≤M.W 33
 ne:∀i j,i≠j→(S i).s≠.none→(S j).s≠.none→(S i).x.ser≠0→(S i).x.ser≠(S j).x.ser
 gv:∀g∈G,1≤g∧g≤M.W 33∧∀i,(S i).s≠.none→(S i).x.ser≠g
 nd:G.Nodup
 sr:∀i,Sr (S i).x (S i).s
def give(r:Rpl)(G:List Int):List Int:=if r.serial=0 then G else r.serial::G
theorem Sers.step(hP:oO P){M:Mc}{S:Nat→Wk}{B:Int}(h:Inv M S B)(hB:B+1<FZ){G:List Int}(hs:Sers M S G)(i:Nat)(hn:(S i).s≠.none)(hd:(Core.step P M (S i).x (S i).s).r.done=false→(Core.step P M (S i).x (S i).s).r.r.serial=0) :
  Sers (mx P M S i) (nx P M S i) (give (Core.step P M (S i).x (S i).s).r.r G):=by
 have h1:=i2 (P:=P) h.iw ⟨h.b,hB⟩ (h.ser i) h.c33 (h.cw i)
 have h2:=step_sr hP (M:=M) (hs.sr i)
 have hii:nx P M S i i=⟨(Core.step P M (S i).x (S i).s).x,(Core.step P M (S i).x (S i).s).s⟩:=by unfold nx;rw[upd_same]
 have hij:∀j,j≠i→nx P M S i j=S j:=fun j e=>by unfold nx;rw[upd_ne _ _ e]
 have hsr:∀j,Sr (nx P M S i j).x (nx P M S i j).s:=fun j=>by
  by_cases e:j=i
  ·subst e;rw[hii];exact h2.1
  ·rw[hij _ e];exact hs.sr j
 rcases h1 with⟨a,b⟩|⟨a,b,c,d⟩
 ·have le':∀j,(nx P M S i j).x.ser≤(mx P M S i).W 33:=fun j=>by
   show _≤(Core.step P M (S i).x (S i).s).M.W 33
   rw[a]
   by_cases e:j=i
   ·subst e;rw[hii];show(Core.step P M (S j).x (S j).s).x.ser≤_;rw[b];exact hs.le j
   ·rw[hij _ e];exact hs.le j
  have act:∀j,(nx P M S i j).s≠.none→(S j).s≠.none∧(nx P M S i j).x.ser=(S j).x.ser:=fun j hj=>by
   by_cases e:j=i
   ·subst e;rw[hii];exact⟨hn,b⟩
   ·rw[hij _ e]at hj⊢;exact⟨hj,rfl⟩
  refine⟨le',fun j k hjk hj hk h0=>?_,?_,?_,hsr⟩
  ·rw[(act j hj).2]at h0⊢;rw[(act k hk).2]
   exact hs.ne j k hjk (act j hj).1 (act k hk).1 h0
  ·intro g hg
   show 1≤g∧g≤(Core.step P M (S i).x (S i).s).M.W 33∧_
   rw[a]
   unfold give at hg
   split at hg
   ·obtain⟨g1,g2,g3⟩:=hs.gv g hg
    exact⟨g1,g2,fun j hj=>by rw[(act j hj).2];exact g3 j (act j hj).1⟩
   ·rename_i h0
    rcases Q22 hg with e|hg
    ·have e2:=(h2.2 h0).1
     rw[b]at e2
     have hdn:(Core.step P M (S i).x (S i).s).r.done=true:=by
      cases e3:(Core.step P M (S i).x (S i).s).r.done with
      | true=>rfl
      | false=>exact absurd (hd e3) h0
     have hno:=step_none hdn
     have:=h.ser i
     have:=hs.le i
     refine⟨by omega,by omega,fun j hj=>?_⟩
     have hji:j≠i:=fun e4=>by subst e4;rw[hii]at hj;exact hj hno
     rw[(act j hj).2,e,e2]
     exact fun e5=>hs.ne i j (fun e=>hji e.symm) hn (act j hj).1 (by omega) e5.symm
    ·obtain⟨g1,g2,g3⟩:=hs.gv g hg
     exact⟨g1,g2,fun j hj=>by rw[(act j hj).2];exact g3 j (act j hj).1⟩
  ·unfold give
   split
   ·exact hs.nd
   ·rename_i h0
    have e2:=(h2.2 h0).1
    rw[b]at e2
    rw[List.nodup_cons,e2]
    exact⟨fun hm=>(hs.gv _ hm).2.2 i hn rfl,hs.nd⟩
 ·have act:∀j,(nx P M S i j).s≠.none→(S j).s≠.none∧(j≠i→(nx P M S i j).x.ser=(S j).x.ser)∧(j=i→(nx P M S i j).x.ser=M.W 33+1):=fun j hj=>by
   by_cases e:j=i
   ·subst e;rw[hii];exact⟨hn,fun e=>absurd rfl e,fun _=>b⟩
   ·rw[hij _ e]at hj⊢;exact⟨hj,fun _=>rfl,fun e'=>absurd e' e⟩
  have h33:=h.c33
  refine⟨fun j=>?_,fun j k hjk hj hk h0=>?_,?_,?_,hsr⟩
  ·show _≤(Core.step P M (S i).x (S i).s).M.W 33
   rw[a]
   by_cases e:j=i
   ·subst e;rw[hii];show(Core.step P M (S j).x (S j).s).x.ser≤_;rw[b];exact Int.le_refl _
   ·rw[hij _ e];have:=hs.le j;omega
  ·by_cases e:j=i
   ·have hk':k≠i:=fun e2=>hjk (e.trans e2.symm)
    rw[(act j hj).2.2 e,(act k hk).2.1 hk']
    have:=hs.le k;omega
   ·rw[(act j hj).2.1 e]at h0⊢
    by_cases e2:k=i
    ·rw[(act k hk).2.2 e2];have:=hs.le j;omega
    ·rw[(act k hk).2.1 e2];exact hs.ne j k hjk (act j hj).1 (act k hk).1 h0
  ·intro g hg
   show 1≤g∧g≤(Core.step P M (S i).x (S i).s).M.W 33∧_
   rw[a]
   have hg:g∈G:=by unfold give at hg;rw[if_pos (hd d)]at hg;exact hg
   obtain⟨g1,g2,g3⟩:=hs.gv g hg
   refine⟨g1,by omega,fun j hj=>?_⟩
   by_cases e:j=i
   ·rw[(act j hj).2.2 e];omega
   ·rw[(act j hj).2.1 e];exact g3 j (act j hj).1
  ·unfold give;rw[if_pos (hd d)];exact hs.nd
end Core
end
section
namespace Core
open Dir (FZ upd upd_same upd_ne)
variable{P:Ops}
theorem Sers.start{M:Mc}{S:Nat→Wk}{G:List Int}(hs:Sers M S G)(h33:0≤M.W 33){i:Nat}{k:Wk}(h0:k.x.ser=0)(hk:Sr k.x k.s):Sers M (upd S i k) G:=by
 have hii:upd S i k i=k:=upd_same _ _ _
 have hij:∀j,j≠i→upd S i k j=S j:=fun j e=>upd_ne _ _ e
 refine⟨fun j=>?_,fun j l hjl hj hl hne=>?_,fun g hg=>?_,hs.nd,fun j=>?_⟩
 ·by_cases e:j=i
  ·subst e;rw[hii,h0];exact h33
  ·rw[hij _ e];exact hs.le j
 ·by_cases e:j=i
  ·subst e;rw[hii]at hne;exact absurd h0 hne
  ·rw[hij _ e]at hj hne⊢
   by_cases e2:l=i
   ·subst e2;rw[hii,h0];exact hne
   ·rw[hij _ e2]at hl⊢;exact hs.ne j l hjl hj hl hne
 ·obtain⟨g1,g2,g3⟩:=hs.gv g hg
  refine⟨g1,g2,fun j hj=>?_⟩
  by_cases e:j=i
  ·subst e;rw[hii,h0];omega
  ·rw[hij _ e]at hj⊢;exact g3 j hj
 ·by_cases e:j=i
  ·subst e;rw[hii];exact hk
  ·rw[hij _ e];exact hs.sr j
end Core
end
section
namespace Core
open Dir (FZ upd upd_same upd_ne)
variable{P:Ops}
theorem step_op(M:Mc)(x:X)(s:CS):(Core.step P M x s).x.op=x.op:=by
 cases s with
 | s0=>simp only[step];split;rfl;split<;>rfl
 | _=>(first|rfl|(simp only[step];split<;>rfl))
def pd(k:Wk):Int:=match k.s with
 | .none=>0
 | _=>if k.x.op=2∧k.x.ser=0 then 1 else 0
def pend(S:Nat→Wk):Int:=sumI 64 fun i=>pd (S i)
end Core
end
section
namespace Core
open Dir (FZ upd upW upd_same upd_ne pow_pos2 sh_32 upW_sh)
variable{P:Ops}
end Core
end
namespace Dir
def left(P:Ops)(W:Nat→Int)(cs:Nat→CS):Nat:=sumN 8 (fun j=>T P W (cs j))+56*rem W
structure Inv(P:Ops)(M:Mc)(cs:Nat→CS)(B:Int):Prop where
 iw:Iw M.W B
 b:1≤B
 cw:∀j,Cw P M.W (cs j)
theorem Inv.step{P:Ops}(hP:∀c h r,P.fnd c h=.inl r→r.done=true){M:Mc}{cs:Nat→CS}{B:Int}(h:Inv P M cs B)(hB:B+1<FZ)(i:Nat):Inv P (step P M (cs i)).1 (upd cs i (Dir.step P M (cs i)).2.1) (B+1):=by
 have h1:=cN hP h.iw ⟨h.b,hB⟩ (h.cw i)
 refine⟨h1.iw,by have:=h.b;omega,fun j=>?_⟩
 by_cases e:j=i
 ·subst e;rw[upd_same];exact h1.cw
 ·rw[upd_ne _ _ e];exact h1.gr.cw (h.cw j)
def M0:Mc:=⟨fun w=>if w=1 then 1 else 0,fun _=>[]⟩
theorem Inv.zero(P:Ops):Inv P M0 (fun _=>.none) 1:=by
 refine⟨⟨by simp[M0],fun lv i hl hi=>?_⟩,by omega,fun j=>trivial⟩
 have hF:FZ=4611686018427387904:=rfl
 have h0:M0.W 0=0:=rfl
 rw[h0]
 by_cases e:lv=0
 ·subst e
  obtain rfl:i=0:=by omega
  show okW 0 0 1 _ 1
  unfold okW;omega
 ·have:M0.W (2^lv+i)=0:=by
   have:2^1≤2^lv:=Q16 (by omega) (by omega)
   simp only[M0];rw[if_neg (by omega)]
  rw[this];unfold okW;omega
end Dir
section
namespace Core
open Dir (FZ plc upd upW Iw okW de upd_same upd_ne pow_pos2)
variable{sm:List Int→Int}{P:Ops}
def M0:Mc:=⟨Dir.M0.W,fun _=>[],0⟩
def first(x:X):CS:=if x.op=6 then .s0 else if x.op=5 then .e0 else .k0 .key
def okNew(sm:List Int→Int)(x:X):Prop:=x.res=false∧x.ser=0∧(x.op=5∨x.op=6∨K sm x)
theorem sumI_zero:∀{n:Nat},sumI n (fun _=>0)=0
 | 0=>rfl
 | n+1=>by simp only[sumI];rw[sumI_zero (n:=n)];rfl
theorem sE:allE P M0=[]:=rfl
theorem All.zero(h:0≤P.room):All sm P M0 (fun _=>⟨default,.none⟩) 1:=by
 have hi:=Dir.Inv.zero ⟨fun _=>0,fun _ _ _=>[],fun _ _=>.inl Dir.r0⟩
 refine⟨⟨hi.iw,by omega,by show(0:Int)≤Dir.M0.W 33;decide,fun _=>trivial,fun _=>by show(0:Int)≤(default:X).ser;decide⟩,fun lv i _ _=>⟨⟨(fun c hc=>nomatch hc),List.Pairwise.nil⟩,(fun c hc=>nomatch hc)⟩,fun _=>trivial,fun _=>⟨(fun h=>nomatch h),trivial⟩,fun _=>trivial,?_,h⟩
 show Dir.M0.W 32=((allE P M0).length:Int)+sumI 64 fun _=>0
 rw[sE,sumI_zero];rfl
theorem All.start{M:Mc}{S:Nat→Wk}{B:Int}(h:All sm P M S B){i:Nat}(hi:i<64)(hn:(S i).s=.none){x:X}(hx:okNew sm x):All sm P M (upd S i ⟨x,first x⟩) B:=by
 obtain⟨h1,h2,h3⟩:=hx
 have at_:∀{q:Wk→Prop},q ⟨x,first x⟩→(∀j,q (S j))→∀j,q (upd S i ⟨x,first x⟩ j):=fun {q} g1 g2 j=>by
  by_cases e:j=i
  ·rw[e,upd_same];exact g1
  ·rw[upd_ne _ _ e];exact g2 j
 have hcw:Cw x M.W (first x):=by unfold first;(repeat' split)<;>trivial
 have how:aQ x (first x)=0:=by unfold first;(repeat' split)<;>simp[aQ,h1]
 have hsum:=cM (f:=fun j=>aQ (S j).x (S j).s) (g:=fun j=>aQ (upd S i ⟨x,first x⟩ j).x (upd S i ⟨x,first x⟩ j).s) (i:=i) (n:=64) hi fun j _ hne=>by
  show aQ (upd S i ⟨x,first x⟩ j).x (upd S i ⟨x,first x⟩ j).s=_
  rw[upd_ne _ _ hne]
 have e1:aQ (S i).x (S i).s=0:=by rw[hn];rfl
 have e2:aQ (upd S i ⟨x,first x⟩ i).x (upd S i ⟨x,first x⟩ i).s=0:=by rw[upd_same];exact how
 replace hsum:sumI 64 (fun j=>aQ (upd S i ⟨x,first x⟩ j).x (upd S i ⟨x,first x⟩ j).s)=sumI 64 (fun j=>aQ (S j).x (S j).s)+aQ (upd S i ⟨x,first x⟩ i).x (upd S i ⟨x,first x⟩ i).s-aQ (S i).x (S i).s:=hsum
 rw[e1,e2]at hsum
 refine⟨h.inv.start i hcw (by rw[h2];omega),h.ih,at_ (q:=fun k=>Ch sm P k.x M k.s) ?_ h.ch,at_ (q:=fun k=>Rx k.x k.s) ⟨fun e=>absurd (h1.symm.trans e) (by decide),?_⟩ h.rx,at_ (q:=fun k=>Ru P k.s) ?_ h.ru,?_,h.room⟩
 ·show Ch sm P x M (first x)
  unfold first
  split
  ·trivial
  ·split
   ·trivial
   ·rcases h3 with h3|h3|h3
    ·contradiction
    ·contradiction
    ·exact h3
 ·show Rs' x (first x)
  unfold first;(repeat' split)<;>first|exact h1|trivial
 ·show Ru P (first x)
  unfold first;(repeat' split)<;>trivial
 ·have:=h.cnt
  rw[hsum];omega
theorem All.tick{M:Mc}{S:Nat→Wk}{B:Int}(h:All sm P M S B){t:Int}(ht:M.clk≤t):All sm P ⟨M.W,M.Hd,t⟩ S B :=
 ⟨⟨h.inv.iw,h.inv.b,h.inv.c33,h.inv.cw,h.inv.ser⟩,h.ih,fun i=>(iH.tick M ht).ch (h.inv.cw i) (h.ch i),h.rx,h.ru,h.cnt,h.room⟩
theorem alone_T{M:Mc}{S:Nat→Wk}{B:Int}(h:Inv M S B){i:Nat}(hn:(S i).s≠.none)(hr:(Core.step P M (S i).x (S i).s).r.done=false) :
  (nx P M S i i).s≠.none∧T (nx P M S i i).x (mx P M S i).W (nx P M S i i).s+1≤T (S i).x M.W (S i).s:=by
 have h1:=step_T (P:=P) h.iw (h.ser i) hn (h.cw i) hr
 have h2:=qe (P:=P) hn hr
 unfold nx;rw[upd_same]
 exact⟨h2,h1⟩
end Core
end
theorem oM(k:IntKind)(hk:k.bits=64)(x:Int)(n:Nat)(hn:n≤30):bits .and k x (2^n-1)=x%2^n:=by
 have hp:(0:Int)<2^n:=Int.pow_pos (by decide)
 have hle:(2:Nat)^n≤2^30:=Q16 (by decide) hn
 have hpe:((2^n:Nat):Int)=2^n:=by simp
 have e1:(BitVec.ofInt k.bits ((2:Int)^n-1)).toNat=2^n-1:=by
  rw[BitVec.toNat_ofInt,hk]
  have:((2:Int)^n-1)%((2^64:Nat):Int)=2^n-1:=Int.emod_eq_of_lt (by omega) (by omega)
  rw[this];omega
 have e2:((BitVec.ofInt k.bits x&&&BitVec.ofInt k.bits ((2:Int)^n-1)).toNat:Int)=x%2^n:=by
  rw[BitVec.toNat_and,e1,Nat.and_two_pow_sub_one_eq_mod,BitVec.toNat_ofInt,hk]
  have h0:0≤x%((2^64:Nat):Int):=Int.emod_nonneg _ (by decide)
  rw[Int.natCast_emod,Int.toNat_of_nonneg h0,hpe]
  refine Int.emod_emod_of_dvd x ?_
  obtain⟨d,hd⟩:∃d,64=n+d:=⟨64-n,by omega⟩
  rw[hd]
  exact⟨2^d,by rw[← Int.pow_add];norm_cast⟩
 have h1:=Int.emod_nonneg x (by omega:(2^n:Int)≠0)
 have h2:=Int.emod_lt_of_pos x hp
 unfold bits
 simp only
 rw[e2]
 have hw:∀v:Int,0≤v→v<2^30→k.wrap v=v:=by
  intro v h3 h4
  cases k<;>first|(exact IntWalk.i64_in _ (by omega))|(exact IntWalk.u64_in _ (by omega))|(simp[IntKind.bits]at hk)|(unfold IntKind.wrap;simp[IntKind.bits,IntKind.signed];omega)
 exact hw _ h1 (by omega)
theorem s6(s:Int)(n:Nat)(hn:n≤30):IntKind.i64.wrap s%2^n=s%2^n:=by
 have hw:∃q:Int,IntKind.i64.wrap s=s+2^64*q:=by
  have hdef:=Int.emod_def s (2^64)
  show ∃q:Int,(if(IntKind.i64.signed&&decide (s%2^64≥2^63))=true then s%2^64-2^64 else s%2^64)=_
  split
  ·exact⟨-(s/2^64)-1,by rw[hdef,Int.mul_sub,Int.mul_neg];omega⟩
  ·exact⟨-(s/2^64),by rw[hdef,Int.mul_neg];omega⟩
 obtain⟨q,hq⟩:=hw
 rw[hq]
 obtain⟨d,hd⟩:∃d,64=n+d:=⟨64-n,by omega⟩
 rw[hd,Int.pow_add,Int.mul_assoc,Int.add_mul_emod_self_left]
theorem bu(n:Int):Pure TC 27 [.i .i64 n] (.b (decide (0≤n)&&decide (n<64))):=by
 refine Pure.mk' Tryz.func27 rfl rfl zN ?_
 (repeat' (first|((first|refine Wp.any ac rfl ?_|(with_reducible first|refine Go.mk ?_|apply aj.of));conv=>whnf)|((refine ap (fun hc=>?_) (fun hc=>?_))<;>(try simp only[wz9]at hc)<;>(try (exfalso;omega))<;>(conv=>whnf))))
 all_goals exact .b (by simp;omega)
theorem cP(who word words:Int):Pure TC 75 [.i .i64 who,.i .i64 word,.i .i64 words] (.i .i64 (if(0≤who∧who<64)∧0≤word∧word<words then 0 else 1)):=by
 refine Pure.mk' Tryz.func75 rfl rfl zN ?_
 (repeat' (first|((first|refine Wp.any ac rfl ?_|(with_reducible first|refine Go.mk ?_|apply aj.of));conv=>whnf)|((refine ap (fun hc=>?_) (fun hc=>?_))<;>(try simp only[wz9]at hc)<;>(try (exfalso;omega))<;>(conv=>whnf))))
 all_goals first|exact .i (by rw[if_pos (by omega)])|exact .i (by rw[if_neg (by omega)])
theorem qG(lv:Nat)(hl:lv≤4)(s:Int):IntKind.i64.wrap (IntKind.i64.wrap (1*2^min ((lv:Nat):Int).toNat IntKind.i64.bits)+bits .and .i64 (IntKind.i64.wrap s) (IntKind.i64.wrap (IntKind.i64.wrap (1*2^min ((lv:Nat):Int).toNat IntKind.i64.bits)-1)))=Dir.plc lv s:=by
 have e1:IntKind.i64.wrap (1*2^min ((lv:Nat):Int).toNat IntKind.i64.bits)=2^lv∧IntKind.i64.wrap (2^lv-1)=2^lv-1∧(2:Int)^lv≤16∧(0:Int)<2^lv:=by
  have hlv:lv=0∨lv=1∨lv=2∨lv=3∨lv=4:=by omega
  rcases hlv with rfl|rfl|rfl|rfl|rfl<;>decide
 obtain⟨e1,e2,e3,e4⟩:=e1
 rw[e1,e2,oM .i64 rfl _ lv (by omega),s6 s lv (by omega)]
 have h1:=Int.emod_nonneg s (by omega:(2^lv:Int)≠0)
 have h2:=Int.emod_lt_of_pos s e4
 rw[IntWalk.i64_in _ (by omega)]
 unfold Dir.plc
 have:((2^lv:Nat):Int)=2^lv:=by simp
 omega
theorem b5(lv:Nat)(hl:lv≤4)(s:Int):Pure TC 38 [.i .i64 lv,.i .u64 s] (.i .i64 (Dir.plc lv s)):=by
 refine Pure.mk' Tryz.func38 rfl rfl zN ?_
 (repeat' (first|((first|refine Wp.any ac rfl ?_|(with_reducible first|refine Go.mk ?_|apply aj.of|refine And.intro zC ?_|refine Ov.mk ?_));conv=>whnf)))
 exact .i (qG lv hl s)
def sumF(h:Int):List Int→Int
 | []=>h
 | x::r=>sumF (IntKind.u64.wrap (bits .xor .u64 h (IntKind.u64.wrap x)*1099511628211)) r
def mA(key:List Int):Int:=sumF 14695981039346656037 key
theorem qc(h:Int)(x:Int):∀l:List Int,sumF h (l++[x])=IntKind.u64.wrap (bits .xor .u64 (sumF h l) (IntKind.u64.wrap x)*1099511628211):=by
 intro l
 induction l generalizing h with
 | nil=>rfl
 | cons y r ih=>exact ih _
theorem qb(h:Int){p:List Int}{k:Nat}(hk:k<p.length):sumF h (p.take (k+1))=IntKind.u64.wrap (bits .xor .u64 (sumF h (p.take k)) (IntKind.u64.wrap (p.getD (k:Int).toNat default))*1099511628211):=by
 rw[List.take_succ_eq_append_getElem hk,qc,Q13,Q1,Q0 hk];rfl
theorem mU(h:Int)(p:List Int):Pure TC 78 [.i .u64 h,.d (ao 1 (bc .u8) p)] (.i .u64 (sumF h p)):=by
 refine Pure.lens (.mk Tryz.func78 rfl rfl) fun hlen=>?_
 have ha:=hlen p.length (by simp[eE,ao])
 clear hlen
 refine Pure.mk' Tryz.func78 rfl rfl zN ?_
 (repeat' (first|((first|refine Wp.any ac rfl ?_|(with_reducible first|refine Go.mk ?_|apply aj.of));conv=>whnf)))
 refine Wp.loopP (ι:=Nat) (fun k=>k≤p.length) (fun k=>⟨⟨Tryz.f78.ntmps,0⟩,0,[(0,.i .u64 (sumF h (p.take k))),(7,.d (ao 1 (bc .u8) p)),(8,.i .i64 p.length),(9,.i .i64 k)],[]⟩) (fun k=>p.length-k) 0 (Nat.zero_le _) ?_ ?_
 ·(refine Le.by [] rfl rfl rfl rfl ?_ ?_<;>(conv=>whnf)<;>(repeat' (first|exact trivial|exact ae.rfl rfl|((with_reducible refine And.intro ?_ ?_)<;>(conv=>whnf)))))
 ·rintro k h1
  (repeat' (first|((first|refine Wp.any ac rfl ?_|(with_reducible first|refine Go.mk ?_|apply aj.of|refine Ov.ok zO ?_|refine And.intro zC ?_|refine Ov.mk ?_));conv=>whnf)|((refine ap (fun hc=>?_) (fun hc=>?_))<;>(try simp only[wz9]at hc)<;>(try (exfalso;omega))<;>(conv=>whnf))))
  ·refine⟨k+1,by dsimp only;omega,by dsimp only;omega,?_⟩
   dsimp only
   rw[qb h (by omega)]
   (refine Le.by [] rfl rfl rfl rfl ?_ ?_<;>(conv=>whnf)<;>(repeat' (first|exact trivial|exact ae.rfl rfl|((with_reducible refine And.intro ?_ ?_)<;>(conv=>whnf)))))
  ·obtain rfl:k=p.length:=by omega
   rw[List.take_length];exact .i rfl
theorem oh(p:List Int):Pure TC 54 [.d (ao 1 (bc .u8) p)] (.i .u64 (mA p)):=by
 refine Pure.mk' Tryz.func54 rfl rfl zN ?_
 (repeat' (first|((first|refine Wp.any ac rfl ?_|(with_reducible first|refine Go.mk ?_|apply aj.of|refine ab.pure (mU 14695981039346656037 p) rfl rfl ?_));conv=>whnf)))
 exact .i (by unfold mA;rfl)
theorem qq(lv:Nat)(hl:lv≤4)(s:Int):IntKind.i64.wrap (bits .and .u64 s (IntKind.u64.wrap (IntKind.u64.wrap (1*2^min ((lv:Nat):Int).toNat IntKind.u64.bits)-1)))=s%2^lv:=by
 have e1:IntKind.u64.wrap (1*2^min ((lv:Nat):Int).toNat IntKind.u64.bits)=2^lv∧IntKind.u64.wrap (2^lv-1)=2^lv-1∧(2:Int)^lv≤16∧(0:Int)<2^lv:=by
  have hlv:lv=0∨lv=1∨lv=2∨lv=3∨lv=4:=by omega
  rcases hlv with rfl|rfl|rfl|rfl|rfl<;>decide
 obtain⟨e1,e2,e3,e4⟩:=e1
 rw[e1,e2,oM .u64 rfl _ lv (by omega)]
 have h1:=Int.emod_nonneg s (by omega:(2^lv:Int)≠0)
 have h2:=Int.emod_lt_of_pos s e4
 exact IntWalk.i64_in _ (by omega)
theorem pe(p:List Int)(lv:Nat)(hl:lv≤4):Pure TC 40 [.d (ao 1 (bc .u8) p),.i .i64 lv] (.tup [.i .i64 (mA p%2^lv),.i .i64 0]):=by
 refine Pure.mk' Tryz.func40 rfl rfl zN ?_
 (repeat' (first|((first|refine Wp.any ac rfl ?_|(with_reducible first|refine Go.mk ?_|apply aj.of)|refine zV ?_|(with_reducible first|refine And.intro zC ?_|refine ag.pure (oh _) rfl rfl ?_|refine Ov.mk ?_));conv=>whnf)|((refine ap (fun hc=>?_) (fun hc=>?_))<;>(try simp only[wz9]at hc)<;>(try (exfalso;omega))<;>(conv=>whnf))))
 all_goals try (exfalso;omega)
 exact .tup (.cons (.i (qq lv hl _)) (.cons (.rfl _) .nil))
section
def rC(lv sh:Nat)(c:Cel):Bool:=decide (mA (bL c.pol c.key)%2^lv=(sh:Int))
def ga(xs:List Cel)(lv sh:Nat):List Cel:=xs.filter (rC lv sh)
def aa(ps:List Pol)(room:Int):Core.Ops where
 cut:=ga
 fnd h pol key:=(ca h (newC pol key),f8 h (newC pol key),f9 h pol key)
 wth:=dj
 allow p c t n:=(jK p c t n,mi p c t n)
 acq p c n:=(xb p c n,pG p c n)
 rel p c n:=(qB p c n,qC p c n)
 peek:=o6
 idle c t:=bV ps c t
 pol i:=ps.getD i.toNat default
 room:=room
theorem fG(ps:List Pol)(room:Int):Core.OpsOk mA (aa ps room) where
 cut h lv i hs:=by
  refine⟨hs.filter _,fun c=>?_⟩
  show c∈h.filter _↔_
  rw[List.mem_filter]
  refine and_congr_right fun hc=>?_
  unfold rC
  rw[cF (hs.ok c hc)]
  show decide (mA (idn c)%2^lv=(i:Int))=true↔_
  rw[decide_eq_true_iff]
 fnd h pol key hs hi:=by
  have h1:=has_iff hs (t:=newC pol key) hi
  have h2:=rR hs hi
  exact⟨h1,h2⟩
 wth h pol key c hs hi e:=by
  have e':idn c=idn (newC pol key):=e
  have hc:gj c.pol c.key:=by
   have h1:c.pol=pol∧c.key=key:=by simpa[idn]using e
   rw[h1.1,h1.2];exact hi
  have h1:=nq hs hc e'
  refine⟨h1.1,fun i=>?_⟩
  have h2:=pV hs hc e' i
  rw[e]at h2
  exact h2
 allow p c t n:=rfl
 acq p c n:=by show idn (pG p c n)=_;unfold pG;split<;>rfl
 rel p c n:=by show idn (qC p c n)=_;unfold qC;split<;>rfl
 rel0 p c n h:=by
  replace h:(qB p c n).e=0:=h
  unfold qB at h
  intro e
  by_cases h0:dw p.permits c.held n=0
  ·have:=mV (rF.1 h0).2
   rw[e]at this;simp at this
  ·rw[if_neg h0]at h;exact h0 h
theorem oS{xs:List Cel}{p:Nat}{t:Bool}{c:Cel}(h:p≤xs.length):(dj xs p t c).length≤xs.length+1:=by
 unfold dj;split
 ·simp
 ·rw[aN _ _ _ h];omega
structure eg(ps:List Pol)(c:Cel):Prop where
 byt:IsB c.key
 key:c.key.length≤255
 held:c.held.length≤64
 pol:0≤c.pol∧c.pol<ps.length
structure Hc(ps:List Pol)(n:Nat)(h:List Cel):Prop where
 len:h.length≤n
 cel:∀c∈h,eg ps c
variable{ps:List Pol}{room:Int}
theorem Hc.mono{n m:Nat}{h:List Cel}(x:Hc ps n h)(e:n≤m):Hc ps m h:=⟨Nat.le_trans x.len e,x.cel⟩
theorem Hc.nil{n:Nat}:Hc ps n []:=⟨Nat.zero_le _,by simp⟩
theorem Hc.filter{n:Nat}{h:List Cel}(x:Hc ps n h)(q:Cel→Bool):Hc ps n (h.filter q):=⟨Nat.le_trans (List.length_filter_le _ _) x.len,fun c hc=>x.cel c (List.mem_filter.1 hc).1⟩
theorem Hc.get{n:Nat}{h:List Cel}(x:Hc ps n h){k:Nat}(hk:k<h.length):eg ps (h.getD k default):=x.cel _ (cV hk)
theorem Hc.byt{n:Nat}{h:List Cel}(x:Hc ps n h)(k:Nat):IsB (h.getD k default).key:=by
 by_cases hk:k<h.length
 ·exact(x.get hk).byt
 ·rw[Q1,List.getElem?_eq_none (by omega)];intro y hy;exact absurd hy (by simp[default,instInhabitedCel.default])
theorem Hc.find{n:Nat}{h:List Cel}(x:Hc ps n h){pol:Int}{key:List Int}(hk:eg ps (newC pol key)):eg ps (f9 h pol key):=by
 unfold f9
 split
 ·rename_i e
  refine x.get ?_
  have:=(eG _ _).1 e
  exact this.1
 ·exact hk
theorem Hc.wth{n:Nat}{h:List Cel}(x:Hc ps n h){a:Nat}(ha:a≤h.length){b:Bool}{c:Cel}(hc:eg ps c):Hc ps (n+1) (dj h a b c):=by
 refine⟨Nat.le_trans (oS ha) (by have:=x.len;omega),fun d hd=>?_⟩
 unfold dj at hd
 split at hd
 ·rcases List.mem_or_eq_of_mem_set hd with hd|rfl
  ·exact x.cel d hd
  ·exact hc
 ·unfold cU at hd
  rcases List.mem_append.1 hd with hd|hd
  ·rcases List.mem_append.1 hd with hd|hd
   ·exact x.cel d (List.mem_of_mem_take hd)
   ·rw[List.mem_singleton]at hd;subst hd;exact hc
  ·exact x.cel d (List.mem_of_mem_drop hd)
theorem eg.allow{c:Cel}(h:eg ps c)(p:Pol)(t n:Int):eg ps (mi p c t n):=⟨h.byt,h.key,h.held,h.pol⟩
theorem eg.acq{c:Cel}(h:eg ps c)(p:Pol)(n:Int):eg ps (pG p c n):=by
 unfold pG
 split
 ·rename_i h0
  have:=nu h0
  exact⟨h.byt,h.key,by show(gI p.permits c.held n).length≤64;omega,h.pol⟩
 ·exact h
theorem eg.rel{c:Cel}(h:eg ps c)(p:Pol)(n:Int):eg ps (qC p c n):=by
 unfold qC
 split
 ·rename_i h0
  have:=oi h0
  exact⟨h.byt,h.key,by show(kz p.permits c.held n).length≤64;omega,h.pol⟩
 ·exact h
namespace Core
def Kx(ps:List Pol)(x:X):Prop:=eg ps (newC x.pol x.key)
structure Fdk(ps:List Pol)(n:Nat)(x:X)(f:Fd):Prop where
 k:Kx ps x
 h:Hc ps n f.h
 a:f.at'≤f.h.length
 c:eg ps f.cell
 t:f.there=true→f.at'<f.h.length
def fcK(ps:List Pol)(x:X):Fc→Prop
 | .key=>Kx ps x
 | .ev _ _ _=>True
def okH(ps:List Pol)(n:Nat)(x:X):CS→Prop
 | .none=>True
 | .k0 f=>fcK ps x f
 | .kE f _=>fcK ps x f
 | .kF f _ _=>fcK ps x f
 | .kG f _ _ v h=>fcK ps x f∧Hc ps n h∧0≤v
 | .kH f _ _ h=>fcK ps x f∧Hc ps n h
 | .kL f _ _ h=>fcK ps x f∧Hc ps n h
 | .al f=>Fdk ps n x f
 | .pk c=>Kx ps x∧eg ps c
 | .a0 f=>Fdk ps n x f
 | .a1 f _=>Fdk ps n x f
 | .p0 f c _=>Fdk ps n x f∧eg ps c
 | .p1 f c _ _=>Fdk ps n x f∧eg ps c
 | .pS f c _=>Fdk ps n x f∧eg ps c
 | .eC _ _ _ _ _ h=>Hc ps n h
 | .eS _ _ _ _ _ m _=>Hc ps n m
 | .sG _ _ v h=>Hc ps n h∧0≤v
 | .sH _ _ _ h=>Hc ps n h
 | .sL _ _ _ h=>Hc ps n h
 | _=>True
theorem Fdk.mono{n m:Nat}(e:n≤m){x:X}{f:Fd}(h:Fdk ps n x f):Fdk ps m x f:=⟨h.k,h.h.mono e,h.a,h.c,h.t⟩
theorem Fdk.ser{n:Nat}{x:X}{f:Fd}(h:Fdk ps n x f)(k:Int):Fdk ps n { x with ser:=k } f:=⟨h.k,h.h,h.a,h.c,h.t⟩
theorem Fdk.res{n:Nat}{x:X}{f:Fd}(h:Fdk ps n x f)(b:Bool):Fdk ps n { x with res:=b } f:=⟨h.k,h.h,h.a,h.c,h.t⟩
theorem okH.mono{n m:Nat}(e:n≤m){x:X}{s:CS}(h:okH ps n x s):okH ps m x s:=by
 cases s<;>first|trivial|exact h|exact Fdk.mono e h|exact Hc.mono h e|exact⟨h.1,h.2.1.mono e,h.2.2⟩|exact⟨Fdk.mono e h.1,h.2⟩|exact⟨Hc.mono h.1 e,h.2⟩|exact⟨h.1,h.2.mono e⟩
theorem kn{n:Nat}(x:X)(r:Rpl):okH ps n x (leave x r).1:=by unfold leave;split<;>trivial
theorem eK{n:Nat}(x:X)(j sh:Nat)(g:Int):okH ps n x (further j sh g).1:=by unfold further;split<;>trivial
theorem after_H{n:Nat}(x:X)(k:Int)(b:Bk):okH ps n x (after k b).1:=by
 cases b with
 | lv r=>trivial
 | ev j sh g=>exact eK x j sh _
theorem wa{n:Nat}{x:X}{f:Fd}{c:Cel}{r:Rpl}(h:Fdk ps n x f)(hc:eg ps c)(y:X):okH ps n x (put y f c r):=by unfold put;split<;>exact⟨h,hc⟩
theorem fdOf_H{n:Nat}{x:X}(hk:Kx ps x)(w:Nat)(v:Int){h:List Cel}(hh:Hc ps n h):Fdk ps n x (fdOf (aa ps room) x w v h) :=
 ⟨hk,hh,qF _ _,hh.find hk,fun e=>((eG _ _).1 e).1⟩
theorem wE{n:Nat}{x:X}{f:Fd}(h:Fdk ps n x f):okH ps n x (foundK (aa ps room) x f).1:=by
 unfold foundK
 split
 ·exact h
 split
 ·split
  ·exact kn _ _
  ·split
   ·exact wa h (h.c.acq _ _) _
   ·exact h
 split
 ·split
  ·exact wa h (h.c.rel _ _) _
  ·trivial
 split
 ·trivial
 ·exact⟨h.k,h.c⟩
theorem l4{n:Nat}{x:X}{f:Fc}(hf:fcK ps x f)(w:Nat)(v:Int){h:List Cel}(hh:Hc ps n h):okH ps n x (entered (aa ps room) x f w v h).1:=by
 unfold entered
 split
 ·exact hf
 ·unfold found
  split
  ·exact wE (fdOf_H hf w v hh)
  ·split
   ·exact eK _ _ _ _
   ·exact hh
theorem on_H{n lv i:Nat}{up:Bool}{x:X}{h:List Cel}(hh:Hc ps n h):okH ps n x (on lv i up h):=by
 unfold on move
 split
 ·split<;>trivial
 ·exact hh
theorem upd_H{n:Nat}{f:Nat→List Cel}(hf:∀w,Hc ps n (f w)){w:Nat}{h:List Cel}(hh:Hc ps n h):∀j,Hc ps n (Dir.upd f w h j):=fun j=>by
 unfold Dir.upd;split
 ·exact hh
 ·exact hf j
open Dir (Iw plc plc_sh) in
theorem step_H{n:Nat}{M:Mc}{B:Int}(hI:Iw M.W B)(hM:∀w,Hc ps n (M.Hd w)){x:X}{s:CS}(hs:Cw x M.W s)(h:okH ps n x s) :
    (∀w,Hc ps (n+1) ((step (aa ps room) M x s).M.Hd w))∧okH ps (n+1) (step (aa ps room) M x s).x (step (aa ps room) M x s).s:=by
  have hM':∀w,Hc ps (n+1) (M.Hd w):=fun w=>(hM w).mono (by omega)
  have h':okH ps (n+1) x s:=h.mono (Nat.le_succ n)
  have hw:∀lv,lv≤4→∀q:Int,0≤M.W (plc lv q):=fun lv hl q=>by
    obtain⟨i,h1,h2⟩:=plc_sh lv q
    rw[h2];exact(hI.w lv i hl h1).1
  cases s with
  | none=>exact⟨hM',trivial⟩
  | k0 f=>exact⟨hM',by simp only[step];split<;>exact h⟩
  | kE f w=>exact⟨hM',l4 h _ _ (hM' w)⟩
  | kF f lv w =>
    refine⟨hM',?_⟩
    have:=hw lv (by have:=hs.2.1;omega) (sumF x f)
    rw[← hs.2.2.1]at this
    simp only[step];split
    ·exact⟨h,hM' w⟩
    ·exact⟨h,hM' w,this⟩
  | kG f lv w v l =>
    simp only[step];split
    ·exact⟨upd_H hM' h'.2.1,h.1,h'.2.1⟩
    ·exact⟨hM',h.1⟩
  | kH f lv w l =>
    simp only[step];split
    ·exact⟨hM',h'⟩
    ·exact⟨hM',l4 h.1 _ _ (hM' w)⟩
  | kL f lv w l =>
    refine⟨?_,h.1⟩
    simp only[step];split
    ·exact upd_H hM' (h'.2.filter _)
    ·exact hM'
  | al f =>
    simp only[step];split
    ·exact⟨hM',kn _ _⟩
    ·exact⟨hM',wa h' (eg.allow h'.c _ _ _) _⟩
  | pk c=>exact⟨hM',trivial⟩
  | a0 f =>
    simp only[step];split
    ·exact⟨hM',kn _ _⟩
    ·exact⟨hM',h'⟩
  | a1 f u =>
    simp only[step];split
    ·exact⟨upd_H hM' .nil,wa (Fdk.ser h' _) (eg.acq h'.c _ _) _⟩
    ·exact⟨hM',h'⟩
  | p0 f c r =>
    simp only[step];split
    ·exact⟨hM',trivial⟩
    ·exact⟨hM',h'⟩
  | p1 f c r u =>
    simp only[step];split
    ·exact⟨upd_H hM' .nil,Fdk.res h'.1 _,h'.2⟩
    ·exact⟨hM',h'⟩
  | pS f c r =>
    simp only[step];split
    · refine⟨upd_H hM' (h.1.h.wth h.1.a h.2),?_⟩
      show okH ps (n+1) x (if f.there=true then leave x r else(.none,⟨true,r⟩)).1
      split
      ·exact kn _ _
      ·trivial
    ·exact⟨hM',h'.1.k⟩
  | b0 k b=>exact⟨hM',trivial⟩
  | b1 k b u =>
    simp only[step];split
    ·exact⟨upd_H hM' .nil,after_H _ _ _⟩
    ·exact⟨hM',trivial⟩
  | e0=>exact⟨hM',trivial⟩
  | eC j sh g w v l =>
    simp only[step];split
    ·exact⟨hM',eK _ _ _ _⟩
    ·exact⟨hM',Hc.filter h' _⟩
  | eS j sh g w v m k =>
    simp only[step];split
    ·exact⟨upd_H hM' h',trivial⟩
    ·exact⟨hM',eK _ _ _ _⟩
  | s0 => simp only[step];split
          ·exact⟨hM',trivial⟩
          ·split<;>exact⟨hM',trivial⟩
  | sM lv => simp only[step];split
             ·exact⟨upd_H hM' .nil,trivial⟩
             ·exact⟨hM',trivial⟩
  | sF lv i =>
    refine⟨hM',?_⟩
    have hw:0≤M.W (2^lv+i):=(hI.w lv i (by have:=hs.1;omega) hs.2.1).1
    simp only[step];split
    ·exact hM' _
    ·exact⟨hM' _,hw⟩
  | sG lv i v l =>
    simp only[step];split
    ·exact⟨upd_H hM' h'.1,h'.1⟩
    ·exact⟨hM',trivial⟩
  | sH lv i up l =>
    simp only[step];split
    ·exact⟨hM',h'⟩
    ·exact⟨hM',on_H h'⟩
  | sL lv i up l =>
    refine⟨?_,on_H h'⟩
    simp only[step];split
    ·exact upd_H hM' (Hc.filter h' _)
    ·exact hM'
  | sV lv =>
    refine⟨?_,trivial⟩
    simp only[step];split
    ·exact upd_H hM' .nil
    ·exact hM'
end Core
end
theorem SV.Lt.mono{m n:Nat}(hmn:m≤n){x:SV}(h:SV.Lt m x):SV.Lt n x:=by
 induction h with
 | any=>exact .any
 | d x=>exact .d x
 | ptr l o h=>exact .ptr l o (by omega)
 | rp l e i o h=>exact .rp l e i o (by omega)
 | sl l e i o h=>exact .sl l e i o (by omega)
 | agg vs _ ih=>exact .agg vs ih
 | tup vs _ ih=>exact .tup vs ih
 | fn f vs _ ih=>exact .fn f vs ih
 | iref vs o _ ih=>exact .iref vs o ih
mutual
def ke(l:Nat):SV→Bool
 | .ptr m _=>Nat.beq m l
 | .rp m _ _ _=>Nat.beq m l
 | .sl m _ _ _=>Nat.beq m l
 | .d _=>false
 | .any=>false
 | .agg vs=>kc l vs
 | .tup vs=>kc l vs
 | .fn _ _=>false
 | .iref vs _=>kc l vs
def kc(l:Nat):List SV→Bool
 | []=>false
 | x::r=>ke l x||kc l r
end
mutual
def pl(n:Nat):SV→Prop
 | .fn f vs=>SV.Lt n (.fn f vs)
 | .agg vs=>m6 n vs
 | .tup vs=>m6 n vs
 | .iref vs _=>m6 n vs
 | _=>True
def m6(n:Nat):List SV→Prop
 | []=>True
 | x::r=>pl n x∧m6 n r
end
mutual
theorem qY{n l:Nat}(hl:n≤l):∀{x:SV},SV.Lt n x→bz l x=false
 | .any,_=>by unfold bz;rfl
 | .d _,_=>by unfold bz;rfl
 | .ptr _ _,h=>by cases h with|ptr _ _ h=>unfold bz;cases e:Nat.beq _ l with|false=>rfl|true=>have:=Q2 e;omega
 | .rp _ _ _ _,h=>by cases h with|rp _ _ _ _ h=>unfold bz;cases e:Nat.beq _ l with|false=>rfl|true=>have:=Q2 e;omega
 | .sl _ _ _ _,h=>by cases h with|sl _ _ _ _ h=>unfold bz;cases e:Nat.beq _ l with|false=>rfl|true=>have:=Q2 e;omega
 | .agg vs,h=>by cases h with|agg _ h=>unfold bz;exact ez hl h
 | .tup vs,h=>by cases h with|tup _ h=>unfold bz;exact ez hl h
 | .fn _ vs,h=>by cases h with|fn _ _ h=>unfold bz;exact ez hl h
 | .iref vs _,h=>by cases h with|iref _ _ h=>unfold bz;exact ez hl h
theorem ez{n l:Nat}(hl:n≤l):∀{xs:List SV},(∀x∈xs,SV.Lt n x)→bK l xs=false
 | [],_=>by unfold bK;rfl
 | x::r,h=>by
  have h1:bz l x=false:=qY hl (h x (by simp))
  have h2:bK l r=false:=ez hl (fun y hy=>h y (by simp[hy]))
  unfold bK;rw[h1,h2];rfl
end
mutual
theorem j9{n l:Nat}(hl:n≤l):∀{x:SV},pl n x→ke l x=false→bz l x=false
 | .any,_,h=>by unfold bz;rfl
 | .d _,_,h=>by unfold bz;rfl
 | .ptr _ _,_,h=>by unfold ke at h;unfold bz;exact h
 | .rp _ _ _ _,_,h=>by unfold ke at h;unfold bz;exact h
 | .sl _ _ _ _,_,h=>by unfold ke at h;unfold bz;exact h
 | .agg vs,hf,h=>by unfold ke at h;unfold pl at hf;unfold bz;exact ex hl hf h
 | .tup vs,hf,h=>by unfold ke at h;unfold pl at hf;unfold bz;exact ex hl hf h
 | .fn _ vs,hf,h=>by unfold pl at hf;exact qY hl hf
 | .iref vs _,hf,h=>by unfold ke at h;unfold pl at hf;unfold bz;exact ex hl hf h
theorem ex{n l:Nat}(hl:n≤l):∀{xs:List SV},m6 n xs→kc l xs=false→bK l xs=false
 | [],_,_=>by unfold bK;rfl
 | x::r,hf,h=>by
  unfold m6 at hf;unfold kc at h
  rw[Bool.or_eq_false_iff]at h
  have h1:bz l x=false:=j9 hl hf.1 h.1
  have h2:bK l r=false:=ex hl hf.2 h.2
  unfold bK;rw[h1,h2];rfl
end
def fnOKB(n:Nat):Option Blk→Prop
 | some (.cells cs)=>m6 n cs
 | _=>True
def mN(l:Nat):Option Blk→Bool
 | some (.cells cs)=>kc l cs
 | some (.cf m _ _)=>Nat.blt l m
 | some (.obj _ m _ _ _)=>Nat.blt l m
 | _=>false
theorem hX(l:Nat):∀(cs:List SV),cs.any (mem1 l)=bK l cs
 | []=>by unfold bK;rfl
 | x::r=>by unfold bK;rw[List.any_cons,hX l r]
theorem wl{n l:Nat}(hl:n≤l){b:Option Blk}(hf:fnOKB n b)(h:mN l b=false):mO l b=false:=by
 cases b with
 | none=>rfl
 | some b =>
  cases b with
  | cells cs=>show cs.any (mem1 l)=false;rw[hX];exact ex hl hf h
  | row _ _ _ _=>rfl
  | cf m _ _=>exact h
  | obj _ m _ _ _=>exact h
def kU(pre:List Nat)(ops:List Oper)(n0 i j:Nat)(labs:List Nat)(p q:Pt):Bool :=
 (match p.1.dst,q.1.dst with|some a,some b=>!Nat.beq a b|_,_=>true) &&
 (p.2.ed.all (fun x=>q.2.ed.all fun y=>!Nat.beq x.1 y.1)||jp pre i j) &&
 ((match q.1.dst with|some d=>(mQ ops p.1).all fun t=>!Nat.beq d t|none=>true)||jp pre i j) &&
 ((labs.all (fun l=>q.2.ed.all fun y=>!Nat.beq y.1 l)&&p.2.rd.all (fun l=>q.2.ed.all fun y=>!Nat.beq y.1 l))||jp pre i j) &&
 (!cA p.1.op||(!ke (n0+i) q.2.val&&q.2.ed.all (fun y=>!Nat.beq y.1 (n0+i)&&!mN (n0+i) y.2))||(Nat.blt i j&&jp pre i j))
def kR(pre:List Nat)(ops:List Oper)(n0 i:Nat)(labs:List Nat)(p:Pt):List Pt→Nat→Bool
 | [],_=>true
 | q::r,j=>(Nat.beq i j||kU pre ops n0 i j labs p q)&&kR pre ops n0 i labs p r (j+1)
def kW(pre:List Nat)(ops:List Oper)(n0:Nat)(all:List Pt)(S0:St):List Pt→Nat→St→Bool
 | [],_,_=>true
 | p::r,i,S=>kR pre ops n0 i (fO S p.1.op) p all 0&&(!cA p.1.op||(S0.fr.all (fun x=>!ke (n0+i) x.2)&&S0.hp.all (fun x=>!Nat.beq x.1 (n0+i)&&!mN (n0+i) x.2))) &&
   (p.1.after.toList.all fun e=>!Region.binds .any e||Nat.blt e.on i)&&(match p.1.dst with|some n=>Nat.blt n S0.nt.n|none=>true)&&kW pre ops n0 all S0 r (i+1) (S.step p.1.dst p.2)
def iU(ops:List Oper)(efs:List Ef)(n0:Nat)(S0:St):Bool:=kW (dV ops []) ops n0 (ops.zip efs) S0 (ops.zip efs) 0 S0
def fA(n:Nat):List (Nat×Option Blk)→Prop
 | []=>True
 | x::r=>fnOKB n x.2∧fA n r
def m7(n:Nat):List (Nat×SV)→Prop
 | []=>True
 | x::r=>pl n x.2∧m7 n r
def wG(n:Nat):List Ef→Prop
 | []=>True
 | x::r=>pl n x.val∧fA n x.ed∧wG n r
theorem ol{n:Nat}:∀{l:List (Nat×Option Blk)},fA n l→∀x∈l,fnOKB n x.2
 | [],_,x,hx=>by simp at hx
 | y::r,h,x,hx=>by
  unfold fA at h
  rcases Q22 hx with rfl|hx
  ·exact h.1
  ·exact ol h.2 x hx
theorem kI{n:Nat}:∀{l:List (Nat×SV)},m7 n l→∀x∈l,pl n x.2
 | [],_,x,hx=>by simp at hx
 | y::r,h,x,hx=>by
  unfold m7 at h
  rcases Q22 hx with rfl|hx
  ·exact h.1
  ·exact kI h.2 x hx
theorem oo{n:Nat}:∀{l:List Ef},wG n l→∀x∈l,pl n x.val∧fA n x.ed
 | [],_,x,hx=>by simp at hx
 | y::r,h,x,hx=>by
  unfold wG at h
  rcases Q22 hx with rfl|hx
  ·exact⟨h.1,h.2.1⟩
  ·exact oo h.2.2 x hx
theorem rY{n l:Nat}(hl:n≤l){ed:List (Nat×Option Blk)}(hf:fA n ed)(h:ed.all (fun y=>!Nat.beq y.1 l&&!mN l y.2)=true):ed.all (fun y=>!Nat.beq y.1 l&&!mO l y.2)=true:=by
 rw[Q23]at h⊢
 intro y hy
 have:=h y hy
 rw[Q5]at this⊢
 refine⟨this.1,?_⟩
 have h2:=this.2
 rw[Bool.not_eq_true']at h2⊢
 exact wl hl (ol hf y hy) h2
theorem nh{pre:List Nat}{ops:List Oper}{n0 i j:Nat}{labs:List Nat}{p q:Pt}(hv:pl n0 q.2.val)(he:fA n0 q.2.ed)(h:kU pre ops n0 i j labs p q=true):bE pre ops n0 i j labs p q=true:=by
 unfold kU at h;unfold bE
 rw[Q5]at h⊢
 refine⟨h.1,?_⟩
 have h:=h.2
 rw[Q20,Q20,Q5]at h⊢
 rcases h with(h|h)|h
 ·exact .inl (.inl h)
 ·refine .inl (.inr ⟨?_,rY (by omega) he h.2⟩)
  have h1:=h.1
  rw[Bool.not_eq_true']at h1⊢
  exact j9 (by omega) hv h1
 ·exact .inr h
theorem jF{pre:List Nat}{ops:List Oper}{n0 i:Nat}{labs:List Nat}{p:Pt}:∀(l:List Pt) (k:Nat),(∀q∈l,pl n0 q.2.val∧fA n0 q.2.ed)→kR pre ops n0 i labs p l k=true→dW pre ops n0 i labs p l k=true
 | [],_,_,_=>by unfold dW;rfl
 | q::r,k,hf,h=>by
  unfold kR at h;unfold dW
  rw[Q5,Q20]at h⊢
  refine⟨?_,jF r (k+1) (fun q hq=>hf q (List.mem_cons_of_mem _ hq)) h.2⟩
  rcases h.1 with h1|h1
  ·exact .inl h1
  ·exact .inr (nh (hf q (List.mem_cons_self ..)).1 (hf q (List.mem_cons_self ..)).2 h1)
theorem jH{pre:List Nat}{ops:List Oper}{n0:Nat}{all:List Pt}{S0:St}(ha:∀q∈all,pl n0 q.2.val∧fA n0 q.2.ed)(hF:m7 n0 S0.fr)(hH:fA n0 S0.hp) :
  ∀(l:List Pt) (i:Nat) (S:St),kW pre ops n0 all S0 l i S=true→dX pre ops n0 all S0 l i S=true
 | [],_,_,_=>by unfold dX;rfl
 | p::r,i,S,h=>by
  unfold kW at h;unfold dX
  rw[Q5,Q5,Q5,Q5]at h⊢
  obtain⟨⟨⟨⟨h1,h2⟩,h3⟩,h4⟩,h5⟩:=h
  refine⟨⟨⟨⟨jF all 0 ha h1,?_⟩,h3⟩,h4⟩,jH ha hF hH r (i+1) _ h5⟩
  rw[Q20,Q5]at h2⊢
  rcases h2 with h2|h2
  ·exact .inl h2
  ·refine .inr ⟨?_,rY (by omega) hH h2.2⟩
   have h6:=h2.1
   rw[Q23]at h6⊢
   intro x hx
   have h7:=h6 x hx
   rw[Bool.not_eq_true']at h7⊢
   exact j9 (by omega) (kI hF x hx) h7
theorem bY{ops:List Oper}{efs:List Ef}{n0:Nat}{S0:St}(h:iU ops efs n0 S0=true)(hE:wG n0 efs)(hF:m7 n0 S0.fr)(hH:fA n0 S0.hp):dy ops efs n0 S0=true:=by
 refine jH (fun q hq=>?_) hF hH _ 0 S0 h
 exact oo hE q.2 (List.of_mem_zip hq).2
mutual
theorem SV.ren_same{π:Nat→Nat}{m:Nat}(hπ:∀l,l<m→π l=l):∀{x:SV},SV.Lt m x→SV.ren π x=x
 | .any,_=>by unfold SV.ren;rfl
 | .d _,_=>by unfold SV.ren;rfl
 | .ptr _ _,h=>by cases h with|ptr _ _ h=>unfold SV.ren;rw[hπ _ h]
 | .rp _ _ _ _,h=>by cases h with|rp _ _ _ _ h=>unfold SV.ren;rw[hπ _ h]
 | .sl _ _ _ _,h=>by cases h with|sl _ _ _ _ h=>unfold SV.ren;rw[hπ _ h]
 | .agg vs,h=>by cases h with|agg _ h=>unfold SV.ren;rw[SV.renL_same hπ h]
 | .tup vs,h=>by cases h with|tup _ h=>unfold SV.ren;rw[SV.renL_same hπ h]
 | .fn _ vs,h=>by cases h with|fn _ _ h=>unfold SV.ren;rw[SV.renL_same hπ h]
 | .iref vs _,h=>by cases h with|iref _ _ h=>unfold SV.ren;rw[SV.renL_same hπ h]
theorem SV.renL_same{π:Nat→Nat}{m:Nat}(hπ:∀l,l<m→π l=l):∀{xs:List SV},(∀x∈xs,SV.Lt m x)→SV.renL π xs=xs
 | [],_=>rfl
 | x::r,h=>by
  have h1:SV.ren π x=x:=SV.ren_same hπ (h x (by simp))
  have h2:SV.renL π r=r:=SV.renL_same hπ (fun y hy=>h y (by simp[hy]))
  unfold SV.renL;rw[h1,h2]
end
theorem RS.unrenX{E:Env}{nx:Nat}{w:World}{π1 π2:Nat→Nat}{L:List Nat}{m:Nat}(H:∀l,l<m→π2 l<L.length∧L.getD (π2 l) 0=π1 l) :
  ∀{x:SV},SV.Lt m x→∀{v:Value},RS E nx w (SV.ren π1 x) v→RS ⟨fun i=>E.ρ (L.getD i 0),fun i=>E.κ (L.getD i 0),E.Im⟩ L.length w (SV.ren π2 x) v:=by
 intro x hx
 induction hx with
 | any=>intro v _;exact .any v
 | d x=>intro v h;cases h with|d _ _ h=>exact .d _ _ h
 | ptr l off hl =>
  intro v h
  cases h with
  | ptr _ _ h =>
   obtain⟨h1,h2⟩:=H l hl
   have:=RS.ptr (E:=⟨fun i=>E.ρ (L.getD i 0),fun i=>E.κ (L.getD i 0),E.Im⟩) (w:=w) (π2 l) off h1
   simp only[h2]at this;exact this
 | rp l esz i off hl =>
  intro v h
  cases h with
  | rp _ _ _ _ h =>
   obtain⟨h1,h2⟩:=H l hl
   have:=RS.rp (E:=⟨fun i=>E.ρ (L.getD i 0),fun i=>E.κ (L.getD i 0),E.Im⟩) (w:=w) (π2 l) esz i off h1
   simp only[h2]at this;exact this
 | sl l esz off len hl =>
  intro v h
  cases h with
  | sl _ _ _ _ a cap h hc hm ha h0 =>
   obtain⟨h1,h2⟩:=H l hl
   exact .sl _ _ _ _ a cap h1 hc hm (by simp only[h2];exact ha) (by simp only[h2];exact h0)
 | agg vs hv ih =>
  intro v h
  simp only[SV.ren,SV.renL_map]at h⊢
  cases h with
  | agg _ us hs h1 hh =>
   refine .agg _ _ (by simpa using hs) h1 fun j hj=>?_
   have hj':j<vs.length:=by simpa using hj
   rw[List.getElem_map]
   refine ih _ (Q14 hj') ?_
   have:=hh j (by simpa using hj')
   rwa [List.getElem_map]at this
 | tup vs hv ih =>
  intro v h
  simp only[SV.ren,SV.renL_map]at h⊢
  cases h with
  | tup _ us hs hh =>
   refine .tup _ _ (by simpa using hs) fun j hj=>?_
   have hj':j<vs.length:=by simpa using hj
   rw[List.getElem_map]
   refine ih _ (Q14 hj') ?_
   have:=hh j (by simpa using hj')
   rwa [List.getElem_map]at this
 | fn f vs hv ih =>
  intro v h
  simp only[SV.ren,SV.renL_map]at h⊢
  cases h with
  | fn _ _ us hs hh =>
   refine .fn _ _ _ (by simpa using hs) fun j hj=>?_
   have hj':j<vs.length:=by simpa using hj
   rw[List.getElem_map]
   refine ih _ (Q14 hj') ?_
   have:=hh j (by simpa using hj')
   rwa [List.getElem_map]at this
 | iref vs off hv ih =>
  intro v h
  simp only[SV.ren,SV.renL_map]at h⊢
  cases h with
  | iref _ _ b o g hb hcell h1 hh =>
   refine .iref _ _ b o g hb (by simpa using hcell) (by simpa using h1) fun j hj=>?_
   have hj':j<vs.length:=by simpa using hj
   rw[List.getElem_map]
   refine ih _ (Q14 hj') ?_
   have:=hh j (by simpa using hj')
   rwa [List.getElem_map]at this
theorem ae.renX{π1 π2:Nat→Nat}{L:List Nat}{m:Nat}{x:SV}(hx:SV.Lt m x)(H:∀l,l<m→π2 l<L.length∧L.getD (π2 l) 0=π1 l):ae L (SV.ren π1 x) (SV.ren π2 x):=⟨fun _ _ _ _ h=>h.unrenX H hx⟩
theorem ai.renX{S:St}{π1 π2:Nat→Nat}{L:List Nat}{m:Nat}{x:SV}(hx:SV.Lt m x)(H:∀l,l<m→π2 l<L.length∧L.getD (π2 l) 0=π1 l):ai S L (SV.ren π1 x) (SV.ren π2 x) :=
 ⟨fun O E a w v hs hv=>RS.mono (E:=⟨fun i=>E.ρ (L.getD i 0),fun i=>E.κ (L.getD i 0),E.Im⟩) (E':=E.end S L) (w:=w) (fun _ _=>⟨rfl,rfl⟩) (Q4 _) (fun b hb=>Or.inl hb) (fun _ _=>rfl) (hv.unrenX H hx)⟩
def pc(S:St)(L V:List Nat):List (Nat×Option Blk)→Prop
 | []=>True
 | (_,none)::r=>pc S L V r
 | (i,some b)::r=>bif Nat.blt i L.length then(bif V.any (Nat.beq i)then(match b with|.cf m n _=>m≤L.length∧n=0|_=>False)else blkS S L (lkh S.hp (L.getD i 0)) b)∧pc S L V r else False
def ej(L V:List Nat):List (Nat×Option Blk)→List Nat
 | []=>[]
 | (_,none)::r=>ej L V r
 | (i,some _)::r=>bif V.any (Nat.beq i)then ej L V r else L.getD i 0::ej L V r
theorem io{S:St}{L V:List Nat}:∀{H:List (Nat×Option Blk)},pc S L V H→∀i b,lkh H i=some b→i<L.length∧((V.any (Nat.beq i)=true∧∃m g,b=.cf m 0 g∧m≤L.length)∨(V.any (Nat.beq i)=false∧blkS S L (lkh S.hp (L.getD i 0)) b))
 | [],_,i,b,h=>by simp[lkh]at h
 | (j,none)::r,hk,i,b,h=>io (H:=r) hk i b (aq h).2
 | (j,some b')::r,hk,i,b,h=>by
  unfold pc at hk
  cases hb:Nat.blt j L.length with
  | false=>simp[hb]at hk
  | true =>
   simp only[hb,cond_true]at hk
   rw[ah]at h
   by_cases e:j=i
   ·subst e;rw[if_pos rfl]at h;cases h
    refine⟨by simpa using hb,?_⟩
    cases hv:V.any (Nat.beq j)with
    | true =>
     left
     rw[hv,cond_true]at hk
     refine⟨rfl,?_⟩
     have h1:=hk.1
     split at h1
     ·obtain⟨h2,rfl⟩:=h1;exact⟨_,_,rfl,h2⟩
     ·exact h1.elim
    | false =>
     right
     rw[hv,cond_false]at hk
     exact⟨rfl,hk.1⟩
   ·rw[if_neg e]at h;exact io hk.2 i b h
theorem mS:∀{H:List (Nat×Option Blk)} {i:Nat} {b:Blk},lkh H i=some b→(i,some b)∈H
 | [],i,b,h=>by simp[lkh]at h
 | (j,o)::r,i,b,h=>by
  rw[ah]at h
  by_cases e:j=i
  ·subst e;rw[if_pos rfl]at h;subst h;simp
  ·rw[if_neg e]at h;exact List.mem_cons_of_mem _ (mS h)
theorem gT{L V:List Nat}:∀{H:List (Nat×Option Blk)} {i:Nat} {b:Blk},(i,some b)∈H→V.any (Nat.beq i)=false→L.getD i 0∈ej L V H
 | (j,none)::r,i,b,h,hv=>by
  unfold ej
  rcases Q22 h with h|h
  ·cases h
  ·exact gT h hv
 | (j,some c)::r,i,b,h,hv=>by
  unfold ej
  rcases Q22 h with h|h
  ·cases h;rw[hv,cond_false];simp
  ·have:=gT (L:=L) (V:=V) h hv
   cases V.any (Nat.beq j)with
   | true=>exact this
   | false=>exact List.mem_cons_of_mem _ this
theorem jX{L V:List Nat}:∀{H:List (Nat×Option Blk)},bi (ej L V H)=true→∀{i j:Nat} {b c:Blk},(i,some b)∈H→(j,some c)∈H→V.any (Nat.beq i)=false→V.any (Nat.beq j)=false→i≠j→L.getD i 0≠L.getD j 0
 | (q,none)::r,hd,i,j,b,c,hi,hj,vi,vj,hne=>by
  unfold ej at hd
  rcases Q22 hi with hi|hi
  ·cases hi
  ·rcases Q22 hj with hj|hj
   ·cases hj
   ·exact jX hd hi hj vi vj hne
 | (q,some d)::r,hd,i,j,b,c,hi,hj,vi,vj,hne=>by
  unfold ej at hd
  have key:∀{k:Nat} {e:Blk},V.any (Nat.beq q)=false→(k,some e)∈r→V.any (Nat.beq k)=false→L.getD q 0≠L.getD k 0:=by
   intro k e hq hk vk h
   rw[hq,cond_false]at hd
   unfold bi at hd
   cases h1:(ej L V r).any (Nat.beq (L.getD q 0))with
   | true=>rw[h1]at hd;exact absurd hd (by simp)
   | false =>
    rw[List.any_eq_false]at h1
    exact h1 _ (gT (L:=L) hk vk) (by rw[h];exact Nat.beq_refl _)
  have hd':bi (ej L V r)=true:=by
   cases hq:V.any (Nat.beq q)with
   | true=>rw[hq,cond_true]at hd;exact hd
   | false =>
    rw[hq,cond_false]at hd
    unfold bi at hd
    cases h1:(ej L V r).any (Nat.beq (L.getD q 0))with
    | true=>rw[h1]at hd;exact absurd hd (by simp)
    | false=>rw[h1]at hd;exact hd
  rcases Q22 hi with hi'|hi'
  ·cases hi'
   rcases Q22 hj with hj'|hj'
   ·cases hj';exact absurd rfl hne
   ·exact key vi hj' vj
  ·rcases Q22 hj with hj'|hj'
   ·cases hj';exact(key vj hi' vi).symm
   ·exact jX hd' hi' hj' vi vj hne
theorem af.sealC{m m':Nat}{S:St}{x r:SV}{H':List (Nat×Option Blk)}(L V:List Nat)(hlen:L.length=m')(hmm:idP L m=true)(hd:bi (ej L V H')=true)(hx:ai S L x r)(hH:pc S L V H'):af m S x m' r H':=by
 have hm:∀i,i<m→L.getD i 0=i:=fun i hi=>by unfold idP at hmm;rw[Q23]at hmm;exact Q2 (hmm i (by simpa using hi))
 refine⟨fun O E a w v hO hs hv=>?_⟩
 subst hlen
 have hblk:∀i b,lkh H' i=some b→i<L.length∧(b.real (E.κ (L.getD i 0))→∃b0,V.any (Nat.beq i)=false∧lkh S.hp (L.getD i 0)=some b0∧b0.real (E.κ (L.getD i 0)))∧BS (E.end S L) L.length w i b:=by
  intro i b hb
  obtain⟨g1,g2⟩:=io hH i b hb
  rcases g2 with⟨_,m,g,rfl,hm'⟩|⟨hV,g2⟩
  ·exact⟨g1,fun h=>absurd h (Nat.lt_irrefl 0),hm',fun h=>absurd h (Nat.lt_irrefl 0)⟩
  unfold blkS at g2
  split at g2
  ·rename_i cs cs' hl
   refine⟨g1,fun _=>⟨_,hV,hl,trivial⟩,?_⟩
   obtain⟨vs,T,k1,k2,k3⟩:=hs.hp _ _ hl
   have hlen:=g2.out.1
   refine⟨vs,T,k1,by omega,fun j hj=>?_⟩
   obtain⟨q1,q2⟩:=g2.at hj
   exact⟨q2.out O E a w _ hs (k3 j q1).1,(k3 j q1).2⟩
  ·rename_i e z n f e' z' n' f' hl
   obtain⟨⟨rfl,rfl,rfl⟩,g3⟩:=g2
   refine⟨g1,fun h=>⟨_,hV,hl,h⟩,?_⟩
   obtain⟨k1,k2,k3,k4,k5⟩:=hs.hp _ _ hl
   refine⟨k1,k2,k3,fun i hi=>by rw[← (g3 i hi).out.1];exact k4 i hi,fun hk=>?_⟩
   obtain⟨vs,q1,q2,q3,q4⟩:=k5 hk
   refine⟨vs,q1,q2,q3,fun i j hi hj=>?_⟩
   obtain⟨p1,p2⟩:=(g3 i hi).out
   exact((p2 j (by omega) hj).out _ _ _ (q4 i j hi (by omega))).mono (fun b hb=>Or.inl hb) fun _ _=>rfl
  ·rename_i m n g m' n' g' hl
   obtain⟨⟨rfl,hm'⟩,g3⟩:=g2
   refine⟨g1,fun h=>⟨_,hV,hl,h⟩,?_⟩
   obtain⟨k0,hh⟩:=hs.hp _ _ hl
   refine⟨hm',fun hp=>?_⟩
   obtain⟨vs,T,k1,k2,k3⟩:=hh hp
   exact⟨vs,T,k1,k2,fun j hj=>⟨(g3 j hj).2,(g3 j hj).1.out O E a w _ hs (k3 j hj).2.1,(k3 j hj).2.2⟩⟩
  ·rename_i cs m' n' g' hl
   obtain⟨hm',g3,g4⟩:=g2
   refine⟨g1,fun _=>⟨_,hV,hl,trivial⟩,?_⟩
   obtain⟨vs,T,k1,k2,k3⟩:=hs.hp _ _ hl
   have hlen:=g3.out.1
   refine⟨hm',fun _=>⟨vs,T,k1,by simp at hlen;omega,fun j hj=>?_⟩⟩
   obtain⟨q1,q2⟩:=g3.at (j:=j) (by simpa using hj)
   simp only[List.getElem_map,List.getElem_range]at q2
   exact⟨g4 j hj,q2.out O E a w _ hs (k3 j q1).1,(k3 j q1).2⟩
  ·exact g2.elim
 have hmem:∀i,i<L.length→L.getD i 0∈L:=fun i hi=>by simp[List.getD,Q0 hi]
 refine⟨E.end S L,⟨fun i b hb=>(hblk i b hb).2.2,fun i b hb=>(hblk i b hb).1,?_,?_⟩,fun l hl=>by simp only[Env.end];rw[hm l hl];exact⟨rfl,rfl⟩,?_,?_,fun b hb=>Or.inl hb,hx.out O E a w v hs hv⟩
 ·intro i j b b' hi hj hr hr' hne
  obtain⟨b0,v0,g2,g3⟩:=(hblk i b hi).2.1 hr
  obtain⟨b1,v1,g5,g6⟩:=(hblk j b' hj).2.1 hr'
  exact hs.inj _ _ _ _ g2 g5 g3 g6 (jX hd (mS hi) (mS hj) v0 v1 hne)
 ·intro b hb
  rcases hb with hb|⟨l,y,hl,hr,rfl,hn⟩
  ·obtain⟨k1,_,k3⟩:=hs.im b hb
   refine⟨k1,fun i z hz hzr=>?_⟩
   obtain⟨b0,v0,g2,g3⟩:=(hblk i z hz).2.1 hzr
   exact k3 _ _ g2 g3
  ·refine⟨(hs.hp _ _ hl).lt hr,fun i z hz hzr=>?_⟩
   obtain⟨b0,v0,g2,g3⟩:=(hblk i z hz).2.1 hzr
   exact hs.inj _ _ _ _ g2 hl g3 hr (fun e=>hn (e▸hmem i (hblk i z hz).1))
 ·rintro b ⟨i,z,hz,hzr,rfl⟩
  obtain⟨b0,v0,g2,g3⟩:=(hblk i z hz).2.1 hzr
  exact⟨_,_,g2,g3,rfl⟩
 ·rintro b (hb|⟨l,y,hl,hr,rfl,hn⟩)
  ·exact Or.inl hb
  ·exact Or.inr ⟨l,y,hl,hr,rfl⟩
theorem SV.Le.sl'{z n m:Nat}{f g:Nat→List D}(e:n=m)(h:∀i,i<m→f i=g i):SV.Le (.d (.sl z n f)) (.d (.sl z m g)):=by
 subst e;exact SV.Le.sl h
theorem bZ(pol:Int)(key:List Int):Pure TC 42 [.i .i64 pol,.d (ao 1 (bc .u8) key)] (.i .u64 (mA (bL pol key))):=by
 refine Pure.mk' Tryz.func42 rfl rfl zN ?_
 (repeat' (first|((first|refine Wp.any ac rfl ?_|(with_reducible first|refine Go.mk ?_|apply aj.of|refine ab.pure (fx _ _) rfl rfl ?_|refine ab.pure (oh _) rfl rfl ?_));conv=>whnf)))
 exact .i rfl
theorem w5(zs:List Cel)(c:Cel):∀k,k<zs.length+1→bB zs.length (fun i=>Cel.D (zs.getD i default)) (fun i=>bf (Cel.D c) 4 (0+i)) k=Cel.D ((zs++[c]).getD k default):=fun k hk=>by
 simp only[bB]
 by_cases e:k<zs.length
 ·rw[if_pos e,Q1,Q1,Q11 e]
 ·rw[if_neg e]
  obtain rfl:k=zs.length:=by omega
  have:(zs++[c]).getD zs.length default=c:=by simp
  rw[Nat.sub_self,this];rfl
theorem getCC{xs:List Cel}{k:Nat}(h:k<xs.length):xs.getD (k:Int).toNat default=xs[k]:=by
 rw[Q13,Q1,Q0 h];rfl
theorem l7{xs:List Cel}{lv sh j:Nat}(h:j<xs.length):ga (xs.take (j+1)) lv sh=if mA (bL (xs.getD (j:Int).toNat default).pol (xs.getD (j:Int).toNat default).key)%2^lv=(sh:Int)then ga (xs.take j) lv sh++[xs.getD (j:Int).toNat default]else ga (xs.take j) lv sh:=by
 rw[getCC h]
 unfold ga
 rw[List.take_succ_eq_append_getElem h,List.filter_append]
 split
 ·rename_i e;rw[List.filter_cons_of_pos (by simpa[rC]using e)];simp
 ·rename_i e;rw[List.filter_cons_of_neg (by simpa[rC]using e)];simp
theorem gD(xs:List Cel)(lv sh:Nat)(hlv:lv≤4)(hl:xs.length≤16777216):Pure TC 22 [.d (ao 4 Cel.D xs),.i .i64 lv,.i .i64 sh] (.d (ao 4 Cel.D (ga xs lv sh))):=by
 refine Pure.mk' Tryz.func22 rfl rfl zN ?_
 (repeat' (first|((first|refine Wp.any ac rfl ?_|(with_reducible first|refine Go.mk ?_|apply aj.of));conv=>whnf)))
 refine Wp.le (Le.virt 7 104 4 (fun i=>Cel.D (([]:List Cel).getD i default)) (by decide) rfl) ?_
 refine Wp.loopP (ι:=Nat) (fun j=>j≤xs.length) (fun j=>⟨⟨Tryz.f22.ntmps,0⟩,1,[(1,.i .i64 lv),(2,.i .i64 sh),(7,.sl 0 4 0 (ga (xs.take j) lv sh).length),(14,.d (ao 4 Cel.D xs)),(15,.i .i64 xs.length),(16,.i .i64 j)],[(0,some (aS 104 4 Cel.D (ga (xs.take j) lv sh)))]⟩) (fun j=>xs.length-j) 0 (Nat.zero_le _) ?_ ?_
 ·(refine Le.by [0] rfl rfl rfl rfl ?_ ?_<;>(conv=>whnf)<;>(repeat' (first|exact trivial|exact ae.rfl rfl|exact ae.sl rfl|exact⟨rfl,rfl,rfl⟩|exact fun i hi=>rfl|((with_reducible refine And.intro ?_ ?_)<;>(conv=>whnf)))))
 ·rintro j h1
  have hfl:(ga (xs.take j) lv sh).length≤16777216:=by
   have q1:=List.length_filter_le (rC lv sh) (xs.take j)
   rw[Q10]at q1
   unfold ga;omega
  (repeat' (first|((first|refine Wp.any ac rfl ?_|(with_reducible first|refine Go.mk ?_|apply aj.of|refine Ov.ok zO ?_|refine And.intro zC ?_));conv=>whnf)|((with_reducible refine And.intro ?hb ?_);(case hb=>exact zz9);(conv=>whnf))|((with_reducible first|refine ab.pure (fx _ _) rfl rfl ?_|refine ab.pure (pe _ lv hlv) rfl rfl ?_);conv=>whnf)|((refine ap (fun hc=>?_) (fun hc=>?_))<;>(try simp only[wz9]at hc)<;>(try (exfalso;omega))<;>(conv=>whnf))))
  ·refine⟨j+1,by dsimp only;omega,by dsimp only;omega,?_⟩
   dsimp only
   rw[l7 (by omega),if_pos hc]
   (refine Le.by [3] rfl rfl rfl rfl ?_ ?_<;>(conv=>whnf)<;>(repeat' (first|exact trivial|exact ae.rfl rfl|((with_reducible refine And.intro ?_ ?_)<;>(conv=>whnf)))))
   ·rw[Q9];exact ae.sl rfl
   all_goals first|exact w5 _ _|rfl|(simp;done)
  ·refine⟨j+1,by dsimp only;omega,by dsimp only;omega,?_⟩
   dsimp only
   rw[l7 (by omega),if_neg hc]
   (refine Le.by [0] rfl rfl rfl rfl ?_ ?_<;>(conv=>whnf)<;>(repeat' (first|exact trivial|exact ae.rfl rfl|exact ae.sl rfl|exact⟨rfl,rfl,rfl⟩|exact fun i hi=>rfl|((with_reducible refine And.intro ?_ ?_)<;>(conv=>whnf)))))
  ·obtain rfl:j=xs.length:=by omega
   rw[List.take_length]
   exact SV.Le.sl fun j hj=>by simp only[Q19]
theorem mF(xs:List Cel)(t:Cel)(hlen:xs.length≤4611686018427387903)(hx:∀k,IsB (xs.getD k default).key)(ht:IsB t.key) :
  Pure TC 127 [.d (ao 4 Cel.D xs),t.S,.d (.fn (.func 31) [])] (.tup [.i .i64 (ca xs t),.b (f8 xs t)]):=by
 refine Pure.mk' Tryz.func127 rfl rfl zN ?_
 (repeat' (first|((first|refine Wp.any ac rfl ?_|(with_reducible first|refine Go.mk ?_|apply aj.of));conv=>whnf)))
 refine Wp.loopP (ι:=Nat×Nat×Nat) (fun k=>k.1≤k.2.1∧k.2.1≤xs.length∧k.2.1-k.1<k.2.2∧bsF (fun k=>decide (mJ (xs.getD k default) t<0)) k.2.2 k.1 k.2.1=ca xs t) (fun k=>⟨⟨Tryz.f127.ntmps,0⟩,1,[(0,.d (ao 4 Cel.D xs)),(2,.d (.fn (.func 31) [])),(4,.ptr 0 0),(8,.i .i64 xs.length),(9,.i .i64 k.1),(10,.i .i64 k.2.1)],[(0,some (.cells [.i .i64 t.pol,.d (ao 1 (bc .u8) t.key),.i .i64 t.tat,.d (ao 1 (bc .i64) t.held)]))]⟩) (fun k=>k.2.1-k.1) (0,xs.length,xs.length+1) ⟨by simp,by simp,by simp,rfl⟩ ?_ ?_
 ·(refine Le.by [0] rfl rfl rfl rfl ?_ ?_<;>(conv=>whnf)<;>(repeat' (first|exact trivial|exact ae.rfl rfl|exact ae.ptr rfl|((with_reducible refine And.intro ?_ ?_)<;>(conv=>whnf)))))
 ·rintro⟨i,j,q⟩ ⟨h1,h2,h3,h4⟩
  dsimp only at h1 h2 h3 h4⊢
  (repeat' (first|((first|refine Wp.any ac rfl ?_|(with_reducible first|refine Go.mk ?_|apply aj.of|refine Ov.ok zO ?_));conv=>whnf)|(with_reducible refine Ov.sh1 (by with_unfolding_all exact rfl) ?_)|((first|refine zV ?_|(with_reducible first|refine And.intro zC ?_|refine ag.pure (jI (xs.getD _ default) t (hx _) ht) rfl rfl ?_));conv=>whnf)|((refine ap (fun hc=>?_) (fun hc=>?_))<;>(try simp only[wz9]at hc)<;>(try (exfalso;omega))<;>(conv=>whnf))))
  ·rw[show(((i:Int)+j)/2).toNat=(i+j)/2 by omega]at hc
   have hh:decide (mJ (xs.getD ((i+j)/2) default) t<0)=true:=by simpa using hc
   refine⟨((i+j)/2+1,j,q-1),⟨by dsimp only;omega,h2,by dsimp only;omega,?_⟩,by dsimp only;omega,?_⟩
   ·rw[← h4]
    obtain⟨q,rfl⟩:∃r,q=r+1:=⟨q-1,by omega⟩
    rw[bsF,if_pos (by omega),if_pos hh];rfl
   ·(refine Le.by [0] rfl rfl rfl rfl ?_ ?_<;>(conv=>whnf)<;>(repeat' (first|exact trivial|exact ae.rfl rfl|exact ae.ptr rfl|((with_reducible refine And.intro ?_ ?_)<;>(conv=>whnf)))))
  ·rw[show(((i:Int)+j)/2).toNat=(i+j)/2 by omega]at hc
   have hh:¬decide (mJ (xs.getD ((i+j)/2) default) t<0)=true:=by simpa using hc
   refine⟨(i,(i+j)/2,q-1),⟨by dsimp only;omega,by dsimp only;omega,by dsimp only;omega,?_⟩,by dsimp only;omega,?_⟩
   ·rw[← h4]
    obtain⟨q,rfl⟩:∃r,q=r+1:=⟨q-1,by omega⟩
    rw[bsF,if_pos (by omega),if_neg hh];rfl
   ·(refine Le.by [0] rfl rfl rfl rfl ?_ ?_<;>(conv=>whnf)<;>(repeat' (first|exact trivial|exact ae.rfl rfl|exact ae.ptr rfl|((with_reducible refine And.intro ?_ ?_)<;>(conv=>whnf)))))
  all_goals rw[si (by omega)]at h4
  all_goals subst h4
  ·rw[show((ca xs t:Nat):Int).toNat=ca xs t by omega]
   exact .of_eq (by rw[show f8 xs t=(mJ (xs.getD (ca xs t) default) t==0)by
    unfold f8;rw[decide_eq_true (by omega),Bool.true_and];rfl])
  ·exact .of_eq (by rw[show f8 xs t=false by unfold f8;rw[decide_eq_false (by omega),Bool.false_and]])
theorem Pure.le'{C:Cx}{g:Nat}{args args':List SV}{r:SV}(h:Pure C g args' r)(ha:Les args args'):Pure C g args r :=
 ⟨h.ent,fun E w vs hIm hsz hargs=>h.out E w vs hIm (hsz.trans ha.len) fun j hj=>(ha.out j (by rw[ha.len];exact hj) hj).out _ _ _ _ (hargs j (by rw[ha.len];exact hj))⟩
theorem pD(xs:List Cel)(pol:Int)(key:List Int)(hlen:xs.length≤4611686018427387903)(hx:∀k,IsB (xs.getD k default).key)(ht:IsB key) :
  Pure TC 97 [.d (ao 4 Cel.D xs),.i .i64 pol,.d (ao 1 (bc .u8) key)] (.tup [.i .i64 (ca xs (newC pol key)),.b (f8 xs (newC pol key)),(f9 xs pol key).S]):=by
 refine Pure.mk' Tryz.func97 rfl rfl zN ?_
 have hS:Pure TC 127 [.d (ao 4 Cel.D xs),.agg [.i .i64 pol,.d (ao 1 (bc .u8) key),.i .i64 0,.d (.val (.slice none 0 0))],.d (.fn (.func 31) [])] (.tup [.i .i64 (ca xs (newC pol key)),.b (f8 xs (newC pol key))]) :=
  (mF xs (newC pol key) hlen hx ht).le' (.cons (.rfl _) (.cons (.agg (.cons (.rfl _) (.cons (.rfl _) (.cons (.rfl _) (.cons .nil .nil))))) (.cons (.rfl _) .nil)))
 (repeat' (first|((first|refine Wp.any ac rfl ?_|(with_reducible first|refine Go.mk ?_|apply aj.of)|refine zV ?_|(with_reducible first|refine And.intro zC ?_|refine ab.pure (hS) rfl rfl ?_));conv=>whnf)|((refine ap (fun hc=>?_) (fun hc=>?_))<;>(try simp only[wz9,eG,hasC_f]at hc)<;>(try (exfalso;omega))<;>(conv=>whnf))))
 ·rw[show((ca xs (newC pol key):Nat):Int).toNat=ca xs (newC pol key)by omega,show f9 xs pol key=xs.getD (ca xs (newC pol key)) default by rw[f9,if_pos ((eG ..).2 hc)]]
  exact .rfl _
 ·rw[show f9 xs pol key=newC pol key by rw[f9,if_neg (by rw[eG];exact hc)]]
  exact .tup (.cons (.rfl _) (.cons (.rfl _) (.cons (.agg (.cons (.rfl _) (.cons (.rfl _) (.cons (.rfl _) (.cons .nil .nil))))) .nil)))
theorem pC(xs:List Cel)(at':Nat)(there:Bool)(c:Cel)(hn:xs.length≤16777215)(hk:c.key.length≤16777216)(h1:at'≤xs.length)(h2:there=true→at'<xs.length) :
  Pure TC 137 [.d (ao 4 Cel.D xs),.i .i64 at',.b there,c.S] (.d (ao 4 Cel.D (dj xs at' there c))):=by
 cases there with
 | true =>
  have h2:=h2 rfl
  refine Pure.mk' Tryz.func137 rfl rfl zN ?_
  (repeat' (first|((first|refine Wp.any ac rfl ?_|(with_reducible first|refine Go.mk ?_|apply aj.of|refine And.intro zC ?_));conv=>whnf)|((refine ab.fn (iB xs (by omega)) [] rfl rfl rfl rfl rfl ?ha ?hh ?_);(case ha=>exact zA);(case hh=>exact zH);(conv=>whnf))))
  have hl:xs.length=(dj xs at' true c).length:=by simp[dj]
  refine SV.Le.sl' hl fun i hi=>?_
  simp only[Q19,dj,if_true,Q1,List.getElem?_set]
  by_cases h:at'=i
  ·subst h;simp[h2];rfl
  ·rw[if_neg h,if_neg (fun e=>h (by omega))]
 | false =>
  refine Pure.mk' Tryz.func137 rfl rfl zN ?_
  (repeat' (first|((first|refine Wp.any ac rfl ?_|(with_reducible first|refine Go.mk ?_|apply aj.of|refine And.intro zC ?_));conv=>whnf)|((refine ab.fn (iB xs (by omega)) [] rfl rfl rfl rfl rfl ?ha ?hh ?_);(case ha=>exact zA);(case hh=>exact zH);(conv=>whnf))|((with_reducible refine ab.pure (az _ (by omega)) rfl rfl ?_);conv=>whnf)|((refine ab.fn (pA xs at' c (by omega) (by omega)) [1,2] rfl rfl rfl rfl rfl ?ha ?hh ?_);(case ha=>exact zA);(case hh=>exact zH);(conv=>whnf))))
  exact SV.Le.sl fun i hi=>by simp only[Q19];rfl
end Go.Proofs.YtgkpjebgcfjfnaaGreat
