/- Lemmas of Cp3, Cp4, Cp5, Cs1, Hm, Pl1, Cq1, Cq2, Cq3, Cq4, Cq5, Cq6, Cq7, Cq8. No condition. -/
import Derived.Test.YtlkccdlgnpkjpaaGreatMO7
set_option linter.unusedVariables false
set_option linter.unusedSimpArgs false
set_option linter.unusedSectionVars false
set_option maxHeartbeats 80000000
set_option maxRecDepth 100000
namespace Go.Proofs.YtlkccdlgnpkjpaaGreat
open Go.RowKit
section
namespace Core
open Dir (FZ plc upd upW Iw okW dj upd_same upd_ne pow_pos2 plc_sh bB sh_32 sh_16 b5 aN)
def A(x:X):Fc→Nat
 | .key=>if x.op=2∧x.ser=0 then 5 else 4
 | .ev _ _ _=>4
def rst:Fc→Nat
 | .key=>0
 | .ev j sh _=>10*(sh-1-j)
def TH(a:Nat)(v:Int):Nat:=if v=0 then 3+a else if v<FZ then 1+a else 7+a
def TF(a:Nat)(v y:Int):Nat:=TH a y+if v<FZ then 2 else 1
def TE(a:Nat)(v:Int):Nat:=if v≠0∧v<FZ then 1+a else 7+a
def st(W:Nat→Int)(f:Fd):Nat:=if W f.w=f.v then 0 else 10
def U(lv i:Nat):Nat:=6*(2^lv-i)+1
def Tk:Bk→Nat
 | .lv _=>0
 | .ev j sh _=>10*(sh-1-j)
def T(x:X)(W:Nat→Int):CS→Nat
 | .none=>0
 | .k0 f=>(if W 0%2=0 then 2+A x f else 6+A x f)+rst f
 | .kE f w=>TE (A x f) (W w)+rst f
 | .kF f lv w=>TF (A x f) (W w) (W (plc (lv+1) (sumF x f)))+rst f
 | .kG f lv w v _=>(if W w=v then 1+TH (A x f) (W (plc (lv+1) (sumF x f)))else 1+TF (A x f) (W w) (W (plc (lv+1) (sumF x f))))+rst f
 | .kH f _ w _=>TH (A x f) (W w)+rst f
 | .kL f _ w _=>1+(if W w=0 then 1+A x f else TE (A x f) (W w))+rst f
 | .al f=>4+st W f
 | .pk _=>1
 | .a0 f=>5+st W f
 | .a1 f u=>(if W 33=u then 4 else 6)+st W f
 | .p0 f _ _=>3+st W f
 | .p1 f _ _ u=>(if W 32=u then 2 else 4)+st W f
 | .pS f _ _=>(if f.there=true then 3 else 1)+st W f
 | .b0 _ k=>2+Tk k
 | .b1 _ k u=>(if W 32=u then 1 else 3)+Tk k
 | .e0=>161
 | .eC j sh _ _ _ _=>4+10*(sh-1-j)
 | .eS j sh _ _ _ _ _=>3+10*(sh-1-j)
 | .s0=>52
 | .sM lv=>if W 0=2*lv then 51 else 53
 | .sF lv i=>U lv i
 | .sG lv i v _=>if W (2^lv+i)=v then U lv i-1 else U lv i+1
 | .sH lv i up _=>U lv i-(if up then 4 else 2)
 | .sL lv i up _=>U lv i-(if up then 5 else 3)
 | .sV _=>1
theorem U_le{lv i:Nat}(h:lv≤3):U lv i≤49:=by
 have:2^lv≤2^3:=Q16 (by omega) h
 unfold U;omega
theorem fN{lv i:Nat}(hi:i<2^lv):U lv i=U lv (i+1)+6∧1≤U lv (i+1):=by unfold U;omega
theorem uo(x:X)(f:Fc):4≤A x f∧A x f≤5:=by
 cases f<;>simp only[A]<;>(try split)<;>omega
theorem TH_le(a:Nat)(v:Int):TH a v≤7+a:=by unfold TH;split<;>(try split)<;>omega
theorem TE_le(a:Nat)(v:Int):TE a v≤7+a:=by unfold TE;split<;>omega
theorem TF_le(a:Nat)(v y:Int):TF a v y≤9+a:=by have:=TH_le a y;unfold TF;split<;>omega
theorem qe(W:Nat→Int)(f:Fd):st W f≤10:=by unfold st;split<;>omega
theorem jT{f:Fc}(h:okFc f):rst f≤150:=by
 cases f with
 | key=>simp[rst]
 | ev j sh g=>obtain⟨a,b⟩:=h;simp only[rst];omega
theorem T_le{x:X}{W:Nat→Int}{s:CS}(hs:Cw x W s):T x W s≤165:=by
 cases s with
 | none=>simp[T]
 | k0 f=>have:=uo x f;have:=jT hs;simp only[T];split<;>omega
 | kE f w=>have:=uo x f;have:=jT hs.1;have:=TE_le (A x f) (W w);simp only[T];omega
 | kF f lv w=>have:=uo x f;have:=jT hs.1;have:=TF_le (A x f) (W w) (W (plc (lv+1) (sumF x f)));simp only[T];omega
 | kG f lv w v m=>have:=uo x f;have:=jT hs.1;have:=TF_le (A x f) (W w) (W (plc (lv+1) (sumF x f)));have:=TH_le (A x f) (W (plc (lv+1) (sumF x f)));simp only[T];split<;>omega
 | kH f lv w m=>have:=uo x f;have:=jT hs.1;have:=TH_le (A x f) (W w);simp only[T];omega
 | kL f lv w m=>have:=uo x f;have:=jT hs.1;have:=TE_le (A x f) (W w);simp only[T];split<;>omega
 | al f=>have:=qe W f;simp only[T];omega
 | pk c=>simp[T]
 | a0 f=>have:=qe W f;simp only[T];omega
 | a1 f u=>have:=qe W f;simp only[T];split<;>omega
 | p0 f c r=>have:=qe W f;simp only[T];omega
 | p1 f c r u=>have:=qe W f;simp only[T];split<;>omega
 | pS f c r=>have:=qe W f;simp only[T];split<;>omega
 | b0 n k =>
  cases k with
  | lv r=>simp[T,Tk]
  | ev j sh g=>obtain⟨-,a,b⟩:=hs;simp only[T,Tk];omega
 | b1 n k u =>
  cases k with
  | lv r=>simp only[T,Tk];split<;>omega
  | ev j sh g=>obtain⟨-,a,b⟩:=hs;simp only[T,Tk];split<;>omega
 | e0=>simp[T]
 | eC j sh g w v m=>obtain⟨a,b,-⟩:=hs;simp only[T];omega
 | eS j sh g w v m n=>obtain⟨a,b,-⟩:=hs;simp only[T];omega
 | s0=>simp[T]
 | sM lv=>simp only[T];split<;>omega
 | sF lv i=>have:=U_le (i:=i) hs.1;simp only[T];omega
 | sG lv i v m=>have:=U_le (i:=i) hs.1;simp only[T];split<;>omega
 | sH lv i up m=>have:=U_le (i:=i) hs.1;simp only[T];split<;>omega
 | sL lv i up m=>have:=U_le (i:=i) hs.1;simp only[T];split<;>omega
 | sV lv=>simp[T]
theorem lC(x:X)(W:Nat→Int)(r:Rpl):T x W (leave x r).1≤2:=by
 unfold leave;split<;>simp[T,Tk]
theorem xW(x' x:X)(W:Nat→Int)(f:Fd)(c:Cel)(r:Rpl):T x' W (put x f c r)≤3+st W f:=by
 unfold put;split
 ·simp only[T];split<;>omega
 ·simp only[T];omega
theorem fo(x:X)(W:Nat→Int){j sh:Nat}(g:Int)(h:j<sh):T x W (further j sh g).1≤10*(sh-1-j):=by
 unfold further
 by_cases e:j+1=sh
 ·rw[if_pos e];simp[T]
 ·rw[if_neg e];simp only[T,A,rst];split<;>omega
theorem after_T(x:X)(W:Nat→Int){n:Int}{k:Bk}(h:okBk n k):T x W (after n k).1≤Tk k:=by
 cases k with
 | lv r=>simp[after,T]
 | ev j sh g=>exact fo x W _ h.1
theorem nc{P:Ops}{x:X}{W:Nat→Int}{f:Fc}{w:Nat}{h:List Cel}(hf:okFc f)(h0:0≤W w)(hser:0≤x.ser):T x W (entered P x f w (W w) h).1+1≤TE (A x f) (W w)+rst f:=by
 have hF:FZ=4611686018427387904:=rfl
 unfold entered TE
 by_cases e:W w=0∨FZ≤W w
 ·rw[if_pos e,if_neg (by omega)]
  simp only[T];split<;>omega
 ·rw [if_neg e,if_pos (by omega)]
  unfold found
  cases f with
  | key =>
   have hs:st W (fdOf P x w (W w) h)=0:=by unfold st fdOf;simp
   simp only[rst,A]
   unfold foundK
   by_cases h1:x.op=1
   ·rw[if_pos h1];simp only[T,hs];split<;>omega
   rw[if_neg h1]
   by_cases h2:x.op=2
   ·rw[if_pos h2]
    split
    ·have:=lC x W (er 9);split<;>omega
    ·split
     ·rename_i h4
      rw[if_neg (by omega)]
      have:=xW x x W (fdOf P x w (W w) h) (P.acq (P.pol x.pol) (fdOf P x w (W w) h).cell x.ser).2 (P.acq (P.pol x.pol) (fdOf P x w (W w) h).cell x.ser).1
      dsimp only;omega
     ·rename_i h4
      rw[if_pos ⟨h2,by omega⟩]
      simp only[T,hs];omega
   rw[if_neg h2,if_neg (fun h=>h2 h.1:¬(x.op=2∧x.ser=0))]
   split
   ·split
    ·have:=xW x x W (fdOf P x w (W w) h) (P.rel (P.pol x.pol) (fdOf P x w (W w) h).cell x.n).2 (P.rel (P.pol x.pol) (fdOf P x w (W w) h).cell x.n).1
     dsimp only;omega
    ·simp[T]
   ·split<;>simp[T]
  | ev j sh g =>
   dsimp only[A,rst]
   split
   ·have:=fo x W (g:=g) hf.1;omega
   ·simp only[T];omega
theorem T_on{x:X}{W:Nat→Int}{lv i:Nat}{up:Bool}{h:List Cel}(hi:i<2^lv):T x W (on lv i up h)+1≤U lv i-(if up then 5 else 3):=by
 obtain⟨g1,g2⟩:=fN hi
 cases up
 ·simp[on,T];omega
 ·simp only[on,move,if_true]
  by_cases e:i+1=2^lv
  ·rw[if_pos e];simp only[T];omega
  ·rw[if_neg e];simp only[T];omega
theorem st_hi{W:Nat→Int}{f:Fd}(h:qZ f){w:Nat}(hw:32≤w)(y:Int):st (upd W w y) f=st W f:=by
 unfold st;rw[upd_ne _ _ (by have:=h.2.1;omega)]
theorem step_T{P:Ops}{M:Mc}{B:Int}(h:Iw M.W B){x:X}(hx:0≤x.ser){s:CS}(hn:s≠.none)(hs:Cw x M.W s)(hr:(step P M x s).r.done=false) :
  T (step P M x s).x (step P M x s).M.W (step P M x s).s+1≤T x M.W s:=by
 have hF:FZ=4611686018427387904:=rfl
 have hd:=h.d
 cases s with
 | none=>exact absurd rfl hn
 | k0 f =>
  have hk:(M.W 0/2).toNat≤4:=by omega
  obtain⟨i,h1,h2⟩:=plc_sh (M.W 0/2).toNat (sumF x f)
  have ho:=h.sh hk h1
  rw[← h2]at ho
  by_cases e:M.W 0%2=0
  ·simp only[step,if_pos e,T]
   have hx:0<M.W (plc (M.W 0/2).toNat (sumF x f))∧M.W (plc (M.W 0/2).toNat (sumF x f))<FZ:=by unfold okW at ho;omega
   have:TE (A x f) (M.W (plc (M.W 0/2).toNat (sumF x f)))=1+A x f:=by unfold TE;rw[if_pos (by omega)]
   omega
  ·simp only[step,if_neg e,T]
   obtain⟨j,g1,g2⟩:=plc_sh ((M.W 0/2).toNat+1) (sumF x f)
   have ho2:=h.sh (by omega:(M.W 0/2).toNat+1≤4) g1
   rw[← g2]at ho2
   have hlow:dj M.W ((M.W 0/2).toNat+1) j=M.W (plc (M.W 0/2).toNat (sumF x f)):=by
    have h3:=bB (M.W 0/2).toNat (sumF x f)
    rw[g2,Nat.add_sub_cancel_left]at h3
    unfold dj;rw[Nat.add_sub_cancel,h3]
   rw[hlow]at ho2
   have hx:(M.W (plc ((M.W 0/2).toNat+1) (sumF x f))=0∨(0<M.W (plc ((M.W 0/2).toNat+1) (sumF x f))∧M.W (plc ((M.W 0/2).toNat+1) (sumF x f))<FZ)):=by unfold okW at ho2;omega
   have h4:TH (A x f) (M.W (plc ((M.W 0/2).toNat+1) (sumF x f)))≤3+A x f:=by unfold TH;(repeat' split)<;>omega
   unfold TF;split<;>omega
 | kE f w =>
  obtain⟨lv,i,hl,hi,rfl⟩:=aN hs.2
  have ho:=h.sh hl hi
  exact nc hs.1 ho.1 hx
 | kF f lv w =>
  by_cases e:FZ≤M.W w
  ·simp only[step,if_pos e,T,toH]
   unfold TF;rw[if_neg (by omega)];omega
  ·simp only[step,if_neg e,T,if_true]
   unfold TF;rw[if_pos (by omega)];omega
 | kG f lv w v m =>
  obtain⟨z,a,b,d,e⟩:=hs
  by_cases hm:M.W w=v
  ·simp only[step,if_pos hm,T,toH]
   have hne:plc (lv+1) (sumF x f)≠w:=by
    intro e9
    obtain⟨i,g1,g2⟩:=plc_sh lv (sumF x f)
    obtain⟨j,g3,g4⟩:=plc_sh (lv+1) (sumF x f)
    rw[b,g2,g4]at e9
    have:=b5 g1 g3 e9.symm
    omega
   show TH (A x f) (upd M.W w _ _)+rst f+1≤_
   rw[upd_ne _ _ hne];omega
  ·simp only[step,if_neg hm,T];omega
 | kH f lv w m =>
  obtain⟨z,a,b,d,e,g⟩:=hs
  obtain⟨i,h1,h2⟩:=plc_sh lv (sumF x f)
  have ho:=h.sh b h1
  rw[← h2,← d]at ho
  by_cases hm:M.W w=0
  ·simp only[step,if_pos hm,T]
   rw[hm];unfold TH;rw[if_pos rfl];omega
  ·simp only[step,if_neg hm]
   have h5:=nc (P:=P) (x:=x) (W:=M.W) (f:=f) (w:=w) (h:=M.Hd w) z ho.1 hx
   have h4:TE (A x f) (M.W w)=TH (A x f) (M.W w):=by unfold TE TH;(repeat' split)<;>omega
   show _≤TH (A x f) (M.W w)+rst f
   rw[← h4];exact h5
 | kL f lv w m =>
  by_cases hm:M.W w=0
  ·simp only[step,if_pos hm,T]
   show TE (A x f) (upd M.W w 1 w)+rst f+1≤_
   rw[upd_same];unfold TE;rw[if_pos (by omega)];omega
  ·simp only[step,if_neg hm,T];omega
 | al f =>
  simp only[step]
  split
  ·have:=lC x M.W (P.allow (P.pol x.pol) f.cell M.clk x.n).1
   show T x M.W (leave x _).1+1≤4+st M.W f
   omega
  ·have:=xW x x M.W f (P.allow (P.pol x.pol) f.cell M.clk x.n).2 (P.allow (P.pol x.pol) f.cell M.clk x.n).1
   show T x M.W (put x f _ _)+1≤4+st M.W f
   omega
 | pk c=>simp[step]at hr
 | a0 f =>
  simp only[step]
  split
  ·have:=lC x M.W (er 5)
   show T x M.W (leave x _).1+1≤5+st M.W f
   omega
  ·simp only[T,if_true];omega
 | a1 f u =>
  obtain⟨a,b,c,e⟩:=hs
  by_cases hm:M.W 33=u
  ·simp only[step,if_pos hm]
   have:=xW { x with ser:=u+1 } x (upd M.W 33 (u+1)) f (P.acq (P.pol x.pol) f.cell (u+1)).2 (P.acq (P.pol x.pol) f.cell (u+1)).1
   rw[st_hi a (by omega)]at this
   have e2:T x M.W (.a1 f u)=4+st M.W f:=by simp only[T,if_pos hm]
   rw[e2]
   show T { x with ser:=u+1 } (upd M.W 33 (u+1)) (put x f _ _)+1≤_
   omega
  ·simp only[step,if_neg hm,T];omega
 | p0 f c r =>
  by_cases e:M.W 32=P.room
  ·simp[step,if_pos e]at hr
  ·simp only[step,if_neg e,T,if_true];omega
 | p1 f c r u =>
  obtain⟨a,b,e,g⟩:=hs
  by_cases hm:M.W 32=u
  ·simp only[step,if_pos hm,T,b]
   show _+st (upd M.W 32 (u+1)) f+1≤_
   rw[st_hi a (by omega)];simp;omega
  ·simp only[step,if_neg hm,T];omega
 | pS f c r =>
  obtain⟨a,g,k⟩:=hs
  by_cases hm:M.W f.w=f.v
  ·simp only[step,if_pos hm]at hr⊢
   by_cases e:f.there=true
   ·simp only[if_pos e]
    have:=lC x (M.set f.w (f.v+1) (P.wth f.h f.at' f.there c)).W r
    have e2:T x M.W (.pS f c r)=3+st M.W f:=by simp only[T,if_pos e]
    rw[e2]
    show T x (M.set f.w (f.v+1) (P.wth f.h f.at' f.there c)).W (leave x r).1+1≤_
    omega
   ·simp[if_neg e,same]at hr
  ·simp only[step,if_neg hm,T,st,A,rst]
   have:¬(x.op=2∧x.ser=0):=fun h=>g h.1 h.2
   rw[if_neg this]
   split<;>split<;>omega
 | b0 n k=>simp only[step,T,if_true];omega
 | b1 n k u =>
  by_cases hm:M.W 32=u
  ·have e2:T x M.W (.b1 n k u)=1+Tk k:=by simp only[T,if_pos hm]
   rw[e2]
   simp only[step,if_pos hm]
   have:=after_T x (M.set 32 (u-n) []).W hs.2
   show T x (M.set 32 (u-n) []).W (after n k).1+1≤_
   omega
  ·simp only[step,if_neg hm,T];omega
 | e0 =>
  have hk:((M.W 0+1)/2).toNat≤4:=by omega
  have:2^((M.W 0+1)/2).toNat≤2^4:=Q16 (by omega) hk
  show(if M.W 0%2=0 then 2+4 else 6+4)+10*(2^((M.W 0+1)/2).toNat-1-0)+1≤161
  split<;>omega
 | eC j sh g w v m =>
  obtain⟨a,b,c⟩:=hs
  simp only[step]
  split
  ·have:=fo x M.W (g:=g) a
   show T x M.W (further j sh g).1+1≤4+10*(sh-1-j)
   omega
  ·simp only[T];omega
 | eS j sh g w v m n =>
  obtain⟨a,b,c⟩:=hs
  by_cases hm:M.W w=v
  ·simp only[step,if_pos hm,T,Tk];omega
  ·simp only[step,if_neg hm]
   have:=fo x M.W (g:=g) a
   show T x M.W (further j sh g).1+1≤3+10*(sh-1-j)
   omega
 | s0 =>
  by_cases h1:M.W 0%2=1
  ·simp only[step,if_pos h1,T]
   have:=U_le (lv:=(M.W 0/2).toNat) (i:=0) (by omega)
   omega
  ·by_cases h2:M.W 0/2=4
   ·simp[step,if_neg h1,if_pos h2]at hr
   ·simp only[step,if_neg h1,if_neg h2,T]
    rw[if_pos (by omega)];omega
 | sM lv =>
  have:=U_le (i:=0) hs
  by_cases hm:M.W 0=2*lv
  ·simp only[step,if_pos hm,T];omega
  ·simp only[step,if_neg hm,T];omega
 | sF lv i =>
  obtain⟨g1,g2⟩:=fN hs.2.1
  by_cases e:FZ≤M.W (2^lv+i)
  ·simp only[step,if_pos e,T];simp;omega
  ·simp only[step,if_neg e,T,if_true];omega
 | sG lv i v m =>
  obtain⟨g1,g2⟩:=fN hs.2.1
  by_cases hm:M.W (2^lv+i)=v
  ·simp only[step,if_pos hm,T];simp;omega
  ·simp only[step,if_neg hm,T];omega
 | sH lv i up m =>
  obtain⟨g1,g2⟩:=fN hs.2.1
  by_cases hm:M.W (upW lv i up)=0
  ·simp only[step,if_pos hm,T];split<;>omega
  ·simp only[step,if_neg hm]
   have:=T_on (x:=x) (W:=M.W) (up:=up) (h:=m) hs.2.1
   show T x M.W (on lv i up m)+1≤U lv i-(if up then 4 else 2)
   cases up<;>simp at this⊢<;> omega
 | sL lv i up m =>
  obtain⟨g1,g2⟩:=fN hs.2.1
  simp only[step]
  exact T_on (x:=x) hs.2.1
 | sV lv=>simp[step]at hr
end Core
end
section
namespace Core
open Dir (FZ plc upd upW Iw okW dj upd_same upd_ne pow_pos2 plc_sh bB sh_32 sh_16 b5 aN sumN remW rem)
def Qk(x:X):Nat:=70+(if x.res=true then 0 else 14)+(if x.ser=0 then 14 else 0)
def Qf(x:X):Fc→Nat
 | .key=>Qk x
 | .ev j sh _=>84*(sh-j)
def Qb:Bk→Nat
 | .lv _=>0
 | .ev j sh _=>14+84*(sh-1-j)
def Q(x:X):CS→Nat
 | .k0 f=>Qf x f
 | .kE f _=>Qf x f
 | .kF f _ _=>Qf x f
 | .kG f _ _ _ _=>Qf x f
 | .kH f _ _ _=>Qf x f
 | .kL f _ _ _=>Qf x f
 | .al _=>Qk x
 | .a0 _=>Qk x
 | .a1 _ _=>Qk x
 | .p0 _ _ _=>Qk x
 | .p1 _ _ _ _=>Qk x
 | .pS _ _ _=>Qk x
 | .b0 _ k=>Qb k
 | .b1 _ k _=>Qb k
 | .e0=>1344
 | .eC j sh _ _ _ _=>84*(sh-j)
 | .eS j sh _ _ _ _ _=>84*(sh-j)
 | _=>0
end Core
end
section
namespace Core
open Dir (FZ upd Iw sumN rem)
structure Wk where
 x:X
 s:CS
deriving Inhabited
structure Inv(M:Mc)(S:Nat→Wk)(B:Int):Prop where
 iw:Iw M.W B
 b:1≤B
 c33:0≤M.W 33
 cw:∀i,Cw (S i).x M.W (S i).s
 ser:∀i,0≤(S i).x.ser
def V(W:Nat→Int)(k:Wk):Nat:=match k.s with
 | .none=>1510
 | s=>T k.x W s+Q k.x s
def left(M:Mc)(S:Nat→Wk):Nat:=sumN 8 (fun i=>V M.W (S i))+70*rem M.W
def nx(P:Ops)(M:Mc)(S:Nat→Wk)(i:Nat):Nat→Wk:=upd S i ⟨(step P M (S i).x (S i).s).x,(step P M (S i).x (S i).s).s⟩
def mx(P:Ops)(M:Mc)(S:Nat→Wk)(i:Nat):Mc:=(step P M (S i).x (S i).s).M
theorem xI{P:Ops}{M:Mc}{x:X}(h:0≤x.ser){s:CS}(hs:Cw x M.W s):0≤(step P M x s).x.ser:=by
 cases s with
 | a1 f u =>
  simp only[step];split
  ·have:=hs.2.1;show 0≤u+1;omega
  ·exact h
 | p1 f c r u=>simp only[step];split<;>exact h
 | _=>(first|exact h|(simp only[step];split<;>exact h)|(simp only[step];split<;>(try split)<;>exact h))
theorem step_33{P:Ops}{M:Mc}{B:Int}(h:Iw M.W B)(hB:1≤B∧B+1<FZ){x:X}(hx:0≤x.ser)(h33:0≤M.W 33){s:CS}(hs:Cw x M.W s):0≤(step P M x s).M.W 33:=by
 cases(io (P:=P) h hB hx h33 hs).chg with
 | no h=>rw[h];exact h33
 | d h1 h2=>rw[h1,Dir.upd_ne _ _ (by omega)];exact h33
 | fz w h0 h1 h2=>rw[h2,Dir.upd_ne _ _ (by omega)];exact h33
 | lay w h0 h1 h2=>rw[h2,Dir.upd_ne _ _ (by omega)];exact h33
 | key w h0 h1 h2=>rw[h2,Dir.upd_ne _ _ (by omega)];exact h33
 | cnt y h2=>rw[h2,Dir.upd_ne _ _ (by omega)];exact h33
 | ser h1 h2=>rw[h2,Dir.upd_same];omega
theorem Inv.step{P:Ops}{M:Mc}{S:Nat→Wk}{B:Int}(h:Inv M S B)(hB:B+1<FZ)(i:Nat):Inv (mx P M S i) (nx P M S i) (B+1):=by
 have ho:=io (P:=P) h.iw ⟨h.b,hB⟩ (h.ser i) h.c33 (h.cw i)
 refine⟨ho.iw,by have:=h.b;omega,step_33 h.iw ⟨h.b,hB⟩ (h.ser i) h.c33 (h.cw i),fun j=>?_,fun j=>?_⟩
 ·by_cases e:j=i
  ·subst e;unfold nx;rw[Dir.upd_same];exact ho.cw
  ·unfold nx;rw[Dir.upd_ne _ _ e];exact ho.gr.cw (h.cw j)
 ·by_cases e:j=i
  ·subst e;unfold nx;rw[Dir.upd_same];exact xI (h.ser j) (h.cw j)
  ·unfold nx;rw[Dir.upd_ne _ _ e];exact h.ser j
theorem Inv.start{M:Mc}{S:Nat→Wk}{B:Int}(h:Inv M S B)(i:Nat){k:Wk}(hc:Cw k.x M.W k.s)(hs:0≤k.x.ser):Inv M (upd S i k) B:=by
 refine⟨h.iw,h.b,h.c33,fun j=>?_,fun j=>?_⟩
 ·by_cases e:j=i
  ·subst e;rw[Dir.upd_same];exact hc
  ·rw[Dir.upd_ne _ _ e];exact h.cw j
 ·by_cases e:j=i
  ·subst e;rw[Dir.upd_same];exact hs
  ·rw[Dir.upd_ne _ _ e];exact h.ser j
theorem step_some{P:Ops}{M:Mc}{x:X}{s:CS}(hn:s≠.none)(hr:(Core.step P M x s).r.done=false):(Core.step P M x s).s≠.none:=by
 have hle:∀r,(leave x r).2.done=false→(leave x r).1≠.none:=fun r h=>by unfold leave at h⊢;split at h<;>simp_all
 have hput:∀f c r,put x f c r≠.none:=fun f c r=>by unfold put;split<;>simp
 have hfu:∀j sh g,(further j sh g).2.done=false→(further j sh g).1≠.none:=fun j sh g h=>by unfold further at h⊢;split at h<;>simp_all
 have hfk:∀f,(foundK P x f).2.done=false→(foundK P x f).1≠.none:=fun f h=>by
  unfold foundK at h⊢
  by_cases h1:x.op=1
  ·rw[if_pos h1];simp
  rw[if_neg h1]at h⊢
  by_cases h2:x.op=2
  ·rw[if_pos h2]at h⊢
   by_cases h3:(f.cell.held.length:Int)=(P.pol x.pol).permits
   ·rw[if_pos h3]at h⊢;exact hle _ h
   rw[if_neg h3]at h⊢
   by_cases h4:0<x.ser
   ·rw[if_pos h4];exact hput _ _ _
   ·rw[if_neg h4];simp
  rw[if_neg h2]at h⊢
  by_cases h5:x.op=3
  ·rw[if_pos h5]at h⊢
   by_cases h6:(P.rel (P.pol x.pol) f.cell x.n).1.e=0
   ·rw[if_pos h6];exact hput _ _ _
   ·rw[if_neg h6]at h;simp at h
  rw[if_neg h5]at h⊢
  by_cases h7:(P.pol x.pol).kind=2
  ·rw[if_pos h7]at h;simp at h
  ·rw[if_neg h7];simp
 have hen:∀f w v hh,(entered P x f w v hh).2.done=false→(entered P x f w v hh).1≠.none:=fun f w v hh h=>by
  unfold entered at h⊢
  split at h
  ·rename_i e;rw[if_pos e];simp
  ·rename_i e;rw[if_neg e]
   cases f with
   | key=>exact hfk _ h
   | ev j sh g =>
    simp only[found]at h⊢
    split at h
    ·rename_i e;rw[if_pos e];exact hfu _ _ _ h
    ·rename_i e;rw[if_neg e];simp
 have hmv:∀lv i,move lv i≠.none:=fun lv i=>by unfold move;split<;>simp
 have hon:∀lv i up hh,on lv i up hh≠.none:=fun lv i up hh=>by unfold on;split;exact hmv _ _;simp
 cases s with
 | none=>exact absurd rfl hn
 | k0 f=>simp only[Core.step];split<;>simp
 | kE f w=>exact hen _ _ _ _ hr
 | kF f lv w=>simp only[Core.step];split<;>simp[toH]
 | kG f lv w v m=>simp only[Core.step];split<;>simp[toH]
 | kH f lv w m =>
  by_cases e:M.W w=0
  ·simp only[Core.step,if_pos e];simp
  ·simp only[Core.step,if_neg e]at hr⊢;exact hen _ _ _ _ hr
 | kL f lv w m=>simp[Core.step]
 | al f =>
  simp only[Core.step]at hr⊢
  split at hr<;>rename_i e
  ·rw[if_pos e];exact hle _ hr
  ·rw[if_neg e];exact hput _ _ _
 | pk c=>simp[Core.step]at hr
 | a0 f =>
  simp only[Core.step]at hr⊢
  split at hr<;>rename_i e
  ·rw[if_pos e];exact hle _ hr
  ·rw[if_neg e];simp
 | a1 f u =>
  simp only[Core.step]
  split
  ·exact hput _ _ _
  ·simp
 | p0 f c r =>
  simp only[Core.step]at hr⊢
  split at hr<;>rename_i e
  ·simp at hr
  ·rw[if_neg e];simp
 | p1 f c r u=>simp only[Core.step];split<;>simp
 | pS f c r =>
  simp only[Core.step]at hr⊢
  split at hr<;>rename_i e
  ·rw[if_pos e]
   simp only[same]at hr⊢
   split at hr<;>rename_i e2
   ·rw[if_pos e2];exact hle _ hr
   ·simp at hr
  ·rw[if_neg e];simp
 | b0 n k=>simp[Core.step]
 | b1 n k u =>
  simp only[Core.step]at hr⊢
  split at hr<;>rename_i e
  ·rw[if_pos e]
   cases k with
   | lv r=>simp[same,after]at hr
   | ev j sh g=>exact hfu _ _ _ hr
  ·rw[if_neg e];simp
 | e0=>simp[Core.step]
 | eC j sh g w v m =>
  simp only[Core.step]at hr⊢
  split at hr<;>rename_i e
  ·rw[if_pos e];exact hfu _ _ _ hr
  ·rw[if_neg e];simp
 | eS j sh g w v m n =>
  simp only[Core.step]at hr⊢
  split at hr<;>rename_i e
  ·rw[if_pos e];simp
  ·rw[if_neg e];exact hfu _ _ _ hr
 | s0 =>
  simp only[Core.step]at hr⊢
  split at hr<;>rename_i e
  ·rw[if_pos e];simp
  ·rw[if_neg e]
   split at hr<;>rename_i e2
   ·simp at hr
   ·rw[if_neg e2];simp
 | sM lv=>simp only[Core.step];split<;>simp
 | sF lv i=>simp only[Core.step];split<;>simp
 | sG lv i v m=>simp only[Core.step];split<;>simp
 | sH lv i up m =>
  simp only[Core.step];split
  ·simp
  ·exact hon _ _ _ _
 | sL lv i up m=>exact hon _ _ _ _
 | sV lv=>simp[Core.step]at hr
end Core
end
section
namespace Core
open Dir (FZ upd upd_same upd_ne)
variable{P:Ops}
def Rp(x:X)(r:Rpl):Prop:=r.serial≠0→r.serial=x.ser∧r.g=true
def Sb(x:X):Bk→Prop
 | .lv r=>Rp x r
 | .ev _ _ _=>True
def Sr(x:X):CS→Prop
 | .p0 _ _ r=>Rp x r
 | .p1 _ _ r _=>Rp x r
 | .pS _ _ r=>Rp x r
 | .b0 _ k=>Sb x k
 | .b1 _ k _=>Sb x k
 | _=>True
theorem Rp.zero{x:X}{r:Rpl}(h:r.serial=0):Rp x r:=fun e=>absurd h e
end Core
end
section
namespace Hm
open Dir (FZ plc upd upW Iw okW dj upd_same upd_ne pow_pos2 plc_sh bB rQ sh_32 sh_16 b5 aN Cw.gone)
def bh(W:Nat→Int)(s:Int):Nat :=
 if W 0%2=0∨W (plc (W 0/2).toNat s)<FZ∨W (plc ((W 0/2).toNat+1) s)=0 then plc (W 0/2).toNat s else plc ((W 0/2).toNat+1) s
theorem aS(lv:Nat)(s:Int):1≤plc lv s:=by have:=pow_pos2 lv;unfold plc;omega
theorem plc_ne(lv:Nat)(s t:Int):plc lv s≠plc (lv+1) t:=by
 obtain⟨i,h1,h2⟩:=plc_sh lv s
 obtain⟨j,h3,h4⟩:=plc_sh (lv+1) t
 intro e;rw[h2,h4]at e
 have:=b5 h1 h3 e;omega
theorem gd{W W':Nat→Int}(h0:W' 0=W 0)(h:∀p,1≤p→(W' p<FZ↔W p<FZ)∧(W' p=0↔W p=0))(s:Int):bh W' s=bh W s:=by
 unfold bh
 simp only[h0,(h _ (aS _ s)).1,(h _ (aS _ s)).2]
theorem zp{W:Nat→Int}{B:Int}(h:Iw W B){lv:Nat}(hl:lv≤4)(s:Int):okW (W 0) lv (W (plc lv s)) (W (plc (lv-1) s)) B∨lv=0∧okW (W 0) lv (W (Dir.plc lv s)) (W (Dir.plc 0 s)) B:=by
 obtain⟨i,h1,h2⟩:=plc_sh lv s
 have ho:=h.sh hl h1
 rcases Nat.eq_zero_or_pos lv with e|e
 ·subst e
  obtain rfl:i=0:=by simp at h1;omega
  have hp:Dir.plc 0 s=1:=by rw[h2]
  right;refine⟨rfl,?_⟩
  rw[hp];exact ho
 ·left
  have h3:=bB (lv-1) s
  rw[Nat.sub_add_cancel e,h2,Nat.add_sub_cancel_left]at h3
  unfold dj at ho
  rw[h3,← h2]at ho
  exact ho
theorem pj{W:Nat→Int}{B:Int}(h:Iw W B){lv:Nat}(hl:lv≤4)(s:Int):∃low,okW (W 0) lv (W (Dir.plc lv s)) low B:=by
 rcases zp h hl s with h|⟨_,h⟩<;>exact⟨_,h⟩
theorem zq{W:Nat→Int}{B:Int}(h:Iw W B){lv:Nat}(hl:lv≤3)(s:Int):okW (W 0) (lv+1) (W (Dir.plc (lv+1) s)) (W (Dir.plc lv s)) B:=by
 rcases zp h (lv:=lv+1) (by omega) s with h|⟨h,_⟩
 ·exact h
 ·omega
theorem aT{W:Nat→Int}{B:Int}(h:Iw W B){lv:Nat}(hl:lv≤4){s:Int}(hv:0<W (plc lv s)∧W (plc lv s)<FZ):bh W s=plc lv s:=by
 obtain⟨low,ho⟩:=pj h hl s
 have hd:=h.d
 unfold bh
 by_cases e1:W 0=2*lv
 ·rw[if_pos (.inl (by omega)),show(W 0/2).toNat=lv by omega]
 ·by_cases e2:W 0=2*lv+1
  ·rw[show(W 0/2).toNat=lv by omega,if_pos (.inr (.inl hv.2))]
  ·have e3:W 0+1=2*lv:=by unfold okW at ho;omega
   obtain⟨l,rfl⟩:∃l,lv=l+1:=⟨lv-1,by omega⟩
   have ho1:=zq h (by omega:l≤3) s
   rw[show(W 0/2).toNat=l by omega]
   rw[if_neg]
   unfold okW at ho1;omega
theorem eP{W:Nat→Int}{B:Int}(h:Iw W B){lv i:Nat}(hl:lv≤3)(hi:i<2^lv)(hd:W 0=2*lv+1)(hv:0<W (2^lv+i)∧W (2^lv+i)<FZ)(s:Int) :
  bh (upd W (2^lv+i) (W (2^lv+i)+FZ)) s=bh W s:=by
 have hw:=sh_16 hl hi
 have e0:upd W (2^lv+i) (W (2^lv+i)+FZ) 0=W 0:=upd_ne _ _ (by omega)
 have ho1:=zq h hl s
 unfold bh
 rw[e0,show(W 0/2).toNat=lv by omega]
 by_cases e:plc lv s=2^lv+i
 ·have e1:plc (lv+1) s≠2^lv+i:=by rw[← e];exact(plc_ne lv s s).symm
  have hz:W (plc (lv+1) s)=0:=by
   rw[e]at ho1
   unfold okW at ho1;omega
  rw[if_pos (.inr (.inr (by rw[upd_ne _ _ e1];exact hz))),if_pos (.inr (.inr hz))]
 ·rw[upd_ne _ _ e]
  by_cases e1:plc (lv+1) s=2^lv+i
  ·exfalso
   obtain⟨j,h3,h4⟩:=plc_sh (lv+1) s
   rw[h4]at e1
   have:=b5 h3 hi e1;omega
  ·rw[upd_ne _ _ e1]
theorem lI{W:Nat→Int}{B:Int}(h:Iw W B){lv i:Nat}(hl:lv≤3)(hi:i<2^(lv+1))(hd:2*(lv:Int)+1≤W 0)(hz:W (2^(lv+1)+i)=0)(hlow:FZ≤W (2^lv+i%2^lv))(s:Int) :
  (plc (lv+1) s=2^(lv+1)+i→bh W s=2^lv+i%2^lv∧bh (upd W (2^(lv+1)+i) 1) s=2^(lv+1)+i) ∧
  (plc (lv+1) s≠2^(lv+1)+i→bh (upd W (2^(lv+1)+i) 1) s=bh W s∧bh W s≠2^(lv+1)+i):=by
 have hw:=sh_32 (by omega:lv+1≤4) hi
 have ho:=h.sh (by omega:lv+1≤4) hi
 have hD:W 0=2*lv+1:=by
  have hF:FZ=4611686018427387904:=rfl
  rw[hz]at ho;unfold okW at ho;omega
 have e0:upd W (2^(lv+1)+i) 1 0=W 0:=upd_ne _ _ (by omega)
 have hp:plc lv s≠2^(lv+1)+i:=fun e=>by
  obtain⟨j,h3,h4⟩:=plc_sh lv s
  rw[h4]at e
  have:=b5 h3 hi e;omega
 unfold bh
 rw[e0,show(W 0/2).toNat=lv by omega,upd_ne _ _ hp]
 constructor
 ·intro e
  have h3:=bB lv s
  rw[e,Nat.add_sub_cancel_left]at h3
  rw[e,upd_same,if_pos (.inr (.inr hz)),if_neg (by rw[← h3];have hF:FZ=4611686018427387904:=rfl;omega)]
  exact⟨h3.symm,rfl⟩
 ·intro e
  rw[upd_ne _ _ e]
  refine⟨rfl,?_⟩
  split
  ·exact hp
  ·exact e
theorem gf{W:Nat→Int}{B:Int}(h:Iw W B){k:Nat}(hk:k≤3)(e:W 0=2*k)(s:Int):bh (upd W 0 (2*k+1)) s=bh W s:=by
 obtain⟨low,ho⟩:=pj h (by omega:k≤4) s
 have hp:=aS k s
 unfold bh
 have hx:W (plc k s)<FZ:=by unfold okW at ho;omega
 rw[upd_same,show((2*(k:Int)+1)/2).toNat=k by omega,show(W 0/2).toNat=k by omega,if_pos (.inr (.inl (by rw[upd_ne _ _ (by omega)];exact hx))),if_pos (.inl (by omega:W 0%2=0))]
theorem lJ{W:Nat→Int}{k:Nat}(e:W 0=2*k+1)(hg:Cw.gone W k (2^k))(s:Int):bh (upd W 0 (2*k+2)) s=bh W s:=by
 unfold bh
 rw[upd_same,show((2*(k:Int)+2)/2).toNat=k+1 by omega,show(W 0/2).toNat=k by omega,if_pos (.inl (by omega:(2*(k:Int)+2)%2=0)),if_neg]
 obtain⟨i,h1,h2⟩:=plc_sh k s
 have g:=hg i h1
 have hq:W (plc (k+1) s)≠0:=by
  obtain⟨j,h3,h4⟩:=plc_sh (k+1) s
  rw[h4]
  by_cases hlt:j<2^k
  ·exact(hg j hlt).2.1
  ·have hj:j-2^k<2^k:=by rw[Nat.pow_succ]at h3;omega
   have:=(hg _ hj).2.2
   rwa [Nat.sub_add_cancel (by omega)]at this
 rw[h2]
 omega
end Hm
end
theorem aU:∀a:List Int,be a a=0
 | []=>rfl
 | x::r=>by simp only[be];rw[if_neg (by omega),if_neg (by omega)];exact aU r
theorem lY:∀{a b:List Int},be a b=0→a=b
 | [],[],_=>rfl
 | [],_::_,h=>by simp[be]at h
 | _::_,[],h=>by simp[be]at h
 | x::a,y::b,h=>by
  simp only[be]at h
  split at h
  ·omega
  ·split at h
   ·omega
   ·rw[lY h,show x=y by omega]
theorem nq:∀a b:List Int,be b a=- be a b
 | [],[]=>rfl
 | [],_::_=>rfl
 | _::_,[]=>rfl
 | x::a,y::b=>by
  simp only[be]
  by_cases h1:x<y
  ·rw[if_neg (by omega),if_pos h1,if_pos h1];rfl
  ·by_cases h2:y<x
   ·rw[if_pos h2,if_neg h1,if_pos h2]
   ·rw[if_neg h2,if_neg h1,if_neg h1,if_neg h2];exact nq a b
theorem eu:∀{a b c:List Int},be a b<0→be b c<0→be a c<0
 | [],[],_,h,_=>by simp[be]at h
 | [],_::_,[],_,h=>by simp[be]at h
 | [],_::_,_::_,_,_=>by simp[be]
 | _::_,[],_,h,_=>by simp[be]at h
 | _::_,_::_,[],_,h=>by simp[be]at h
 | x :: a,y::b,z::c,h1,h2=>by
  simp only[be]at h1 h2⊢
  by_cases e1:x<y
  ·by_cases e2:y<z
   ·rw[if_pos (by omega)];omega
   ·by_cases e3:z<y
    ·rw[if_neg e2,if_pos e3]at h2;omega
    ·rw[if_pos (by omega)];omega
  ·by_cases e2:y<x
   ·rw[if_neg e1,if_pos e2]at h1;omega
   ·rw[if_neg e1,if_neg e2]at h1
    by_cases e3:y<z
    ·rw[if_pos (by omega)];omega
    ·by_cases e4:z<y
     ·rw[if_neg e3,if_pos e4]at h2;omega
     ·rw[if_neg e3,if_neg e4]at h2
      rw[if_neg (by omega),if_neg (by omega)]
      exact eu h1 h2
def idn(c:Cel):List Int:=c.pol::c.key
def fQ(pol:Int)(key:List Int):Prop:=0≤pol∧pol<32∧key.length≤255
theorem fl{pol:Int}{key:List Int}(h:fQ pol key):bW pol key=pol::key:=by
 obtain⟨h1,h2,h3⟩:=h
 rw[bW,if_pos (by rw[cV,if_neg (by omega),if_neg (by omega)])]
theorem fY{a b:Cel}(ha:fQ a.pol a.key)(hb:fQ b.pol b.key):jq a b=be (idn a) (idn b):=by
 rw[jq,fl ha,fl hb];rfl
theorem mb{lt:Nat→Bool}{n:Nat}(mono:∀i j,i≤j→j<n→lt j=true→lt i=true):∀(q i j:Nat),i≤j→j≤n→j-i<q→(∀k,k<i→lt k=true)→(∀k,j≤k→k<n→lt k=false) →
  (∀k,k<bsF lt q i j→lt k=true)∧∀k,bsF lt q i j≤k→k<n→lt k=false
 | 0,i,j,_,_,h,_,_=>by omega
 | q+1,i,j,h1,h2,h3,h4,h5=>by
  unfold bsF
  by_cases hij:i<j
  ·rw[if_pos hij]
   by_cases hl:lt ((i+j)/2)=true
   ·rw[if_pos hl]
    exact mb mono q _ _ (by omega) h2 (by omega) (fun k hk=>mono k ((i+j)/2) (by omega) (by omega) hl) h5
   ·rw[if_neg hl]
    refine mb mono q _ _ (by omega) (by omega) (by omega) h4 (fun k hk hkn=>?_)
    cases hlk:lt k with
    | false=>rfl
    | true=>exact absurd (mono _ k hk hkn hlk) hl
  ·rw[if_neg hij]
   exact⟨h4,fun k hk hkn=>h5 k (by omega) hkn⟩
theorem tR{lt:Nat→Bool}{n:Nat}(mono:∀i j,i≤j→j<n→lt j=true→lt i=true):(∀k,k<bs lt n→lt k=true)∧∀k,bs lt n≤k→k<n→lt k=false :=
 mb mono (n+1) 0 n (Nat.zero_le _) (Q4 _) (by omega) (fun k hk=>by omega) (fun k hk hkn=>by omega)
structure Srt(xs:List Cel):Prop where
 ok:∀c∈xs,fQ c.pol c.key
 lt:xs.Pairwise fun a b=>be (idn a) (idn b)<0
theorem dp{xs:List Cel}{k:Nat}(h:k<xs.length):xs.getD k default∈xs:=by
 rw[Q1,Q0 h];exact Q14 h
theorem cI{xs:List Cel}{k:Nat}(h:k<xs.length):xs.getD k default=xs[k]:=by
 rw[Q1,Q0 h];rfl
theorem Srt.at{xs:List Cel}(h:Srt xs){i j:Nat}(hij:i<j)(hj:j<xs.length):be (idn (xs.getD i default)) (idn (xs.getD j default))<0:=by
 rw[cI hj,cI (show i<xs.length by omega)]
 exact List.pairwise_iff_getElem.1 h.lt i j (by omega) hj hij
theorem oW{xs:List Cel}(h:Srt xs){t:Cel}(ht:fQ t.pol t.key):bo xs t≤xs.length∧(∀k,k<bo xs t→be (idn (xs.getD k default)) (idn t)<0)∧∀k,bo xs t≤k→k<xs.length→¬be (idn (xs.getD k default)) (idn t)<0:=by
 have hle:bo xs t≤xs.length:=nU xs t
 have hord:∀k,k<xs.length→jq (xs.getD k default) t=be (idn (xs.getD k default)) (idn t):=fun k hk=>fY (h.ok _ (dp hk)) ht
 have:=tR (lt:=fun k=>decide (jq (xs.getD k default) t<0)) (n:=xs.length) (fun i j hij hj hlt=>by
  simp only[decide_eq_true_eq]at hlt⊢
  rw[hord j hj]at hlt
  rw[hord i (by omega)]
  by_cases e:i=j
  ·subst e;exact hlt
  ·exact eu (h.at (by omega) hj) hlt)
 refine⟨hle,fun k hk=>?_,fun k hk hkn=>?_⟩
 ·have:=this.1 k hk
  simp only[decide_eq_true_eq]at this
  rw[hord k (by omega)]at this;exact this
 ·have:=this.2 k hk hkn
  simp only[decide_eq_false_iff_not]at this
  rw[hord k hkn]at this;exact this
def look(xs:List Cel)(i:List Int):Option Cel:=xs.find? fun c=>decide (idn c=i)
theorem bc{xs:List Cel}{i:List Int}{c:Cel}(h:look xs i=some c):c∈xs∧idn c=i:=by
 unfold look at h
 exact⟨List.mem_of_find?_eq_some h,by simpa using List.find?_some h⟩
theorem Srt.uniq{xs:List Cel}(h:Srt xs){a b:Cel}(ha:a∈xs)(hb:b∈xs)(e:idn a=idn b):a=b:=by
 obtain⟨i,hi,rfl⟩:=List.getElem_of_mem ha
 obtain⟨j,hj,rfl⟩:=List.getElem_of_mem hb
 have hp:=List.pairwise_iff_getElem.1 h.lt
 rcases Nat.lt_trichotomy i j with hlt|rfl|hlt
 ·have:=hp i j hi hj hlt;rw[e,aU]at this;omega
 ·rfl
 ·have:=hp j i hj hi hlt;rw[e,aU]at this;omega
theorem Srt.look_of{xs:List Cel}(h:Srt xs){c:Cel}(hc:c∈xs):look xs (idn c)=some c:=by
 cases hl:look xs (idn c)with
 | none=>unfold look at hl;rw[List.find?_eq_none]at hl;exact absurd (by simp) (hl c hc)
 | some d=>obtain⟨h1,h2⟩:=bc hl;rw[h.uniq h1 hc h2]
theorem mL{xs:List Cel}{i:List Int}:look xs i=none↔∀c∈xs,idn c≠i:=by unfold look;rw[List.find?_eq_none];simp
theorem lL{xs:List Cel}(h:Srt xs){t:Cel}(ht:fQ t.pol t.key):(cH xs t=true→look xs (idn t)=some (xs.getD (bo xs t) default))∧(cH xs t=false→look xs (idn t)=none):=by
 obtain⟨h1,h2,h3⟩:=oW h ht
 constructor
 ·intro hh
  obtain⟨p1,p2⟩:=(cW _ _).1 hh
  rw[fY (h.ok _ (dp p1)) ht]at p2
  rw[← lY p2]
  exact h.look_of (dp p1)
 ·intro hh
  rw[mL]
  intro c hc e
  obtain⟨k,hk,rfl⟩:=List.getElem_of_mem hc
  rw[← cI hk]at e
  have h9:¬k<bo xs t:=fun hlt=>by have:=h2 k hlt;rw[e,aU]at this;omega
  by_cases hkp:k=bo xs t
  ·subst hkp
   have:cH xs t=true:=(cW _ _).2 ⟨hk,by rw[fY (h.ok _ (dp hk)) ht,e,aU]⟩
   rw[this]at hh;cases hh
  ·have:=h3 (bo xs t) (Q4 _) (by omega)
   have h8:=h.at (show bo xs t<k by omega) hk
   rw[e]at h8
   exact this h8
theorem od{xs:List Cel}(h:Srt xs){t:Cel}(ht:fQ t.pol t.key):cH xs t=(look xs (idn t)).isSome:=by
 obtain⟨h1,h2⟩:=lL h ht
 cases hh:cH xs t with
 | true=>rw[h1 hh];rfl
 | false=>rw[h2 hh];rfl
theorem m9{xs:List Cel}(h:Srt xs){pol:Int}{key:List Int}(ht:fQ pol key):bL xs pol key=(look xs (pol::key)).getD (newC pol key):=by
 obtain⟨h1,h2⟩:=lL h (t:=newC pol key) ht
 unfold bL
 by_cases hh:cH xs (newC pol key)=true
 ·rw[if_pos hh];have:=h1 hh;rw[show idn (newC pol key)=pol::key from rfl]at this;rw[this];rfl
 ·rw[if_neg hh];have:=h2 (by simpa using hh);rw[show idn (newC pol key)=pol::key from rfl]at this;rw[this];rfl
theorem bC{xs:List Cel}(h:Srt xs){i:List Int}{d:Cel}:look xs i=some d↔d∈xs∧idn d=i :=
 ⟨bc,fun⟨h1,h2⟩=>by rw[← h2];exact h.look_of h1⟩
theorem iJ{α:Type}{a b:Option α}(h:∀d,a=some d↔b=some d):a=b:=by
 cases a with
 | none=>cases b with
  | none=>rfl
  | some d=>have:=(h d).2 rfl;cases this
 | some d=>exact((h d).1 rfl).symm
theorem Srt.ids{xs:List Cel}(h:Srt xs):(xs.map idn).Pairwise fun a b=>be a b<0:=by rw[List.pairwise_map];exact h.lt
theorem set_mem{xs:List Cel}(h:Srt xs){p:Nat}{c:Cel}(hp:p<xs.length)(e:idn (xs.getD p default)=idn c)(d:Cel):d∈xs.set p c↔d=c∨(d∈xs∧idn d≠idn c):=by
 rw[cI hp]at e
 constructor
 ·intro hd
  obtain⟨k,hk,rfl⟩:=List.getElem_of_mem hd
  rw[List.length_set]at hk
  rw[List.getElem_set]
  by_cases hkp:p=k
  ·rw[if_pos hkp];exact Or.inl rfl
  ·rw[if_neg hkp]
   refine Or.inr ⟨Q14 hk,fun e2=>?_⟩
   have hp2:=List.pairwise_iff_getElem.1 h.lt
   rw[← e]at e2
   rcases Nat.lt_or_gt_of_ne hkp with hlt|hlt
   ·have:=hp2 p k hp hk hlt;rw[e2,aU]at this;omega
   ·have:=hp2 k p hk hp hlt;rw[e2,aU]at this;omega
 ·rintro(rfl|⟨h1,h2⟩)
  ·exact List.mem_set hp _
  ·obtain⟨k,hk,rfl⟩:=List.getElem_of_mem h1
   have hkp:¬p=k:=fun e2=>by subst e2;exact h2 e
   have:(xs.set p c)[k]'(by rw[List.length_set];exact hk)=xs[k]:=by rw[List.getElem_set,if_neg hkp]
   rw[← this];exact Q14 _
theorem gM{xs:List Cel}(h:Srt xs){t c:Cel}(hc:fQ c.pol c.key)(e:idn c=idn t) :
  Srt (bM xs (bo xs t) (cH xs t) c)∧(∀d,d∈bM xs (bo xs t) (cH xs t) c↔d=c∨(d∈xs∧idn d≠idn c))∧(bM xs (bo xs t) (cH xs t) c).length=if cH xs t=true then xs.length else xs.length+1:=by
 have ht:fQ t.pol t.key:=by
  have e1:c.pol=t.pol:=by have:=e;simp only[idn,List.cons.injEq]at this;exact this.1
  have e2:c.key=t.key:=by have:=e;simp only[idn,List.cons.injEq]at this;exact this.2
  rw[← e1,← e2];exact hc
 obtain⟨h1,h2,h3⟩:=oW h ht
 cases hh:cH xs t with
 | true =>
  obtain⟨p1,p2⟩:=(cW _ _).1 hh
  rw[fY (h.ok _ (dp p1)) ht]at p2
  have p3:idn (xs.getD (bo xs t) default)=idn c:=by rw[lY p2,e]
  have hm:=set_mem h p1 p3
  simp only[bM,if_true]
  refine⟨⟨fun d hd=>?_,?_⟩,hm,List.length_set ..⟩
  ·rcases(hm d).1 hd with rfl|⟨hd,_⟩
   ·exact hc
   ·exact h.ok d hd
  ·rw[← List.pairwise_map (f:=idn) (R:=fun a b=>be a b<0),List.map_set,← p3]
   have:(xs.map idn).set (bo xs t) (idn (xs.getD (bo xs t) default))=xs.map idn:=by
    rw[cI p1]
    have:idn xs[bo xs t]=(xs.map idn)[bo xs t]'(by simpa using p1):=by simp
    rw[this];exact List.set_getElem_self _
   rw[this];exact h.ids
 | false =>
  simp only[bM,Bool.false_eq_true,if_false]
  have hn:=mL.1 ((lL h ht).2 hh)
  have hge:∀k,bo xs t≤k→k<xs.length→be (idn c) (idn (xs.getD k default))<0:=fun k hk hkn=>by
   have h9:=h3 k hk hkn
   have h8:=nq (idn (xs.getD k default)) (idn t)
   rw[e,h8]
   have h7:be (idn (xs.getD k default)) (idn t)≠0:=fun h0=>hn _ (dp hkn) (lY h0)
   omega
  have hm:∀d,d∈bP xs (bo xs t) c↔d=c∨(d∈xs∧idn d≠idn c):=fun d=>by
   have hx:d∈bP xs (bo xs t) c↔d=c∨d∈xs:=by
    unfold bP
    rw[List.mem_append,List.mem_append,List.mem_singleton]
    constructor
    ·rintro((h|h)|h)
     ·exact Or.inr (List.mem_of_mem_take h)
     ·exact Or.inl h
     ·exact Or.inr (List.mem_of_mem_drop h)
    ·rintro(h|h)
     ·exact Or.inl (Or.inr h)
     ·rw[← List.take_append_drop (bo xs t) xs]at h
      rcases List.mem_append.1 h with h|h
      ·exact Or.inl (Or.inl h)
      ·exact Or.inr h
   rw[hx]
   constructor
   ·rintro(h|h)
    ·exact Or.inl h
    ·exact Or.inr ⟨h,by rw[e];exact hn d h⟩
   ·rintro(h|⟨h,_⟩)
    ·exact Or.inl h
    ·exact Or.inr h
  refine⟨⟨fun d hd=>?_,?_⟩,hm,aY _ _ _ h1⟩
  ·rcases(hm d).1 hd with rfl|⟨hd,_⟩
   ·exact hc
   ·exact h.ok d hd
  ·unfold bP
   rw[List.append_assoc,List.pairwise_append]
   have hpt:(xs.take (bo xs t)).Pairwise fun a b=>be (idn a) (idn b)<0:=h.lt.sublist (List.take_sublist _ _)
   have hpd:(xs.drop (bo xs t)).Pairwise fun a b=>be (idn a) (idn b)<0:=h.lt.sublist (List.drop_sublist _ _)
   have htl:∀a∈xs.take (bo xs t),be (idn a) (idn c)<0:=fun a ha=>by
    obtain⟨k,hk,rfl⟩:=List.getElem_of_mem ha
    rw[Q10]at hk
    rw[List.getElem_take,← cI (show k<xs.length by omega),e]
    exact h2 k (by omega)
   have hdl:∀b∈xs.drop (bo xs t),be (idn c) (idn b)<0:=fun b hb=>by
    obtain⟨k,hk,rfl⟩:=List.getElem_of_mem hb
    rw[List.length_drop]at hk
    rw[List.getElem_drop,← cI (show bo xs t+k<xs.length by omega)]
    exact hge _ (by omega) (by omega)
   refine⟨hpt,?_,fun a ha b hb=>?_⟩
   ·rw[List.singleton_append,List.pairwise_cons];exact⟨hdl,hpd⟩
   ·rw[List.singleton_append]at hb
    rcases Q22 hb with rfl|hb
    ·exact htl a ha
    ·exact eu (htl a ha) (hdl b hb)
theorem mp{xs:List Cel}(h:Srt xs){t c:Cel}(hc:fQ c.pol c.key)(e:idn c=idn t)(i:List Int):look (bM xs (bo xs t) (cH xs t) c) i=if i=idn c then some c else look xs i:=by
 obtain⟨h1,h2,_⟩:=gM h hc e
 refine iJ fun d=>?_
 rw[bC h1,h2]
 by_cases hi:i=idn c
 ·rw[if_pos hi]
  constructor
  ·rintro⟨rfl|⟨_,h4⟩,h5⟩
   ·rfl
   ·exact absurd (h5.trans hi) h4
  ·intro h;cases h;exact⟨Or.inl rfl,hi.symm⟩
 ·rw[if_neg hi,bC h]
  constructor
  ·rintro⟨rfl|⟨h3,_⟩,h5⟩
   ·exact absurd h5.symm hi
   ·exact⟨h3,h5⟩
  ·rintro⟨h3,h5⟩;exact⟨Or.inr ⟨h3,fun e2=>hi (h5.symm.trans e2)⟩,h5⟩
theorem Srt.filter{xs:List Cel}(h:Srt xs)(q:Cel→Bool):Srt (xs.filter q):=⟨fun c hc=>h.ok c (List.mem_filter.1 hc).1,h.lt.filter _⟩
theorem eU{xs:List Cel}(h:Srt xs)(q:Cel→Bool)(i:List Int):look (xs.filter q) i=(look xs i).filter q:=by
 refine iJ fun d=>?_
 rw[bC (h.filter q),List.mem_filter,Option.filter_eq_some_iff,bC h]
 exact⟨fun⟨⟨a,b⟩,c⟩=>⟨⟨a,c⟩,b⟩,fun⟨⟨a,c⟩,b⟩=>⟨⟨a,b⟩,c⟩⟩
theorem Srt.tail{c:Cel}{xs:List Cel}(h:Srt (c::xs)):Srt xs:=⟨fun d hd=>h.ok d (by simp[hd]),(List.pairwise_cons.1 h.lt).2⟩
theorem kY:∀{xs ys:List Cel},Srt xs→Srt ys→(∀i,look xs i=look ys i)→xs=ys
 | [],[],_,_,_=>rfl
 | [],b::s,_,h',e=>by have:=e (idn b);rw[h'.look_of (by simp)]at this;simp[look]at this
 | a::r,[],h,_,e=>by have:=e (idn a);rw[h.look_of (by simp)]at this;simp[look]at this
 | a :: r,b::s,h,h',e=>by
  have ha:a∈b::s:=by have:=e (idn a);rw[h.look_of (by simp)]at this;exact(bc this.symm).1
  have hb:b∈a::r:=by have:=e (idn b);rw[h'.look_of (by simp)]at this;exact(bc this).1
  have hab:a=b:=by
   rcases Q22 ha with h1|h1
   ·exact h1
   ·rcases Q22 hb with h2|h2
    ·exact h2.symm
    ·have p1:=(List.pairwise_cons.1 h'.lt).1 a h1
     have p2:=(List.pairwise_cons.1 h.lt).1 b h2
     have:=eu p1 p2
     rw[aU]at this;omega
  subst hab
  congr 1
  refine kY h.tail h'.tail fun i=>iJ fun d=>?_
  have e1:=e i
  rw[bC h.tail,bC h'.tail]
  have key:∀{zs:List Cel} (hz:Srt (a::zs)),(d∈zs∧idn d=i)↔(look (a::zs) i=some d∧i≠idn a):=fun {zs} hz=>by
   rw[bC hz]
   constructor
   ·rintro⟨h1,h2⟩
    refine⟨⟨by simp[h1],h2⟩,fun e2=>?_⟩
    have:=(List.pairwise_cons.1 hz.lt).1 d h1
    rw[h2,e2,aU]at this;omega
   ·rintro⟨⟨h1,h2⟩,h3⟩
    rcases Q22 h1 with rfl|h1
    ·exact absurd h2.symm h3
    ·exact⟨h1,h2⟩
  rw[key h,key h',e1]
section
namespace Core
open Dir (FZ plc upd upW Iw okW dj upd_same upd_ne pow_pos2 plc_sh bB sh_32 sh_16 b5 aN)
open Hm (bh aS)
structure OpsOk(sm:List Int→Int)(P:Ops):Prop where
 cut:∀h lv i,Srt h→Srt (P.cut h lv i)∧∀c,c∈P.cut h lv i↔c∈h∧sm (idn c)%2^lv=(i:Int)
 fnd:∀h pol key,Srt h→fQ pol key→(P.fnd h pol key).2.1=(look h (pol::key)).isSome∧(P.fnd h pol key).2.2=(look h (pol::key)).getD ⟨pol,key,0,[]⟩
 wth:∀h pol key c,Srt h→fQ pol key→idn c=pol::key→Srt (P.wth h (P.fnd h pol key).1 (P.fnd h pol key).2.1 c) ∧
  ∀i,look (P.wth h (P.fnd h pol key).1 (P.fnd h pol key).2.1 c) i=if i=pol::key then some c else look h i
 allow:∀p c t n,idn (P.allow p c t n).2=idn c
 acq:∀p c n,idn (P.acq p c n).2=idn c
 rel:∀p c n,idn (P.rel p c n).2=idn c
 rel0:∀p c n,(P.rel p c n).1.e=0→c.held≠[]
section
variable(sm:List Int→Int)
def Ih(M:Mc):Prop:=∀lv i,lv≤4→i<2^lv→Srt (M.Hd (2^lv+i))∧∀c∈M.Hd (2^lv+i),sm (idn c)%2^lv=(i:Int)
def own(M:Mc)(k:List Int):Option Cel:=look (M.Hd (bh M.W (sm k))) k
def K(x:X):Prop:=fQ x.pol x.key∧x.sum=sm (x.pol::x.key)
def KF(x:X):Fc→Prop
 | .key=>K sm x
 | .ev _ _ _=>True
structure Kd(P:Ops)(x:X)(M:Mc)(f:Fd):Prop where
 k:K sm x
 lv:∃lv,lv≤4∧f.w=plc lv x.sum
 le:f.v≤M.W f.w
 hd:M.W f.w=f.v→M.Hd f.w=f.h
 srt:Srt f.h
 fd:f=fdOf P x f.w f.v f.h
def Kc(x:X)(c:Cel):Prop:=idn c=x.pol::x.key
def Ch(P:Ops)(x:X)(M:Mc):CS→Prop
 | .none=>True
 | .k0 f=>KF sm x f
 | .kE f w=>KF sm x f∧∃lv,lv≤4∧w=plc lv (sumF x f)
 | .kF f _ _=>KF sm x f
 | .kG f _ w v h=>KF sm x f∧v≤M.W w∧(M.W w=v→M.Hd w=h)
 | .kH f lv _ h=>KF sm x f∧M.Hd (plc (lv-1) (sumF x f))=h
 | .kL f lv _ h=>KF sm x f∧M.Hd (plc (lv-1) (sumF x f))=h
 | .al f=>Kd sm P x M f
 | .pk c=>K sm x∧Kc x c
 | .a0 f=>Kd sm P x M f
 | .a1 f _=>Kd sm P x M f
 | .p0 f c _=>Kd sm P x M f∧Kc x c
 | .p1 f c _ _=>Kd sm P x M f∧Kc x c
 | .pS f c _=>Kd sm P x M f∧Kc x c
 | .b0 _ _=>True
 | .b1 _ _ _=>True
 | .e0=>True
 | .eC _ _ _ w v h=>v≤M.W w∧(M.W w=v→M.Hd w=h)∧Srt h
 | .eS _ _ _ w v m n=>v≤M.W w∧∃h t,Srt h∧(M.W w=v→M.Hd w=h)∧t≤M.clk∧m=dH P h t∧n=(h.length:Int)-m.length
 | .s0=>True
 | .sM _=>True
 | .sF _ _=>True
 | .sG lv i v h=>v≤M.W (2^lv+i)∧(M.W (2^lv+i)=v→M.Hd (2^lv+i)=h)
 | .sH lv i _ h=>M.Hd (2^lv+i)=h
 | .sL lv i _ h=>M.Hd (2^lv+i)=h
 | .sV _=>True
end
structure kM(M M':Mc):Prop where
 le:∀w,w<32→M.W w≤M'.W w
 hd:∀w,1≤w→w<32→M'.W w=M.W w→M'.Hd w=M.Hd w
 fz:∀w,w<32→FZ≤M.W w→M'.W w=M.W w
 clk:M.clk≤M'.clk
theorem kM.refl(M:Mc):kM M M:=⟨fun _ _=>Int.le_refl _,fun _ _ _ _=>rfl,fun _ _ _=>rfl,Int.le_refl _⟩
theorem kM.tick(M:Mc){t:Int}(h:M.clk≤t):kM M ⟨M.W,M.Hd,t⟩:=⟨fun _ _=>Int.le_refl _,fun _ _ _ _=>rfl,fun _ _ _=>rfl,h⟩
theorem kM.set{M:Mc}{w:Nat}{x:Int}{h:List Cel}(h1:M.W w<x)(h2:M.W w<FZ):kM M (M.set w x h):=by
 refine⟨fun j _=>?_,fun j _ _ hj=>?_,fun j _ hj=>?_,Int.le_refl _⟩
 ·show _≤upd M.W w x j
  unfold upd;split
  ·rename_i e;subst e;omega
  ·omega
 ·replace hj:upd M.W w x j=M.W j:=hj
  show upd M.Hd w h j=_
  unfold upd at hj⊢
  split at hj
  ·rename_i e;subst e;omega
  ·rename_i e;rw[if_neg e]
 ·show upd M.W w x j=_
  unfold upd;split
  ·rename_i e;subst e;omega
  ·rfl
theorem kM.hi(M:Mc){w:Nat}(hw:32≤w)(x:Int)(h:List Cel):kM M (M.set w x h) :=
 ⟨fun j hj=>by show _≤upd M.W w x j;rw[upd_ne _ _ (by omega)];exact Int.le_refl _,fun j _ hj _=>upd_ne _ _ (by omega),fun j hj _=>upd_ne _ _ (by omega),Int.le_refl _⟩
variable{sm:List Int→Int}
theorem kM.kd{P:Ops}{x:X}{M M':Mc}(h:kM M M'){f:Fd}(ho:qZ f)(hf:Kd sm P x M f):Kd sm P x M' f:=by
 have h3:=h.le f.w ho.2.1
 have h4:=hf.le
 refine⟨hf.k,hf.lv,by omega,fun e=>?_,hf.srt,hf.fd⟩
 have e2:M.W f.w=f.v:=by omega
 rw[h.hd f.w ho.1 ho.2.1 (by omega)];exact hf.hd e2
theorem kM.ch{P:Ops}{x:X}{M M':Mc}(h:kM M M'){s:CS}(hc:Cw x M.W s)(hs:Ch sm P x M s):Ch sm P x M' s:=by
 have swp:∀{w:Nat} {v:Int} {q:List Cel→Prop},1≤w→w<32→v≤M.W w→(M.W w=v→q (M.Hd w))→v≤M'.W w∧(M'.W w=v→q (M'.Hd w)):=by
  intro w v q hw hw2 h1 h2
  have h3:=h.le w hw2
  refine⟨by omega,fun e=>?_⟩
  have e2:M.W w=v:=by omega
  rw[h.hd w hw hw2 (by omega)];exact h2 e2
 have p32:∀lv,lv≤4→∀s:Int,plc lv s<32:=fun lv hl s=>by obtain⟨i,h1,h2⟩:=plc_sh lv s;rw[h2];exact(sh_32 hl h1).2
 cases s with
 | kG f lv w v m =>
  obtain⟨a,b,d⟩:=hs
  have hw:1≤w:=by rw[hc.2.2.1];exact aS _ _
  have hw2:w<32:=by rw[hc.2.2.1];exact p32 _ (by have:=hc.2.1;omega) _
  have:=swp (q:=fun x=>x=m) hw hw2 b d
  exact⟨a,this.1,this.2⟩
 | kH f lv w m =>
  refine⟨hs.1,?_⟩
  have hl:=p32 (lv-1) (by have:=hc.2.2.1;omega) (sumF x f)
  have:=h.hd _ (aS _ _) hl (h.fz _ hl hc.2.2.2.2.2)
  exact this.trans hs.2
 | kL f lv w m =>
  refine⟨hs.1,?_⟩
  have hl:=p32 (lv-1) (by have:=hc.2.2.1;omega) (sumF x f)
  have:=h.hd _ (aS _ _) hl (h.fz _ hl hc.2.2.2.2.2)
  exact this.trans hs.2
 | al f=>exact h.kd hc.1 hs
 | a0 f=>exact h.kd hc.1 hs
 | a1 f u=>exact h.kd hc.1 hs
 | p0 f c r=>exact⟨h.kd hc.1 hs.1,hs.2⟩
 | p1 f c r u=>exact⟨h.kd hc.1 hs.1,hs.2⟩
 | pS f c r=>exact⟨h.kd hc.1 hs.1,hs.2⟩
 | eC j sh g w v m =>
  have:=swp (q:=fun x=>x=m) hc.2.2.1 hc.2.2.2.1 hs.1 hs.2.1
  exact⟨this.1,this.2,hs.2.2⟩
 | eS j sh g w v m n =>
  obtain⟨a,h0,t,b,d,e,f⟩:=hs
  have:=swp (q:=fun x=>x=h0) hc.2.2.1 hc.2.2.2.1 a d
  have hk:=h.clk
  exact⟨this.1,h0,t,b,this.2,by omega,f⟩
 | sG lv i v m =>
  have hw:=sh_32 (by have:=hc.1;omega:lv≤4) hc.2.1
  exact swp (q:=fun x=>x=m) hw.1 hw.2 hs.1 hs.2
 | sH lv i up m =>
  have hw:=sh_32 (by have:=hc.1;omega:lv≤4) hc.2.1
  show M'.Hd _=_
  rw[h.hd _ hw.1 hw.2 (h.fz _ hw.2 hc.2.2.2.2.1)];exact hs
 | sL lv i up m =>
  have hw:=sh_32 (by have:=hc.1;omega:lv≤4) hc.2.1
  show M'.Hd _=_
  rw[h.hd _ hw.1 hw.2 (h.fz _ hw.2 hc.2.2.2.2.1)];exact hs
 | _=>exact hs
end Core
end
section
namespace Core
open Dir (FZ plc upd upW Iw okW dj upd_same upd_ne pow_pos2 plc_sh bB sh_32 sh_16 b5 aN cY upW_sh)
open Hm (bh aS gd aT eP lI gf lJ pj)
variable{sm:List Int→Int}{P:Ops}
theorem plc_32{lv:Nat}(hl:lv≤4)(s:Int):1≤plc lv s∧plc lv s<32:=by
 obtain⟨i,h1,h2⟩:=plc_sh lv s
 rw[h2];exact sh_32 hl h1
theorem home_lt{W:Nat→Int}{B:Int}(h:Iw W B)(s:Int):1≤bh W s∧bh W s<32:=by
 have hd:=h.d
 unfold bh
 by_cases e:W 0%2=0
 ·rw[if_pos (.inl e)];exact plc_32 (by omega) s
 ·split
  ·exact plc_32 (by omega) s
  ·exact plc_32 (by omega) s
theorem home_hi{W:Nat→Int}{B:Int}(h:Iw W B){w:Nat}(hw:32≤w)(y s:Int):bh (upd W w y) s=bh W s:=by
 have hd:=h.d
 unfold bh
 rw[upd_ne (i:=w) (j:=0) W y (by omega)]
 by_cases e:W 0%2=0
 ·rw[if_pos (.inl e),if_pos (.inl e)]
 ·have h1:=plc_32 (lv:=(W 0/2).toNat) (by omega) s
  have h2:=plc_32 (lv:=(W 0/2).toNat+1) (by omega) s
  rw[upd_ne _ _ (by omega),upd_ne _ _ (by omega)]
theorem oX{M:Mc}{B:Int}(h:Iw M.W B){w:Nat}(hw:32≤w)(y:Int)(m:List Cel)(k:List Int):own sm (M.set w y m) k=own sm M k:=by
 unfold own
 show look (upd M.Hd w m (bh (upd M.W w y) (sm k))) k=_
 have:=home_lt h (sm k)
 rw[home_hi h hw,upd_ne _ _ (by omega)]
theorem Ih.hi{M:Mc}(h:Ih sm M){w:Nat}(hw:32≤w)(y:Int)(m:List Cel):Ih sm (M.set w y m):=fun l j hl' hj=>by
 have:=sh_32 hl' hj
 show Srt (upd M.Hd _ _ _)∧∀e∈upd M.Hd _ _ _,_
 rw[upd_ne _ _ (by omega)];exact h l j hl' hj
theorem Ih.word{M:Mc}(h:Ih sm M){w:Nat}(hw:1≤w∧w<32):Srt (M.Hd w):=by
 obtain⟨lv,i,hl,hi,rfl⟩:=aN hw
 exact(h lv i hl hi).1
theorem Ih.set{M:Mc}(h:Ih sm M){lv i:Nat}(hl:lv≤4)(hi:i<2^lv){x:Int}{m:List Cel}(h1:Srt m)(h2:∀e∈m,sm (idn e)%2^lv=(i:Int)):Ih sm (M.set (2^lv+i) x m):=fun l j hl' hj=>by
 show Srt (upd M.Hd _ _ _)∧∀e∈upd M.Hd _ _ _,_
 by_cases e:2^l+j=2^lv+i
 ·obtain⟨rfl,rfl⟩:=b5 hj hi e
  rw[upd_same];exact⟨h1,h2⟩
 ·rw[upd_ne _ _ e];exact h l j hl' hj
theorem Ih.set0{M:Mc}(h:Ih sm M){x:Int}{m:List Cel}:Ih sm (M.set 0 x m):=fun l j hl' hj=>by
 show Srt (upd M.Hd _ _ _)∧∀e∈upd M.Hd _ _ _,_
 rw[upd_ne _ _ (by have:=pow_pos2 l;omega)];exact h l j hl' hj
theorem yr(W:Nat→Int)(s:Int):1≤bh W s:=by unfold bh;split<;>exact aS _ _
theorem own_0{M:Mc}{x:Int}{m:List Cel}(hh:∀s,bh (upd M.W 0 x) s=bh M.W s)(k:List Int):own sm (M.set 0 x m) k=own sm M k:=by
 unfold own
 show look (upd M.Hd 0 m (bh (upd M.W 0 x) (sm k))) k=_
 rw[hh,upd_ne _ _ (by have:=yr M.W (sm k);omega)]
theorem ki{M:Mc}{B:Int}(h:Iw M.W B)(hI:Ih sm M){lv i:Nat}(hl:lv≤3)(hi:i<2^lv)(hd:2*(lv:Int)+1≤M.W 0){v:Int}(hv:v<FZ)(e:M.W (2^lv+i)=v){m:List Cel}(hm:M.Hd (2^lv+i)=m) :
  kM M (M.set (2^lv+i) (v+FZ) m)∧Ih sm (M.set (2^lv+i) (v+FZ) m)∧∀k,own sm (M.set (2^lv+i) (v+FZ) m) k=own sm M k:=by
 obtain⟨g1,g2,_⟩:=cY h hl hi hd hv e
 have hF:FZ=4611686018427387904:=rfl
 have hi0:=hI lv i (by omega) hi
 refine⟨.set (by omega) (by omega),hI.set (by omega) hi (by rw[← hm];exact hi0.1) (by rw[← hm];exact hi0.2),fun k=>?_⟩
 unfold own
 show look (upd M.Hd _ m (bh (upd M.W _ (v+FZ)) (sm k))) k=_
 rw[← e,eP h hl hi g2 (by omega)]
 congr 1
 unfold upd;split
 ·rename_i e2;rw[e2,hm]
 ·rfl
theorem zD(hP:OpsOk sm P){h:List Cel}(s:Srt h)(lv i:Nat):Srt (P.cut h lv i)∧(∀e∈P.cut h lv i,sm (idn e)%2^lv=(i:Int))∧∀k,sm k%2^lv=(i:Int)→look (P.cut h lv i) k=look h k:=by
 obtain⟨h1,h2⟩:=hP.cut h lv i s
 refine⟨h1,fun e he=>((h2 e).1 he).2,fun k hk=>iJ fun v=>?_⟩
 rw[bC h1,bC s,h2]
 constructor
 ·rintro⟨⟨a,b⟩,c⟩;exact⟨a,c⟩
 ·rintro⟨a,c⟩;exact⟨⟨a,by rw[c];exact hk⟩,c⟩
theorem cO{lv i:Nat}{s:Int}:plc lv s=2^lv+i↔s%2^lv=(i:Int):=by
 unfold plc
 have hp:(0:Int)<2^lv:=by exact_mod_cast pow_pos2 lv
 have h1:=Int.emod_nonneg s (by omega:(2^lv:Int)≠0)
 omega
theorem sO(hP:OpsOk sm P){M:Mc}{B:Int}(h:Iw M.W B)(hI:Ih sm M){lv i:Nat}(hl:lv≤3)(hi:i<2^(lv+1))(hd:2*(lv:Int)+1≤M.W 0)(hz:M.W (2^(lv+1)+i)=0)(hlow:FZ≤M.W (2^lv+i%2^lv)){m:List Cel}(hm:M.Hd (2^lv+i%2^lv)=m) :
  kM M (M.set (2^(lv+1)+i) 1 (P.cut m (lv+1) i))∧Ih sm (M.set (2^(lv+1)+i) 1 (P.cut m (lv+1) i))∧∀k,own sm (M.set (2^(lv+1)+i) 1 (P.cut m (lv+1) i)) k=own sm M k:=by
 have hF:FZ=4611686018427387904:=rfl
 have hs:Srt m:=by rw[← hm];exact(hI lv (i%2^lv) (by omega) (Nat.mod_lt _ (pow_pos2 lv))).1
 obtain⟨c1,c2,c3⟩:=zD hP hs (lv+1) i
 refine⟨.set (by omega) (by omega),hI.set (by omega) hi c1 c2,fun k=>?_⟩
 obtain⟨g1,g2⟩:=lI h hl hi hd hz hlow (sm k)
 unfold own
 show look (upd M.Hd _ _ (bh (upd M.W _ 1) (sm k))) k=_
 by_cases e:plc (lv+1) (sm k)=2^(lv+1)+i
 ·obtain⟨a,b⟩:=g1 e
  rw[b,upd_same,a,hm]
  exact c3 k (cO.1 e)
 ·obtain⟨a,b⟩:=g2 e
  rw[a,upd_ne _ _ b]
theorem cell_id(hP:OpsOk sm P){x:X}{w:Nat}{v:Int}{h:List Cel}(hs:Srt h)(hk:K sm x):Kc x (fdOf P x w v h).cell:=by
 have:=(hP.fnd h x.pol x.key hs hk.1).2
 show idn (P.fnd h x.pol x.key).2.2=_
 rw[this]
 cases e:look h (x.pol::x.key)with
 | none=>rfl
 | some c=>exact(bc e).2
theorem Kd.cell(hP:OpsOk sm P){x:X}{M:Mc}{f:Fd}(h:Kd sm P x M f):Kc x f.cell:=by
 have:=cell_id hP (w:=f.w) (v:=f.v) h.srt h.k
 rw[← h.fd]at this;exact this
theorem Kd.ser{x:X}{M:Mc}{f:Fd}(h:Kd sm P x M f)(n:Int):Kd sm P { x with ser:=n } M f:=⟨h.k,h.lv,h.le,h.hd,h.srt,h.fd⟩
theorem Kd.res{x:X}{M:Mc}{f:Fd}(h:Kd sm P x M f)(b:Bool):Kd sm P { x with res:=b } M f:=⟨h.k,h.lv,h.le,h.hd,h.srt,h.fd⟩
theorem g9(x:X)(M:Mc)(r:Rpl):Ch sm P x M (leave x r).1:=by unfold leave;split<;>trivial
theorem oU{x y:X}{M:Mc}{f:Fd}{c:Cel}{r:Rpl}(h:Kd sm P x M f)(hc:Kc x c):Ch sm P x M (put y f c r):=by unfold put;split<;>exact⟨h,hc⟩
theorem ee(x:X)(M:Mc)(j sh:Nat)(g:Int):Ch sm P x M (further j sh g).1:=by unfold further;split<;>trivial
theorem ku(hP:OpsOk sm P){M:Mc}(hI:Ih sm M){x:X}{f:Fc}(hk:KF sm x f){w:Nat}(hw:∃lv,lv≤4∧w=plc lv (sumF x f)):Ch sm P x M (entered P x f w (M.W w) (M.Hd w)).1:=by
 have hsrt:Srt (M.Hd w):=by obtain⟨lv,hl,rfl⟩:=hw;exact hI.word (plc_32 hl _)
 unfold entered
 split
 ·exact hk
 ·unfold found
  cases f with
  | key =>
   have hd:Kd sm P x M (fdOf P x w (M.W w) (M.Hd w)):=⟨hk,hw,Int.le_refl _,fun _=>rfl,hsrt,rfl⟩
   have hc:=hd.cell hP
   show Ch sm P x M (foundK P x (fdOf P x w (M.W w) (M.Hd w))).1
   unfold foundK
   split
   ·exact hd
   ·split
    ·split
     ·exact g9 _ _ _
     ·split
      ·exact oU hd (by unfold Kc;rw[hP.acq];exact hc)
      ·exact hd
    ·split
     ·split
      ·exact oU hd (by unfold Kc;rw[hP.rel];exact hc)
      ·trivial
     ·split
      ·trivial
      ·exact⟨hk,hc⟩
  | ev j sh g =>
   dsimp only
   split
   ·exact ee _ _ _ _ _
   ·exact⟨Int.le_refl _,fun _=>rfl,hsrt⟩
theorem on_ch{x:X}{M:Mc}{lv i:Nat}{up:Bool}{h:List Cel}(e:M.Hd (2^lv+i)=h):Ch sm P x M (on lv i up h):=by
 unfold on move;split
 ·split<;>trivial
 ·exact e
def dC(M:Mc):CS→Int
 | .pS f _ _=>if M.W f.w=f.v∧f.there=false then 1 else 0
 | .eS _ _ _ w v _ n=>if M.W w=v then -n else 0
 | _=>0
inductive OE(sm:List Int→Int)(P:Ops)(M:Mc)(x:X)(s:CS)(M':Mc):Prop
 | calm (hd:dC M s=0) (h:∀k,own sm M' k=own sm M k) (hn:∀f c r,s=.pS f c r→M.W f.w≠f.v:=by intro _ _ _ e;first|(cases e;done)|(cases e;assumption))
 | put (f:Fd) (c:Cel) (r:Rpl) (hs:s=.pS f c r) (hw:M.W f.w=f.v) (h0:own sm M (x.pol::x.key)=look f.h (x.pol::x.key)) (h:∀k,own sm M' k=if k=x.pol::x.key then some c else own sm M k)
 | evict (j sh:Nat) (g:Int) (w:Nat) (v:Int) (m:List Cel) (n:Int) (hs:s=.eS j sh g w v m n) (hw:M.W w=v) (t:Int) (ht:t≤M.clk) (hm:m=dH P (M.Hd w) t) (hn:n=((M.Hd w).length:Int)-m.length)
   (h:∀k,own sm M' k=if bh M.W (sm k)=w then look m k else own sm M k)
structure Eff(sm:List Int→Int)(P:Ops)(M:Mc)(x:X)(s:CS)(o:Out):Prop where
 mono:kM M o.M
 ih:Ih sm o.M
 ch:Ch sm P o.x o.M o.s
 own:OE sm P M x s o.M
theorem Eff.same{M:Mc}{x x':X}{s s':CS}{r:Rs}(h:Ih sm M)(hc:Ch sm P x' M s')(hd:dC M s=0:=by rfl)(hn:∀f c r,s=.pS f c r→M.W f.w≠f.v:=by intro _ _ _ e;first|(cases e;done)|(cases e;assumption)):Eff sm P M x s ⟨M,x',s',r⟩:=⟨.refl M,h,hc,.calm hd (fun _=>rfl) hn⟩
theorem pu{W:Nat→Int}{B:Int}(h:Iw W B)(hB:B+1<FZ){w:Nat}(hw:1≤w∧w<32)(hv:0<W w∧W w<FZ)(s:Int):bh (upd W w (W w+1)) s=bh W s:=by
 have hF:FZ=4611686018427387904:=rfl
 obtain⟨lv,i,hl,hi,rfl⟩:=aN hw
 have ho:=h.sh hl hi
 refine gd (upd_ne _ _ (by omega)) (fun p _=>?_) _
 by_cases ep:p=2^lv+i
 ·subst ep;rw[upd_same];unfold okW at ho;omega
 ·rw[upd_ne _ _ ep];simp
end Core
end
section
namespace Core
open Dir (FZ plc upd upW Iw okW dj upd_same upd_ne pow_pos2 plc_sh bB sh_32 sh_16 b5 aN cY upW_sh)
open Hm (bh aS gd aT eP lI gf lJ pj)
variable{sm:List Int→Int}{P:Ops}
theorem sI{lv i:Nat}{s:Int}(e:plc (lv+1) s=2^(lv+1)+i):2^lv+i%2^lv=plc lv s:=by
 have h3:=bB lv s
 rwa [e,Nat.add_sub_cancel_left]at h3
theorem gQ(hP:OpsOk sm P){M:Mc}{B:Int}(h:Iw M.W B)(hB:1≤B∧B+1<FZ){x:X}{s:CS}(hs:Cw x M.W s)(hI:Ih sm M)(hc:Ch sm P x M s) :
  Eff sm P M x s (step P M x s):=by
 have hF:FZ=4611686018427387904:=rfl
 have hd:=h.d
 cases s with
 | none=>exact .same hI trivial
 | k0 f =>
  refine .same hI ?_
  show Ch sm P x M (if _ then _ else _)
  split
  ·exact⟨hc,_,by omega,rfl⟩
  ·exact hc
 | kE f w=>exact .same hI (ku hP hI hc.1 hc.2)
 | kF f lv w =>
  obtain⟨z,a,b,d⟩:=hs
  refine .same hI ?_
  show Ch sm P x M (if _ then _ else _)
  split
  ·exact⟨hc,by rw[Nat.add_sub_cancel];exact congrArg M.Hd b.symm⟩
  ·exact⟨hc,Int.le_refl _,fun _=>rfl⟩
 | kG f lv w v m =>
  obtain⟨z,a,b,d,e⟩:=hs
  obtain⟨hop,c1,c2⟩:=hc
  by_cases hm:M.W w=v
  ·simp only[step,if_pos hm]
   obtain⟨i,h1,h2⟩:=plc_sh lv (sumF x f)
   have hb:=b
   rw[h2]at hb
   have hHd:=c2 hm
   subst hb
   obtain⟨g1,g2,g3⟩:=ki h hI a h1 d e hm hHd
   refine⟨g1,g2,⟨hop,?_⟩,.calm rfl g3⟩
   rw[Nat.add_sub_cancel]
   show upd M.Hd _ m (plc lv (sumF x f))=m
   rw[h2,upd_same]
  ·simp only[step,if_neg hm]
   exact .same hI hop
 | kH f lv w m =>
  obtain⟨z,a,b,d,e,g⟩:=hs
  by_cases hm:M.W w=0
  ·simp only[step,if_pos hm];exact .same hI hc
  ·simp only[step,if_neg hm];exact .same hI (ku hP hI hc.1 ⟨lv,b,d⟩)
 | kL f lv w m =>
  obtain⟨z,a,b,d,e,g⟩:=hs
  obtain⟨hop,hHd⟩:=hc
  by_cases hm:M.W w=0
  ·simp only[step,if_pos hm]
   obtain⟨l,rfl⟩:∃l,lv=l+1:=⟨lv-1,by omega⟩
   obtain⟨i,h1,h2⟩:=plc_sh (l+1) (sumF x f)
   rw[Nat.add_sub_cancel]at g hHd
   have hlow:=sI h2
   have hb:=d
   rw[h2]at hb
   subst hb
   have g:=sO hP h hI (by omega) h1 (by omega) hm (by rw[hlow];exact g) (m:=m) (by rw[hlow];exact hHd)
   rw[Nat.add_sub_cancel_left]
   exact⟨g.1,g.2.1,⟨hop,l+1,b,d⟩,.calm rfl g.2.2⟩
  ·simp only[step,if_neg hm]
   exact .same hI ⟨hop,lv,b,d⟩
 | al f =>
  simp only[step]
  split
  ·exact .same hI (g9 _ _ _)
  ·exact .same hI (oU hc (by unfold Kc;rw[hP.allow];exact Kd.cell hP hc))
 | pk c=>exact .same hI trivial
 | a0 f =>
  simp only[step]
  split
  ·exact .same hI (g9 _ _ _)
  ·exact .same hI hc
 | a1 f u =>
  by_cases hm:M.W 33=u
  ·simp only[step,if_pos hm]
   refine⟨.hi _ (by omega) _ _,hI.hi (by omega) _ _,?_,.calm rfl fun k=>oX h (by omega) _ _ k⟩
   have hk:Kd sm P { x with ser:=u+1 } (M.set 33 (u+1) []) f:=(kM.kd (kM.hi M (by omega) (u+1) []) hs.1 hc).ser (u+1)
   have hcell:idn f.cell=x.pol::x.key:=Kd.cell hP (show Kd sm P x M f from hc)
   exact oU (y:=x) hk (by show idn (P.acq (P.pol x.pol) f.cell (u+1)).2=x.pol::x.key;rw[hP.acq];exact hcell)
  ·simp only[step,if_neg hm];exact .same hI hc
 | p0 f c r =>
  simp only[step]
  split
  ·exact .same hI trivial
  ·exact .same hI hc
 | p1 f c r u =>
  by_cases hm:M.W 32=u
  ·simp only[step,if_pos hm]
   refine⟨.hi _ (by omega) _ _,hI.hi (by omega) _ _,?_,.calm rfl fun k=>oX h (by omega) _ _ k⟩
   exact⟨(kM.kd (kM.hi M (by omega) (u+1) []) hs.1 hc.1).res true,hc.2⟩
  ·simp only[step,if_neg hm];exact .same hI hc
 | pS f c r =>
  obtain⟨⟨a,b,d,e⟩,g,k⟩:=hs
  obtain⟨hk,hid⟩:=hc
  by_cases hm:M.W f.w=f.v
  ·simp only[step,if_pos hm]
   have hHd:=hk.hd hm
   have hwt:=hP.wth f.h x.pol x.key c hk.srt hk.k.1 hid
   have e1:f.at'=(P.fnd f.h x.pol x.key).1:=by rw[hk.fd];rfl
   have e2:f.there=(P.fnd f.h x.pol x.key).2.1:=by rw[hk.fd];rfl
   rw[← e1,← e2]at hwt
   have hlv:0<M.W f.w∧M.W f.w<FZ:=by omega
   obtain⟨lv,hl,hwe⟩:=hk.lv
   have hsum:x.sum=sm (x.pol::x.key):=hk.k.2
   have hhome:bh M.W (sm (x.pol::x.key))=f.w:=by rw[← hsum,hwe];rw[hwe]at hlv;exact aT h hl hlv
   obtain⟨i,h1,h2⟩:=plc_sh lv x.sum
   refine⟨.set (by omega) (by omega),?_,?_,.put f c r rfl hm ?_ fun q=>?_⟩
   ·show Ih sm (M.set f.w (f.v+1) _)
    rw[hwe,h2]
    refine hI.set hl h1 hwt.1 fun y hy=>?_
    have hy2:=hwt.1.look_of hy
    rw[hwt.2]at hy2
    by_cases ey:idn y=x.pol::x.key
    ·rw[ey,← hsum];exact cO.1 h2
    ·rw[if_neg ey]at hy2
     have:=(bc hy2).1
     rw[← hHd,hwe,h2]at this
     exact(hI lv i hl h1).2 y this
   ·show Ch sm P x _ (if _ then _ else _:CS×Rs).1
    split
    ·exact g9 _ _ _
    ·trivial
   ·unfold own;rw[hhome,hHd]
   ·unfold own
    show look (upd M.Hd f.w _ (bh (upd M.W f.w (f.v+1)) (sm q))) q=_
    have hh:bh (upd M.W f.w (f.v+1)) (sm q)=bh M.W (sm q):=by rw[← hm];exact pu h hB.2 ⟨a,b⟩ hlv _
    rw[hh]
    by_cases ew:bh M.W (sm q)=f.w
    ·rw[ew,upd_same,hwt.2,hHd]
    ·rw[upd_ne _ _ ew,if_neg]
     intro e3;subst e3;exact ew hhome
  ·simp only[step,if_neg hm];exact .same hI hk.k (by simp[dC,hm])
 | b0 n k=>exact .same hI trivial
 | b1 n k u =>
  by_cases hm:M.W 32=u
  ·simp only[step,if_pos hm]
   refine⟨.hi _ (by omega) _ _,hI.hi (by omega) _ _,?_,.calm rfl fun k=>oX h (by omega) _ _ k⟩
   show Ch sm P x _ (after n k).1
   cases k with
   | lv r=>trivial
   | ev j sh g=>exact ee _ _ _ _ _
  ·simp only[step,if_neg hm];exact .same hI trivial
 | e0=>exact .same hI trivial
 | eC j sh g w v m =>
  simp only[step]
  split
  ·exact .same hI (ee _ _ _ _ _)
  ·exact .same hI ⟨hc.1,m,M.clk,hc.2.2,hc.2.1,Int.le_refl _,rfl,rfl⟩
 | eS j sh g w v m n =>
  obtain⟨a,b,c,d,e,e',k⟩:=hs
  obtain⟨c1,h0,t,c2,c3,c4,c5,c6⟩:=hc
  by_cases hm:M.W w=v
  ·simp only[step,if_pos hm]
   have hHd:=c3 hm
   have hlv:0<M.W w∧M.W w<FZ:=by omega
   obtain⟨lv,i,hl,h1,h2⟩:=aN ⟨c,d⟩
   have hsr:Srt m:=by rw[c5];exact c2.filter _
   refine⟨.set (by omega) (by omega),?_,trivial,.evict j sh g w v m n rfl hm t c4 (by rw[hHd];exact c5) (by rw[hHd];exact c6) fun q=>?_⟩
   ·show Ih sm (M.set w (v+1) _)
    rw[h2]
    refine hI.set hl h1 hsr fun y hy=>?_
    have hy2:y∈h0:=by rw[c5]at hy;exact(List.mem_filter.1 hy).1
    rw[← hHd,h2]at hy2
    exact(hI lv i hl h1).2 y hy2
   ·unfold own
    show look (upd M.Hd w _ (bh (upd M.W w (v+1)) (sm q))) q=_
    have hh:bh (upd M.W w (v+1)) (sm q)=bh M.W (sm q):=by rw[← hm];exact pu h hB.2 ⟨c,d⟩ hlv _
    rw[hh]
    by_cases ew:bh M.W (sm q)=w
    ·rw[ew,upd_same,if_pos rfl]
    ·rw[upd_ne _ _ ew,if_neg ew]
  ·simp only[step,if_neg hm];exact .same hI (ee _ _ _ _ _) (by simp[dC,hm])
 | s0 =>
  simp only[step]
  split
  ·exact .same hI trivial
  ·split<;>exact .same hI trivial
 | sM lv =>
  by_cases hm:M.W 0=2*lv
  ·simp only[step,if_pos hm]
   exact⟨.set (by omega) (by omega),hI.set0,trivial,.calm rfl fun k=>own_0 (fun s=>gf h hs hm s) k⟩
  ·simp only[step,if_neg hm];exact .same hI trivial
 | sF lv i =>
  refine .same hI ?_
  show Ch sm P x M (if _ then _ else _)
  split
  ·rfl
  ·exact⟨Int.le_refl _,fun _=>rfl⟩
 | sG lv i v m =>
  obtain⟨a,b,d,e,f⟩:=hs
  by_cases hm:M.W (2^lv+i)=v
  ·simp only[step,if_pos hm]
   obtain⟨g1,g2,g3⟩:=ki h hI a b d f hm (hc.2 hm)
   refine⟨g1,g2,?_,.calm rfl g3⟩
   show upd M.Hd _ m _=m
   rw[upd_same]
  ·simp only[step,if_neg hm];exact .same hI trivial
 | sH lv i up m =>
  refine .same hI ?_
  show Ch sm P x M (if _ then _ else _)
  split
  ·exact hc
  ·exact on_ch hc
 | sL lv i up m =>
  obtain⟨a,b,d,e,f,g⟩:=hs
  obtain⟨j,h1,h2,h3⟩:=upW_sh (up:=up) b
  by_cases hm:M.W (upW lv i up)=0
  ·simp only[step,if_pos hm]
   rw[h2]at hm⊢
   rw[Nat.add_sub_cancel_left]
   have g:=sO hP h hI a h1 d hm (by rw[h3];exact f) (m:=m) (by rw[h3];exact hc)
   refine⟨g.1,g.2.1,on_ch ?_,.calm rfl g.2.2⟩
   show upd M.Hd _ _ _=m
   rw[upd_ne _ _ (fun e9=>by have:=b5 b h1 e9;omega)]
   exact hc
  ·simp only[step,if_neg hm];exact .same hI (on_ch hc)
 | sV lv =>
  obtain⟨a,b,d⟩:=hs
  by_cases hm:M.W 0=2*lv+1
  ·simp only[step,if_pos hm]
   exact⟨.set (by omega) (by omega),hI.set0,trivial,.calm rfl fun k=>own_0 (fun s=>lJ hm d s) k⟩
  ·simp only[step,if_neg hm];exact .same hI trivial
end Core
end
section
namespace Core
open Dir (FZ plc upd upW Iw okW dj upd_same upd_ne pow_pos2 plc_sh bB sh_32 sh_16 b5 aN)
open Hm (bh aS)
variable{sm:List Int→Int}{P:Ops}
theorem iN{xs:List Cel}(h:Srt xs){x:Cel}:look xs (idn x)=some x↔x∈xs:=(bC h).trans (and_iff_left rfl)
def lvl(M:Mc):Nat:=(M.W 0/2).toNat
def nxt(P:Ops)(M:Mc)(i j:Nat):List Cel:=if M.W (2^(lvl M+1)+j)=0 then P.cut (M.Hd (2^lvl M+i)) (lvl M+1) j else M.Hd (2^(lvl M+1)+j)
def partL(P:Ops)(M:Mc)(i:Nat):List (List Cel):=if M.W 0%2=0∨M.W (2^lvl M+i)<FZ then[M.Hd (2^lvl M+i)]else[nxt P M i i,nxt P M i (i+2^lvl M)]
def allL(P:Ops)(M:Mc):List (List Cel):=(List.range (2^lvl M)).flatMap (partL P M)
def allE(P:Ops)(M:Mc):List Cel:=(List.range (2^lvl M)).flatMap fun i=>(partL P M i).flatten
theorem allE_eq(P:Ops)(M:Mc):(allL P M).flatten=allE P M:=by
 unfold allL allE
 rw[List.flatMap_def,List.flatMap_def,List.flatten_flatten,List.map_map];rfl
theorem o8{lv:Nat}{s:Int}{j:Nat}(h:s%2^(lv+1)=j):s%2^lv=((j%2^lv:Nat):Int):=by
 have h1:=sI (cO.2 h)
 exact cO.1 h1.symm
theorem so{lv:Nat}{s:Int}{i:Nat}(hi:i<2^lv)(h:s%2^lv=i):s%2^(lv+1)=i∨s%2^(lv+1)=((i+2^lv:Nat):Int):=by
 obtain⟨j,h1,h2⟩:=plc_sh (lv+1) s
 have h3:=cO.1 h2
 have h4:=o8 h3
 rw[h]at h4
 have h5:j<2^lv*2:=by rw[← Nat.pow_succ];exact h1
 have h6:i=j%2^lv:=by omega
 rw[h3]
 by_cases h7:j<2^lv
 ·rw[Nat.mod_eq_of_lt h7]at h6;left;omega
 ·have h8:j%2^lv=j-2^lv:=by rw[Nat.mod_eq_sub_mod (by omega),Nat.mod_eq_of_lt (by omega)]
  right;omega
theorem zi(hP:OpsOk sm P){M:Mc}{B:Int}(h:Iw M.W B)(hI:Ih sm M){i j:Nat}(hl:lvl M≤3)(hi:i<2^lvl M)(hj:j<2^(lvl M+1))(hij:j%2^lvl M=i)(hf:¬(M.W 0%2=0∨M.W (2^lvl M+i)<FZ)) :
  Srt (nxt P M i j)∧(∀e∈nxt P M i j,sm (idn e)%2^(lvl M+1)=(j:Int))∧∀k,sm k%2^(lvl M+1)=(j:Int)→own sm M k=look (nxt P M i j) k:=by
 have h0:=hI (lvl M) i (by omega) hi
 have h1:=hI (lvl M+1) j (by omega) hj
 have hp:∀s:Int,s%2^(lvl M+1)=(j:Int)→plc (lvl M) s=2^lvl M+i∧plc (lvl M+1) s=2^(lvl M+1)+j:=fun s hs=>⟨cO.2 (by rw[o8 hs,hij]),cO.2 hs⟩
 unfold nxt
 by_cases e:M.W (2^(lvl M+1)+j)=0
 ·rw[if_pos e]
  obtain⟨c1,c2,c3⟩:=zD hP h0.1 (lvl M+1) j
  refine⟨c1,c2,fun k hk=>?_⟩
  rw[c3 k hk]
  obtain⟨p1,p2⟩:=hp _ hk
  unfold own bh
  show look (M.Hd (if M.W 0%2=0∨M.W (plc (lvl M) (sm k))<FZ∨M.W (plc (lvl M+1) (sm k))=0 then plc (lvl M) (sm k)else plc (lvl M+1) (sm k))) k=_
  rw[p1,p2,if_pos (.inr (.inr e))]
 ·rw[if_neg e]
  refine⟨h1.1,h1.2,fun k hk=>?_⟩
  obtain⟨p1,p2⟩:=hp _ hk
  unfold own bh
  show look (M.Hd (if M.W 0%2=0∨M.W (plc (lvl M) (sm k))<FZ∨M.W (plc (lvl M+1) (sm k))=0 then plc (lvl M) (sm k)else plc (lvl M+1) (sm k))) k=_
  rw[p1,p2,if_neg (by omega)]
theorem iI(hP:OpsOk sm P){M:Mc}{B:Int}(h:Iw M.W B)(hI:Ih sm M){i:Nat}(hi:i<2^lvl M) :
  (partL P M i).flatten.Pairwise (fun a b=>idn a≠idn b)∧(∀e∈(partL P M i).flatten,sm (idn e)%2^lvl M=(i:Int))∧∀e:Cel,sm (idn e)%2^lvl M=(i:Int)→(e∈(partL P M i).flatten↔own sm M (idn e)=some e):=by
 have hd:=h.d
 have hlv:lvl M≤4:=by unfold lvl;omega
 have h0:=hI (lvl M) i hlv hi
 have pw:∀{l:List Cel},Srt l→l.Pairwise (fun a b=>idn a≠idn b):=fun s=>List.Pairwise.imp (fun {a b} hab e=>by rw[e,aU]at hab;omega) s.lt
 unfold partL
 by_cases e:M.W 0%2=0∨M.W (2^lvl M+i)<FZ
 ·rw[if_pos e]
  rw[show[M.Hd (2^lvl M+i)].flatten=M.Hd (2^lvl M+i)by simp]
  refine⟨pw h0.1,h0.2,fun x hx=>?_⟩
  have hp:plc (lvl M) (sm (idn x))=2^lvl M+i:=cO.2 hx
  unfold own bh
  show _↔look (M.Hd (if M.W 0%2=0∨M.W (plc (lvl M) (sm (idn x)))<FZ∨M.W (plc (lvl M+1) (sm (idn x)))=0 then plc (lvl M) (sm (idn x))else plc (lvl M+1) (sm (idn x)))) (idn x)=_
  rw[hp,if_pos (by rcases e with e|e<;>simp[e]),iN h0.1]
 ·rw[if_neg e]
  have hl3:lvl M≤3:=by unfold lvl;omega
  have hpw:2^(lvl M+1)=2^lvl M*2:=Nat.pow_succ 2 _
  obtain⟨a1,a2,a3⟩:=zi hP h hI hl3 hi (j:=i) (by omega) (Nat.mod_eq_of_lt hi) e
  obtain⟨b1,b2,b3⟩:=zi hP h hI hl3 hi (j:=i+2^lvl M) (by omega) (by rw[Nat.add_mod_right,Nat.mod_eq_of_lt hi]) e
  rw[show[nxt P M i i,nxt P M i (i+2^lvl M)].flatten=nxt P M i i++nxt P M i (i+2^lvl M)by simp]
  refine⟨?_,?_,?_⟩
  ·rw[List.pairwise_append]
   refine⟨pw a1,pw b1,fun x hx y hy e2=>?_⟩
   have g1:=a2 x hx
   have g2:=b2 y hy
   rw[e2,g2]at g1
   have:=pow_pos2 (lvl M)
   omega
  ·intro x hx
   rcases List.mem_append.1 hx with hx|hx
   ·rw[o8 (a2 x hx),Nat.mod_eq_of_lt hi]
   ·rw[o8 (b2 x hx),Nat.add_mod_right,Nat.mod_eq_of_lt hi]
  ·intro x hx
   rw[List.mem_append]
   have hpp:=pow_pos2 (lvl M)
   rcases so hi hx with g|g
   ·rw[a3 _ g,iN a1]
    refine⟨fun hh=>hh.resolve_right fun hh2=>?_,.inl⟩
    have:=b2 x hh2
    rw[g]at this;omega
   ·rw[b3 _ g,iN b1]
    refine⟨fun hh=>hh.resolve_left fun hh2=>?_,.inr⟩
    have:=a2 x hh2
    rw[g]at this;omega
theorem all_ok(hP:OpsOk sm P){M:Mc}{B:Int}(h:Iw M.W B)(hI:Ih sm M):(allE P M).Pairwise (fun a b=>idn a≠idn b)∧∀e:Cel,e∈allE P M↔own sm M (idn e)=some e:=by
 unfold allE
 refine⟨?_,fun e=>?_⟩
 ·rw[List.pairwise_flatMap]
  refine⟨fun i hi=>(iI hP h hI (List.mem_range.1 hi)).1,?_⟩
  refine List.Pairwise.imp_of_mem ?_ (List.pairwise_lt_range (n:=2^lvl M))
  intro i j hi hj hij x hx y hy e
  have g1:=(iI hP h hI (List.mem_range.1 hi)).2.1 x hx
  have g2:=(iI hP h hI (List.mem_range.1 hj)).2.1 y hy
  rw[e,g2]at g1
  omega
 ·rw[List.mem_flatMap]
  obtain⟨i,h1,h2⟩:=plc_sh (lvl M) (sm (idn e))
  have h3:=cO.1 h2
  rw[← (iI hP h hI h1).2.2 e h3]
  constructor
  ·rintro⟨j,hj,hm⟩
   have:=(iI hP h hI (List.mem_range.1 hj)).2.1 e hm
   rw[h3]at this
   have:j=i:=by omega
   subst this;exact hm
  ·exact fun hm=>⟨i,List.mem_range.2 h1,hm⟩
end Core
end
section
namespace Core
open Dir (FZ plc upd upW Iw okW dj upd_same upd_ne pow_pos2 plc_sh bB sh_32 sh_16 b5 aN)
open Hm (bh aS aT)
variable{sm:List Int→Int}{P:Ops}
def ids(P:Ops)(M:Mc):List (List Int):=(allE P M).map idn
theorem ga(P:Ops)(M:Mc):(ids P M).length=(allE P M).length:=List.length_map _
theorem cU(hP:OpsOk sm P){M:Mc}{B:Int}(h:Iw M.W B)(hI:Ih sm M):(ids P M).Nodup:=by
 unfold ids
 rw[List.nodup_iff_pairwise_ne,List.pairwise_map]
 exact(all_ok hP h hI).1
theorem own_idn{M:Mc}{k:List Int}{c:Cel}(h:own sm M k=some c):idn c=k:=(bc h).2
theorem dQ(hP:OpsOk sm P){M:Mc}{B:Int}(h:Iw M.W B)(hI:Ih sm M)(k:List Int):k∈ids P M↔(own sm M k).isSome=true:=by
 unfold ids
 rw[List.mem_map]
 constructor
 ·rintro⟨c,hc,rfl⟩
  rw[((all_ok hP h hI).2 c).1 hc];rfl
 ·intro hk
  cases e:own sm M k with
  | none=>rw[e]at hk;cases hk
  | some c =>
   have:=own_idn e
   exact⟨c,((all_ok hP h hI).2 c).2 (by rw[this];exact e),this⟩
theorem ph(hP:OpsOk sm P){M M':Mc}{B B':Int}(h:Iw M.W B)(hI:Ih sm M)(h':Iw M'.W B')(hI':Ih sm M')(ho:∀k,(own sm M' k).isSome=(own sm M k).isSome):(allE P M').length=(allE P M).length:=by
 rw[← ga,← ga]
 refine((List.perm_ext_iff_of_nodup (cU hP h' hI') (cU hP h hI)).2 fun k=>?_).length_eq
 rw[dQ hP h' hI',dQ hP h hI,ho]
theorem yg(hP:OpsOk sm P){M M':Mc}{B B':Int}(h:Iw M.W B)(hI:Ih sm M)(h':Iw M'.W B')(hI':Ih sm M'){i:List Int}(hn:own sm M i=none)(ho:∀k,(own sm M' k).isSome=true↔k=i∨(own sm M k).isSome=true) :
  (allE P M').length=(allE P M).length+1:=by
 rw[← ga,← ga]
 have hp:(ids P M').Perm (i::ids P M):=(List.perm_ext_iff_of_nodup (cU hP h' hI') (List.nodup_cons.2 ⟨by rw[dQ hP h hI,hn];simp,cU hP h hI⟩)).2 fun k=>by
  rw[dQ hP h' hI',ho,List.mem_cons,dQ hP h hI]
 rw[hp.length_eq];rfl
theorem pE(q:Cel→Bool):∀l:List Cel,(l.filter q).length+(l.filter fun c=>!q c).length=l.length
 | []=>rfl
 | c::l=>by
  have:=pE q l
  cases e:q c<;>simp[e]<;>omega
theorem yh(hP:OpsOk sm P){M M':Mc}{B B':Int}(h:Iw M.W B)(hI:Ih sm M)(h':Iw M'.W B')(hI':Ih sm M'){w:Nat}(hw:1≤w∧w<32)(hv:0<M.W w∧M.W w<FZ)(t:Int)
  (ho:∀k,own sm M' k=if bh M.W (sm k)=w then look (dH P (M.Hd w) t) k else own sm M k) :
  ((allE P M').length:Int)=(allE P M).length-((M.Hd w).length-(dH P (M.Hd w) t).length):=by
 have hs:Srt (M.Hd w):=hI.word hw
 have hr:Srt (dH P (M.Hd w) t):=hs.filter _
 have hG:Srt ((M.Hd w).filter fun c=>P.idle c t):=hs.filter _
 have hhome:∀c∈M.Hd w,bh M.W (sm (idn c))=w:=fun c hc=>by
  obtain⟨lv,i,hl,hi,e⟩:=aN hw
  have h1:=(hI lv i hl hi).2 c (by rw[← e];exact hc)
  have h2:=cO.2 h1
  rw[← e]at h2
  rw[← h2];rw[← h2]at hv
  exact aT h hl hv
 have hown:∀k,bh M.W (sm k)=w→own sm M k=look (M.Hd w) k:=fun k hk=>by unfold own;rw[hk]
 have hgn:(((M.Hd w).filter fun c=>P.idle c t).map idn).Nodup:=by
  rw[List.nodup_iff_pairwise_ne]
  exact hG.ids.imp fun {a b} hab e=>by rw[e,aU]at hab;omega
 have key:(ids P M).Perm (ids P M'++((M.Hd w).filter fun c=>P.idle c t).map idn):=by
  refine(List.perm_ext_iff_of_nodup (cU hP h hI) ?_).2 fun k=>?_
  ·rw[List.nodup_append]
   refine⟨cU hP h' hI',hgn,fun a ha b hb e=>?_⟩
   subst e
   obtain⟨g,hg,e⟩:=List.mem_map.1 hb
   obtain⟨g1,g2⟩:=List.mem_filter.1 hg
   rw[dQ hP h' hI',ho,← e,if_pos (hhome g g1)]at ha
   cases e3:look (dH P (M.Hd w) t) (idn g)with
   | none=>rw[e3]at ha;cases ha
   | some c =>
    obtain⟨m1,m2⟩:=bc e3
    obtain⟨m3,m4⟩:=List.mem_filter.1 m1
    have:=hs.uniq m3 g1 m2
    subst this
    rw[g2]at m4;cases m4
  ·rw [List.mem_append,dQ hP h hI,dQ hP h' hI',ho]
   by_cases e:bh M.W (sm k)=w
   ·rw [if_pos e,hown k e]
    constructor
    ·intro hk
     cases e3:look (M.Hd w) k with
     | none=>rw[e3]at hk;cases hk
     | some c =>
      obtain⟨m1,m2⟩:=bc e3
      by_cases e4:P.idle c t=true
      ·exact .inr (List.mem_map.2 ⟨c,List.mem_filter.2 ⟨m1,e4⟩,m2⟩)
      ·have:c∈dH P (M.Hd w) t:=List.mem_filter.2 ⟨m1,by simpa using e4⟩
       have:=hr.look_of this
       rw[m2]at this
       exact .inl (by rw[this];rfl)
    ·rintro(hk|hk)
     ·cases e3:look (dH P (M.Hd w) t) k with
      | none=>rw[e3]at hk;cases hk
      | some c =>
       obtain⟨m1,m2⟩:=bc e3
       have:=hs.look_of (List.mem_filter.1 m1).1
       rw[m2]at this;rw[this];rfl
     ·obtain⟨c,hc,m2⟩:=List.mem_map.1 hk
      have:=hs.look_of (List.mem_filter.1 hc).1
      rw[m2]at this;rw[this];rfl
   ·rw[if_neg e]
    constructor
    ·exact .inl
    ·rintro(hk|hk)
     ·exact hk
     ·obtain⟨c,hc,m2⟩:=List.mem_map.1 hk
      exact absurd (by rw[← m2];exact hhome c (List.mem_filter.1 hc).1) e
 have hl:=key.length_eq
 rw[Q9,List.length_map,ga,ga]at hl
 have hf:=pE (fun c=>P.idle c t) (M.Hd w)
 have hr2:(dH P (M.Hd w) t).length=((M.Hd w).filter fun c=>!P.idle c t).length:=rfl
 omega
end Core
end
section
namespace Core
open Dir (FZ plc upd upW Iw okW dj upd_same upd_ne pow_pos2 plc_sh sh_32 aN upW_sh)
variable{sm:List Int→Int}{P:Ops}
def owes(x:X):CS→Int
 | .none=>0
 | .b0 n _=>n
 | .b1 n _ _=>n
 | _=>if x.res=true then 1 else 0
def Rf(x:X):Fc→Prop
 | .key=>True
 | .ev _ _ _=>x.res=false
def Rb(x:X):Bk→Prop
 | .lv _=>True
 | .ev _ _ _=>x.res=false
def Rs'(x:X):CS→Prop
 | .k0 f=>Rf x f
 | .kE f _=>Rf x f
 | .kF f _ _=>Rf x f
 | .kG f _ _ _ _=>Rf x f
 | .kH f _ _ _=>Rf x f
 | .kL f _ _ _=>Rf x f
 | .pk _=>x.res=false
 | .a0 _=>x.op=2
 | .a1 _ _=>x.op=2
 | .p0 _ _ _=>x.op=1∨x.op=2
 | .p1 _ _ _ _=>x.op=1∨x.op=2
 | .b0 _ k=>Rb x k
 | .b1 _ k _=>Rb x k
 | .e0=>x.res=false
 | .eC _ _ _ _ _ _=>x.res=false
 | .eS _ _ _ _ _ _ _=>x.res=false
 | .s0=>x.res=false
 | .sM _=>x.res=false
 | .sF _ _=>x.res=false
 | .sG _ _ _ _=>x.res=false
 | .sH _ _ _ _=>x.res=false
 | .sL _ _ _ _=>x.res=false
 | .sV _=>x.res=false
 | _=>True
structure Rx(x:X)(s:CS):Prop where
 op:x.res=true→x.op=1∨x.op=2
 st:Rs' x s
theorem d6{x:X}(r:Rpl):owes x (leave x r).1=if x.res=true then 1 else 0:=by
 unfold leave;split<;>simp[owes]
theorem gR(x y:X)(f:Fd)(c:Cel)(r:Rpl):owes x (put y f c r)=if x.res=true then 1 else 0:=by
 unfold put;split<;>rfl
theorem cJ{x:X}(h:x.res=false)(j sh:Nat)(g:Int):owes x (further j sh g).1=0:=by
 unfold further;split
 ·rfl
 ·simp[owes,h]
theorem om{x:X}{f:Fd}(h:Rx x (.k0 .key)):owes x (foundK P x f).1=if x.res=true then 1 else 0:=by
 have hr:¬x.op=1→¬x.op=2→x.res=false:=fun h1 h2=>by
  cases e:x.res with
  | false=>rfl
  | true=>rcases h.op e with h3|h3<;>contradiction
 unfold foundK
 by_cases h1:x.op=1
 ·rw[if_pos h1];rfl
 rw[if_neg h1]
 by_cases h2:x.op=2
 ·rw[if_pos h2]
  split
  ·exact d6 _
  ·split
   ·exact gR _ _ _ _ _
   ·rfl
 rw[if_neg h2]
 have h3:=hr h1 h2
 split
 ·split
  ·exact gR _ _ _ _ _
  ·simp[owes,h3]
 ·split
  ·simp[owes,h3]
  ·rfl
theorem gH{x:X}{f:Fc}{w:Nat}{v:Int}{h:List Cel}(hr:Rx x (.k0 f)):owes x (entered P x f w v h).1=if x.res=true then 1 else 0:=by
 unfold entered
 split
 ·rfl
 ·unfold found
  cases f with
  | key=>exact om hr
  | ev j sh g =>
   have h0:x.res=false:=hr.st
   dsimp only
   split
   ·rw[cJ h0,h0];rfl
   ·rfl
theorem sj(x:X)(lv i:Nat)(up:Bool)(h:List Cel):owes x (on lv i up h)=if x.res=true then 1 else 0:=by
 unfold on move;split
 ·split<;>rfl
 ·rfl
theorem rE{M:Mc}{x:X}{s:CS}(hs:Cw x M.W s)(hr:Rx x s) :
  (step P M x s).M.W 32=M.W 32+dC M s+owes (step P M x s).x (step P M x s).s-owes x s:=by
 have p32:∀lv,lv≤4→∀s:Int,plc lv s<32:=fun lv hl s=>by obtain⟨i,h1,h2⟩:=plc_sh lv s;rw[h2];exact(sh_32 hl h1).2
 have ne:∀(w:Nat) (v:Int) (h:List Cel),w<32→(M.set w v h).W 32=M.W 32:=fun w v h hw=>upd_ne _ _ (by omega)
 cases s with
 | none=>simp[step,dC,owes]
 | k0 f=>simp only[step,dC];split<;>simp only[owes]<;>omega
 | kE f w =>
  show M.W 32=M.W 32+0+owes x (entered P x f w (M.W w) (M.Hd w)).1-(if x.res=true then 1 else 0)
  rw[gH ⟨hr.op,hr.st⟩];omega
 | kF f lv w=>simp only[step,dC];split<;>simp only[owes,toH]<;>omega
 | kG f lv w v m =>
  simp only[step,dC];split
  ·show(M.set w (v+FZ) m).W 32=_
   rw[ne _ _ _ (by rw[hs.2.2.1];exact p32 _ (by have:=hs.2.1;omega) _)]
   simp only[owes,toH];omega
  ·simp only[owes];omega
 | kH f lv w m =>
  simp only[step,dC];split
  ·simp only[owes];omega
  ·show M.W 32=M.W 32+0+owes x (entered P x f w (M.W w) (M.Hd w)).1-(if x.res=true then 1 else 0)
   rw[gH ⟨hr.op,hr.st⟩];omega
 | kL f lv w m =>
  simp only[step,dC];split
  ·rw[ne _ _ _ (by rw[hs.2.2.2.1];exact p32 _ hs.2.2.1 _)];simp only[owes];omega
  ·simp only[owes];omega
 | al f =>
  simp only[step,dC];split
  ·show M.W 32=M.W 32+0+owes x (leave x _).1-(if x.res=true then 1 else 0)
   rw[d6];omega
  ·show M.W 32=M.W 32+0+owes x (put x _ _ _)-(if x.res=true then 1 else 0)
   rw[gR];omega
 | pk c=>have:x.res=false:=hr.st;simp[step,dC,owes,this]
 | a0 f =>
  simp only[step,dC];split
  ·show M.W 32=M.W 32+0+owes x (leave x _).1-(if x.res=true then 1 else 0)
   rw[d6];omega
  ·simp only[owes];omega
 | a1 f u =>
  simp only[step,dC];split
  ·show upd M.W 33 (u+1) 32=M.W 32+0+owes { x with ser:=u+1 } (put x _ _ _)-(if x.res=true then 1 else 0)
   rw[upd_ne _ _ (by omega),gR];dsimp only;omega
  ·simp only[owes];omega
 | p0 f c r =>
  have:x.res=false:=hs.2.2.1
  simp only[step,dC];split
  ·simp[owes,this]
  ·simp only[owes];omega
 | p1 f c r u =>
  have:x.res=false:=hs.2.2.1
  simp only[step,dC];split
  ·rename_i hm
   show upd M.W 32 (u+1) 32=_
   rw[upd_same,hm];simp[owes,this]
  ·simp only[owes];omega
 | pS f c r =>
  obtain⟨⟨a,b,d,e⟩,g,k⟩:=hs
  simp only[step,dC];split
  ·rename_i hm
   show(M.set f.w (f.v+1) _).W 32=M.W 32+_+owes x (if _ then _ else _:CS×Rs).1-(if x.res=true then 1 else 0)
   rw[ne _ _ _ b]
   cases ht:f.there with
   | true=>rw[if_neg (by simp),if_pos rfl,d6];omega
   | false =>
    have hres:x.res=true:=by rcases k with k|k;rw[ht]at k;cases k;exact k
    rw[if_pos ⟨hm,rfl⟩,if_neg (by simp),hres];simp[owes]
  ·rename_i hm
   rw[if_neg (fun h=>hm h.1)];simp only[owes];omega
 | b0 n k=>simp only[step,dC,owes];omega
 | b1 n k u =>
  simp only[step,dC];split
  ·rename_i hm
   show upd M.W 32 (u-n) 32=M.W 32+0+owes x (after n k).1-n
   rw[upd_same]
   cases k with
   | lv r=>simp only[after,owes];omega
   | ev j sh g=>rw[show(after n (.ev j sh g))=further j sh (g+n)from rfl,cJ hr.st];omega
  ·simp only[owes];omega
 | e0=>show M.W 32=M.W 32+0+(if x.res=true then 1 else 0)-(if x.res=true then 1 else 0);omega
 | eC j sh g w v m =>
  have:x.res=false:=hr.st
  simp only[step,dC];split
  ·show M.W 32=M.W 32+0+owes x (further j sh g).1-(if x.res=true then 1 else 0)
   rw[cJ this,this];simp
  ·simp only[owes];omega
 | eS j sh g w v m n =>
  have:x.res=false:=hr.st
  simp only[step,dC];split
  ·rw[ne _ _ _ hs.2.2.2.1];simp only[owes,this];simp;omega
  ·show M.W 32=M.W 32+0+owes x (further j sh g).1-(if x.res=true then 1 else 0)
   rw[cJ this,this];simp
 | s0 =>
  have:x.res=false:=hr.st
  simp only[step,dC];split
  ·simp only[owes];omega
  ·split
   ·simp[owes,this]
   ·simp only[owes];omega
 | sM lv =>
  simp only[step,dC];split
  ·rw[ne _ _ _ (by omega)];simp only[owes];omega
  ·simp only[owes];omega
 | sF lv i=>simp only[step,dC];split<;>simp only[owes]<;>omega
 | sG lv i v m =>
  simp only[step,dC];split
  ·rw[ne _ _ _ (sh_32 (by have:=hs.1;omega) hs.2.1).2];simp only[owes];omega
  ·simp only[owes];omega
 | sH lv i up m =>
  simp only[step,dC];split
  ·simp only[owes];omega
  ·rw[sj];simp only[owes];omega
 | sL lv i up m =>
  obtain⟨j,h1,h2,h3⟩:=upW_sh (up:=up) hs.2.1
  have hw:=sh_32 (by have:=hs.1;omega:lv+1≤4) h1
  show(if _ then _ else _:Mc).W 32=M.W 32+0+owes x (on lv i up m)-(if x.res=true then 1 else 0)
  rw[sj]
  split
  ·rw[ne _ _ _ (by omega)];omega
  ·omega
 | sV lv =>
  have:x.res=false:=hr.st
  show(if _ then _ else _:Mc).W 32=M.W 32+0+0-(if x.res=true then 1 else 0)
  rw[this]
  split
  ·rw[ne _ _ _ (by omega)];simp
  ·simp
end Core
end
section
namespace Core
open Dir (FZ plc upd upW Iw okW dj upd_same upd_ne pow_pos2 plc_sh sh_32 aN upW_sh)
variable{sm:List Int→Int}{P:Ops}
theorem qd(hP:OpsOk sm P){M:Mc}{B:Int}(h:Iw M.W B)(hB:1≤B∧B+1<FZ){x:X}(hx:0≤x.ser)(h33:0≤M.W 33){s:CS}(hs:Cw x M.W s)(hI:Ih sm M)(hc:Ch sm P x M s) :
  ((allE P (step P M x s).M).length:Int)=(allE P M).length+dC M s:=by
 have he:=gQ hP h hB hs hI hc
 have iw':=(io (P:=P) h hB hx h33 hs).iw
 cases he.own with
 | calm hd ho=>rw[ph hP h hI iw' he.ih fun k=>by rw[ho],hd];omega
 | put f c r e hw h0 ho =>
  subst e
  have hk:Kd sm P x M f:=hc.1
  have ht:f.there=(look f.h (x.pol::x.key)).isSome:=by rw[hk.fd];exact(hP.fnd f.h x.pol x.key hk.srt hk.k.1).1
  rw[← h0]at ht
  cases e2:own sm M (x.pol::x.key)with
  | none =>
   rw[e2]at ht
   rw[yg hP h hI iw' he.ih e2 fun k=>by
    rw[ho];by_cases ek:k=x.pol::x.key
    ·rw[if_pos ek];simp[ek]
    ·rw[if_neg ek];simp[ek]]
   show _=_+(if M.W f.w=f.v∧f.there=false then(1:Int)else 0)
   rw[if_pos ⟨hw,ht⟩];omega
  | some d =>
   rw[e2]at ht
   rw[ph hP h hI iw' he.ih fun k=>by
    rw[ho];by_cases ek:k=x.pol::x.key
    ·rw[if_pos ek,ek,e2];rfl
    ·rw[if_neg ek]]
   show _=_+(if M.W f.w=f.v∧f.there=false then(1:Int)else 0)
   rw[if_neg (by rw[ht];simp)];omega
 | evict j sh g w v m n e hw t ht hm hn ho =>
  subst e
  obtain⟨a,b,c,d,e,e',k⟩:=hs
  rw[yh hP h hI iw' he.ih ⟨c,d⟩ (by omega) t fun k=>by rw[ho,hm]]
  show _=_+(if M.W w=v then -n else(0:Int))
  rw[if_pos hw,hn,← hm];omega
def sumI(n:Nat)(f:Nat→Int):Int :=
 match n with
 | 0=>0
 | n+1=>sumI n f+f n
theorem jK{f g:Nat→Int}:∀{n:Nat},(∀j,j<n→g j=f j)→sumI n g=sumI n f
 | 0,_=>rfl
 | n+1,h=>by simp only[sumI];rw[jK (n:=n) fun j hj=>h j (by omega),h n (by omega)]
theorem kV{f g:Nat→Int}{i:Nat}:∀{n:Nat},i<n→(∀j,j<n→j≠i→g j=f j)→sumI n g=sumI n f+g i-f i
 | 0,h,_=>by omega
 | n+1,h,hh=>by
  simp only[sumI]
  by_cases e:i=n
  ·subst e
   rw[jK (n:=i) fun j hj=>hh j (by omega) (by omega)];omega
  ·rw[kV (n:=n) (by omega) fun j hj hne=>hh j (by omega) hne,hh n (by omega) (fun e'=>e e'.symm)];omega
theorem nL{f:Nat→Int}:∀{n:Nat},(∀j,j<n→0≤f j)→0≤sumI n f
 | 0,_=>Int.le_refl _
 | n+1,h=>by
  have:=nL (n:=n) fun j hj=>h j (by omega)
  have:=h n (by omega)
  simp only[sumI];omega
theorem sg{x:X}{W:Nat→Int}{s:CS}(hs:Cw x W s):0≤owes x s:=by
 cases s with
 | none=>exact Int.le_refl _
 | b0 n k=>have:=hs.1;simp only[owes];omega
 | b1 n k u=>have:=hs.1;simp only[owes];omega
 | _=>simp only[owes];split<;>omega
def Ru(P:Ops):CS→Prop
 | .p1 _ _ _ u=>u≠P.room
 | _=>True
structure All(sm:List Int→Int)(P:Ops)(M:Mc)(S:Nat→Wk)(B:Int):Prop where
 inv:Inv M S B
 ih:Ih sm M
 ch:∀i,Ch sm P (S i).x M (S i).s
 rx:∀i,Rx (S i).x (S i).s
 ru:∀i,Ru P (S i).s
 cnt:M.W 32=(allE P M).length+sumI 64 fun i=>owes (S i).x (S i).s
 room:M.W 32≤P.room
theorem All.ge{M:Mc}{S:Nat→Wk}{B:Int}(h:All sm P M S B):((allE P M).length:Int)≤M.W 32:=by
 have:=nL (f:=fun i=>owes (S i).x (S i).s) (n:=64) fun j _=>sg (h.inv.cw j)
 have:=h.cnt
 omega
end Core
end
section
namespace Core
open Dir (FZ plc upd upW Iw okW dj upd_same upd_ne pow_pos2 plc_sh sh_32 aN upW_sh)
variable{sm:List Int→Int}{P:Ops}
theorem gW{x:X}(h:x.res=true→x.op=1∨x.op=2)(r:Rpl):Rx x (leave x r).1:=by
 unfold leave;split
 ·exact⟨h,trivial⟩
 ·exact⟨h,trivial⟩
theorem oR{x y:X}(h:x.res=true→x.op=1∨x.op=2){f:Fd}(h2:f.there=true∨x.op=1∨x.op=2)(c:Cel)(r:Rpl)(hy:y.res=x.res):Rx x (put y f c r):=by
 unfold put;split
 ·exact⟨h,trivial⟩
 ·rename_i e
  refine⟨h,?_⟩
  rcases h2 with h2|h2
  ·exact absurd (.inl h2) e
  ·exact h2
theorem d9{x:X}(h:x.res=true→x.op=1∨x.op=2)(h0:x.res=false)(j sh:Nat)(g:Int):Rx x (further j sh g).1:=by
 unfold further;split
 ·exact⟨h,trivial⟩
 ·exact⟨h,h0⟩
theorem kn(hP:OpsOk sm P){M:Mc}(hI:Ih sm M){x:X}{f:Fc}(hr:Rx x (.k0 f))(hk:KF sm x f){w:Nat}(hw:∃lv,lv≤4∧w=plc lv (sumF x f)):Rx x (entered P x f w (M.W w) (M.Hd w)).1:=by
 have hsrt:Srt (M.Hd w):=by obtain⟨lv,hl,rfl⟩:=hw;exact hI.word (plc_32 hl _)
 have h:=hr.op
 unfold entered
 split
 ·exact hr
 ·unfold found
  cases f with
  | key =>
   show Rx x (foundK P x (fdOf P x w (M.W w) (M.Hd w))).1
   have hres:¬x.op=1→¬x.op=2→x.res=false:=fun h1 h2=>by
    cases e:x.res with
    | false=>rfl
    | true=>rcases h e with h3|h3<;>contradiction
   have hf:=hP.fnd (M.Hd w) x.pol x.key hsrt (show K sm x from hk).1
   unfold foundK
   by_cases h1:x.op=1
   ·rw[if_pos h1];exact⟨h,trivial⟩
   rw[if_neg h1]
   by_cases h2:x.op=2
   ·rw[if_pos h2]
    split
    ·exact gW h _
    ·split
     ·exact oR h (.inr (.inr h2)) _ _ rfl
     ·exact⟨h,h2⟩
   rw[if_neg h2]
   split
   ·split
    ·rename_i he
     refine oR h (.inl ?_) _ _ rfl
     have h5:=hP.rel0 _ _ _ he
     show(P.fnd (M.Hd w) x.pol x.key).2.1=true
     replace h5:(P.fnd (M.Hd w) x.pol x.key).2.2.held≠[]:=h5
     rw[hf.1]
     rw[hf.2]at h5
     cases e:look (M.Hd w) (x.pol::x.key)with
     | none=>rw[e]at h5;exact absurd rfl h5
     | some d=>rfl
    ·exact⟨h,trivial⟩
   ·split
    ·exact⟨h,trivial⟩
    ·exact⟨h,hres h1 h2⟩
  | ev j sh g =>
   have h0:x.res=false:=hr.st
   dsimp only
   split
   ·exact d9 h h0 _ _ _
   ·exact⟨h,h0⟩
theorem on_rx{x:X}(h:x.res=true→x.op=1∨x.op=2)(h0:x.res=false)(lv i:Nat)(up:Bool)(m:List Cel):Rx x (on lv i up m):=by
 unfold on move;split
 ·split<;>exact⟨h,h0⟩
 ·exact⟨h,h0⟩
theorem step_rx(hP:OpsOk sm P){M:Mc}{x:X}{s:CS}(hs:Cw x M.W s)(hI:Ih sm M)(hc:Ch sm P x M s)(hr:Rx x s):Rx (step P M x s).x (step P M x s).s:=by
 have h:=hr.op
 cases s with
 | none=>exact hr
 | k0 f=>simp only[step];split<;>exact⟨h,hr.st⟩
 | kE f w=>exact kn hP hI ⟨h,hr.st⟩ hc.1 hc.2
 | kF f lv w=>simp only[step];split<;>exact⟨h,hr.st⟩
 | kG f lv w v m=>simp only[step];split<;>exact⟨h,hr.st⟩
 | kH f lv w m =>
  simp only[step];split
  ·exact⟨h,hr.st⟩
  ·exact kn hP hI ⟨h,hr.st⟩ hc.1 ⟨lv,hs.2.2.1,hs.2.2.2.1⟩
 | kL f lv w m=>exact⟨h,hr.st⟩
 | al f =>
  have h1:x.op=1:=hs.2
  simp only[step];split
  ·exact gW h _
  ·exact oR h (.inr (.inl h1)) _ _ rfl
 | pk c=>exact⟨h,trivial⟩
 | a0 f =>
  simp only[step];split
  ·exact gW h _
  ·exact⟨h,hr.st⟩
 | a1 f u =>
  simp only[step];split
  ·have h2:x.op=2:=hr.st
   exact oR (x:={ x with ser:=u+1 }) h (.inr (.inr h2)) _ _ rfl
  ·exact⟨h,hr.st⟩
 | p0 f c r =>
  simp only[step];split
  ·exact⟨h,trivial⟩
  ·exact⟨h,hr.st⟩
 | p1 f c r u =>
  simp only[step];split
  ·exact⟨fun _=>hr.st,trivial⟩
  ·exact⟨h,hr.st⟩
 | pS f c r =>
  simp only[step];split
  ·show Rx x (if _ then _ else _:CS×Rs).1
   split
   ·exact gW h _
   ·exact⟨h,trivial⟩
  ·exact⟨h,trivial⟩
 | b0 n k=>exact⟨h,hr.st⟩
 | b1 n k u =>
  simp only[step];split
  ·show Rx x (after n k).1
   cases k with
   | lv r=>exact⟨h,trivial⟩
   | ev j sh g=>exact d9 h hr.st _ _ _
  ·exact⟨h,hr.st⟩
 | e0=>exact⟨h,hr.st⟩
 | eC j sh g w v m =>
  simp only[step];split
  ·exact d9 h hr.st _ _ _
  ·exact⟨h,hr.st⟩
 | eS j sh g w v m n =>
  simp only[step];split
  ·exact⟨h,hr.st⟩
  ·exact d9 h hr.st _ _ _
 | s0 =>
  simp only[step];split
  ·exact⟨h,hr.st⟩
  ·split
   ·exact⟨h,trivial⟩
   ·exact⟨h,hr.st⟩
 | sM lv=>simp only[step];split<;>exact⟨h,hr.st⟩
 | sF lv i=>simp only[step];split<;>exact⟨h,hr.st⟩
 | sG lv i v m=>simp only[step];split<;>exact⟨h,hr.st⟩
 | sH lv i up m =>
  simp only[step];split
  ·exact⟨h,hr.st⟩
  ·exact on_rx h hr.st _ _ _ _
 | sL lv i up m=>exact on_rx h hr.st _ _ _ _
 | sV lv=>exact⟨h,trivial⟩
theorem gX(x:X)(r:Rpl):Ru P (leave x r).1:=by unfold leave;split<;>trivial
theorem r5(x:X)(f:Fd)(c:Cel)(r:Rpl):Ru P (put x f c r):=by unfold put;split<;>trivial
theorem ea(j sh:Nat)(g:Int):Ru P (further j sh g).1:=by unfold further;split<;>trivial
theorem ko(x:X)(f:Fc)(w:Nat)(v:Int)(h:List Cel):Ru P (entered P x f w v h).1:=by
 unfold entered;split
 ·trivial
 ·unfold found
  cases f with
  | key =>
   show Ru P (foundK P x (fdOf P x w v h)).1
   unfold foundK
   (repeat' split)<;>first|trivial|exact gX _ _|exact r5 _ _ _ _
  | ev j sh g=>dsimp only;split;exact ea _ _ _;trivial
theorem on_ru(lv i:Nat)(up:Bool)(m:List Cel):Ru P (on lv i up m):=by
 unfold on move;(repeat' split)<;>trivial
theorem step_ru{M:Mc}{x:X}{s:CS}(hr:Ru P s):Ru P (Core.step P M x s).s:=by
 cases s with
 | none=>trivial
 | k0 f=>simp only[step];split<;>trivial
 | kE f w=>exact ko _ _ _ _ _
 | kF f lv w=>simp only[step];split<;>trivial
 | kG f lv w v m=>simp only[step];split<;>trivial
 | kH f lv w m=>simp only[step];split;trivial;exact ko _ _ _ _ _
 | kL f lv w m=>trivial
 | al f=>simp only[step];split;exact gX _ _;exact r5 _ _ _ _
 | pk c=>trivial
 | a0 f=>simp only[step];split;exact gX _ _;trivial
 | a1 f u=>simp only[step];split;exact r5 _ _ _ _;trivial
 | p0 f c r =>
  simp only[step];split
  ·trivial
  ·rename_i e;exact e
 | p1 f c r u=>simp only[step];split;trivial;trivial
 | pS f c r =>
  simp only[step];split
  ·show Ru P (if _ then _ else _:CS×Rs).1
   split
   ·exact gX _ _
   ·trivial
  ·trivial
 | b0 n k=>trivial
 | b1 n k u =>
  simp only[step];split
  ·show Ru P (after n k).1
   cases k with
   | lv r=>trivial
   | ev j sh g=>exact ea _ _ _
  ·trivial
 | e0=>trivial
 | eC j sh g w v m=>simp only[step];split;exact ea _ _ _;trivial
 | eS j sh g w v m n=>simp only[step];split;trivial;exact ea _ _ _
 | s0=>simp only[step];split;trivial;split<;>trivial
 | sM lv=>simp only[step];split<;>trivial
 | sF lv i=>simp only[step];split<;>trivial
 | sG lv i v m=>simp only[step];split<;>trivial
 | sH lv i up m=>simp only[step];split;trivial;exact on_ru _ _ _ _
 | sL lv i up m=>exact on_ru _ _ _ _
 | sV lv=>trivial
theorem rD{M:Mc}{B:Int}(h:Iw M.W B)(hB:1≤B∧B+1<FZ){x:X}(hx:0≤x.ser)(h33:0≤M.W 33){s:CS}(hs:Cw x M.W s)(hr:Ru P s)(hm:M.W 32≤P.room):(Core.step P M x s).M.W 32≤P.room:=by
 cases(io (P:=P) h hB hx h33 hs).chg with
 | no h=>rw[h];exact hm
 | d h1 h2=>rw[h1,upd_ne _ _ (by omega)];exact hm
 | fz w h0 h1 h2=>rw[h2,upd_ne _ _ (by omega)];exact hm
 | lay w h0 h1 h2=>rw[h2,upd_ne _ _ (by omega)];exact hm
 | key w h0 h1 h2=>rw[h2,upd_ne _ _ (by omega)];exact hm
 | ser h1 h2=>rw[h2,upd_ne _ _ (by omega)];exact hm
 | cnt y h2 k2 =>
  cases s with
  | p1 f c r u =>
   have hr:u≠P.room:=hr
   simp only[step];split
   ·show upd M.W 32 (u+1) 32≤_
    rw[upd_same];omega
   ·exact hm
  | b1 n k u =>
   have:=hs.1
   simp only[step];split
   ·show upd M.W 32 (u-n) 32≤_
    rw[upd_same];omega
   ·exact hm
  | _=>exact absurd k2 (by simp[kd])
theorem All.step(hP:OpsOk sm P){M:Mc}{S:Nat→Wk}{B:Int}(h:All sm P M S B)(hB:B+1<FZ){i:Nat}(hi:i<64):All sm P (mx P M S i) (nx P M S i) (B+1):=by
 have hI:=h.inv
 have he:=gQ hP hI.iw ⟨hI.b,hB⟩ (hI.cw i) h.ih (h.ch i)
 have hs:=hI.step (P:=P) hB i
 have ho:=rE (P:=P) (hI.cw i) (h.rx i)
 have hcl:=qd hP hI.iw ⟨hI.b,hB⟩ (hI.ser i) hI.c33 (hI.cw i) h.ih (h.ch i)
 have at_:∀{q:Wk→Prop},q ⟨(Core.step P M (S i).x (S i).s).x,(Core.step P M (S i).x (S i).s).s⟩→(∀j,j≠i→q (S j))→∀j,q (nx P M S i j):=fun {q} h1 h2 j=>by
  unfold nx
  by_cases e:j=i
  ·rw[e,upd_same];exact h1
  ·rw[upd_ne _ _ e];exact h2 j e
 have hsum:=kV (f:=fun j=>owes (S j).x (S j).s) (g:=fun j=>owes (nx P M S i j).x (nx P M S i j).s) (i:=i) (n:=64) hi fun j _ hne=>by
  show owes (nx P M S i j).x (nx P M S i j).s=_
  unfold nx;rw[upd_ne _ _ hne]
 have hii:nx P M S i i=⟨(Core.step P M (S i).x (S i).s).x,(Core.step P M (S i).x (S i).s).s⟩:=by unfold nx;rw[upd_same]
 simp only[hii]at hsum
 have hcnt:=h.cnt
 refine⟨hs,he.ih,at_ (q:=fun k=>Ch sm P k.x (mx P M S i) k.s) he.ch fun j _=>he.mono.ch (hI.cw j) (h.ch j),at_ (q:=fun k=>Rx k.x k.s) (step_rx hP (hI.cw i) h.ih (h.ch i) (h.rx i)) fun j _=>h.rx j,at_ (q:=fun k=>Ru P k.s) (step_ru (h.ru i)) fun j _=>h.ru j,?_,rD hI.iw ⟨hI.b,hB⟩ (hI.ser i) hI.c33 (hI.cw i) (h.ru i) h.room⟩
 ·show(Core.step P M (S i).x (S i).s).M.W 32=((allE P (Core.step P M (S i).x (S i).s).M).length:Int)+sumI 64 fun j=>owes (nx P M S i j).x (nx P M S i j).s
  rw[hsum,hcl,ho,hcnt];omega
end Core
end
end Go.Proofs.YtlkccdlgnpkjpaaGreat
