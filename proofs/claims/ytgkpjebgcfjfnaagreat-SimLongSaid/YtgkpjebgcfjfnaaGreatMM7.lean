/- Lemmas of Cp1, Cp2, Cp3, Cp4, Cp5, Cs1, Hm, Pl1, Cq1, Cq2, Cq3. No condition. -/
import Derived.Test.YtgkpjebgcfjfnaaGreatMM6
set_option linter.unusedVariables false
set_option linter.unusedSimpArgs false
set_option linter.unusedSectionVars false
set_option maxHeartbeats 80000000
set_option maxRecDepth 100000
namespace Go.Proofs.YtgkpjebgcfjfnaaGreat
open Go.RowKit
section
namespace Core
open Dir (FZ plc upd upW)
structure X where
 op:Int
 pol:Int
 key:List Int
 n:Int
 sum:Int
 res:Bool
 ser:Int
deriving Inhabited
inductive Fc where
 | key
 | ev (j sh:Nat) (g:Int)
deriving Inhabited
structure Fd where
 w:Nat
 v:Int
 h:List Cel
 at':Nat
 there:Bool
 cell:Cel
deriving Inhabited
inductive Bk where
 | lv (r:Rpl)
 | ev (j sh:Nat) (g:Int)
deriving Inhabited
inductive CS where
 | none
 | k0 (f:Fc)
 | kE (f:Fc) (w:Nat)
 | kF (f:Fc) (lv w:Nat)
 | kG (f:Fc) (lv w:Nat) (v:Int) (h:List Cel)
 | kH (f:Fc) (lv w:Nat) (h:List Cel)
 | kL (f:Fc) (lv w:Nat) (h:List Cel)
 | al (f:Fd)
 | pk (c:Cel)
 | a0 (f:Fd)
 | a1 (f:Fd) (u:Int)
 | p0 (f:Fd) (c:Cel) (r:Rpl)
 | p1 (f:Fd) (c:Cel) (r:Rpl) (u:Int)
 | pS (f:Fd) (c:Cel) (r:Rpl)
 | b0 (n:Int) (k:Bk)
 | b1 (n:Int) (k:Bk) (u:Int)
 | e0
 | eC (j sh:Nat) (g:Int) (w:Nat) (v:Int) (h:List Cel)
 | eS (j sh:Nat) (g:Int) (w:Nat) (v:Int) (m:List Cel) (n:Int)
 | s0
 | sM (lv:Nat)
 | sF (lv i:Nat)
 | sG (lv i:Nat) (v:Int) (h:List Cel)
 | sH (lv i:Nat) (up:Bool) (h:List Cel)
 | sL (lv i:Nat) (up:Bool) (h:List Cel)
 | sV (lv:Nat)
deriving Inhabited
structure Rs where
 done:Bool
 r:Rpl
deriving Inhabited
def z0:Rpl:=⟨0,false,0,0,0,0⟩
def r0:Rs:=⟨false,z0⟩
def er(e:Int):Rpl:=⟨e,false,0,0,0,0⟩
def gn(g:Int):Rpl:=⟨0,false,g,0,0,0⟩
structure Mc where
 W:Nat→Int
 Hd:Nat→List Cel
 clk:Int
def Mc.set(M:Mc)(w:Nat)(v:Int)(h:List Cel):Mc:=⟨upd M.W w v,upd M.Hd w h,M.clk⟩
structure Ops where
 cut:List Cel→Nat→Nat→List Cel
 fnd:List Cel→Int→List Int→Nat×Bool×Cel
 wth:List Cel→Nat→Bool→Cel→List Cel
 allow:Pol→Cel→Int→Int→Rpl×Cel
 acq:Pol→Cel→Int→Rpl×Cel
 rel:Pol→Cel→Int→Rpl×Cel
 peek:Pol→Cel→Int→Rpl
 idle:Cel→Int→Bool
 pol:Int→Pol
 room:Int
abbrev MAX:Int:=4611686018427387903
def sumF(x:X):Fc→Int
 | .key=>x.sum
 | .ev j _ _=>j
def leave(x:X)(r:Rpl):CS×Rs:=if x.res=true then(.b0 1 (.lv r),r0)else(.none,⟨true,r⟩)
def put(x:X)(f:Fd)(c:Cel)(r:Rpl):CS:=if f.there=true∨x.res=true then .pS f c r else .p0 f c r
def further(j sh:Nat)(g:Int):CS×Rs:=if j+1=sh then(.none,⟨true,gn g⟩)else(.k0 (.ev (j+1) sh g),r0)
def after(n:Int):Bk→CS×Rs
 | .lv r=>(.none,⟨true,r⟩)
 | .ev j sh g=>further j sh (g+n)
section
variable(P:Ops)
def fdOf(x:X)(w:Nat)(v:Int)(h:List Cel):Fd:=⟨w,v,h,(P.fnd h x.pol x.key).1,(P.fnd h x.pol x.key).2.1,(P.fnd h x.pol x.key).2.2⟩
def foundK(x:X)(f:Fd):CS×Rs :=
 if x.op=1 then(.al f,r0)
 else if x.op=2 then
  if(f.cell.held.length:Int)=(P.pol x.pol).permits then leave x (er 9)
  else if 0<x.ser then(put x f (P.acq (P.pol x.pol) f.cell x.ser).2 (P.acq (P.pol x.pol) f.cell x.ser).1,r0)
  else(.a0 f,r0)
 else if x.op=3 then
  if(P.rel (P.pol x.pol) f.cell x.n).1.e=0 then(put x f (P.rel (P.pol x.pol) f.cell x.n).2 (P.rel (P.pol x.pol) f.cell x.n).1,r0)
  else(.none,⟨true,(P.rel (P.pol x.pol) f.cell x.n).1⟩)
 else if(P.pol x.pol).kind=2 then(.none,⟨true,P.peek (P.pol x.pol) f.cell 0⟩)
 else(.pk f.cell,r0)
def found(x:X)(w:Nat)(v:Int)(h:List Cel):Fc→CS×Rs
 | .key=>foundK P x (fdOf P x w v h)
 | .ev j sh g=>if h.length=0 then further j sh g else(.eC j sh g w v h,r0)
def entered(x:X)(f:Fc)(w:Nat)(v:Int)(h:List Cel):CS×Rs:=if v=0∨FZ≤v then(.k0 f,r0)else found P x w v h f
def toH(x:X)(f:Fc)(lv:Nat)(h:List Cel):CS:=.kH f (lv+1) (plc (lv+1) (sumF x f)) h
def move(lv i:Nat):CS:=if i=2^lv then .sV lv else .sF lv i
def on(lv i:Nat)(up:Bool)(h:List Cel):CS:=if up then move lv (i+1)else .sH lv i true h
def fY(h:List Cel)(now:Int):List Cel:=h.filter fun c=>!P.idle c now
structure Out where
 M:Mc
 x:X
 s:CS
 r:Rs
def same(M:Mc)(x:X)(p:CS×Rs):Out:=⟨M,x,p.1,p.2⟩
def step(M:Mc)(x:X):CS→Out
 | .none=>⟨M,x,.none,r0⟩
 | .k0 f=>⟨M,x,if M.W 0%2=0 then .kE f (plc (M.W 0/2).toNat (sumF x f))else .kF f (M.W 0/2).toNat (plc (M.W 0/2).toNat (sumF x f)),r0⟩
 | .kE f w=>same M x (entered P x f w (M.W w) (M.Hd w))
 | .kF f lv w=>⟨M,x,if FZ≤M.W w then toH x f lv (M.Hd w)else .kG f lv w (M.W w) (M.Hd w),r0⟩
 | .kG f lv w v h=>if M.W w=v then⟨M.set w (v+FZ) h,x,toH x f lv h,r0⟩else⟨M,x,.kF f lv w,r0⟩
 | .kH f lv w h=>if M.W w=0 then⟨M,x,.kL f lv w h,r0⟩else same M x (entered P x f w (M.W w) (M.Hd w))
 | .kL f lv w h=>⟨if M.W w=0 then M.set w 1 (P.cut h lv (w-2^lv))else M,x,.kE f w,r0⟩
 | .al f =>
  let q:=P.allow (P.pol x.pol) f.cell M.clk x.n
  if q.1.g=false∨x.n=0 then same M x (leave x q.1)else⟨M,x,put x f q.2 q.1,r0⟩
 | .pk c=>⟨M,x,.none,⟨true,P.peek (P.pol x.pol) c M.clk⟩⟩
 | .a0 f=>if M.W 33=MAX then same M x (leave x (er 5))else⟨M,x,.a1 f (M.W 33),r0⟩
 | .a1 f u =>
  if M.W 33=u then
   let q:=P.acq (P.pol x.pol) f.cell (u+1)
   ⟨M.set 33 (u+1) [],{ x with ser:=u+1 },put x f q.2 q.1,r0⟩
  else⟨M,x,.a0 f,r0⟩
 | .p0 f c r=>if M.W 32=P.room then⟨M,x,.none,⟨true,er 10⟩⟩else⟨M,x,.p1 f c r (M.W 32),r0⟩
 | .p1 f c r u=>if M.W 32=u then⟨M.set 32 (u+1) [],{ x with res:=true },.pS f c r,r0⟩else⟨M,x,.p0 f c r,r0⟩
 | .pS f c r =>
  if M.W f.w=f.v then same (M.set f.w (f.v+1) (P.wth f.h f.at' f.there c)) x (if f.there=true then leave x r else(.none,⟨true,r⟩))
  else⟨M,x,.k0 .key,r0⟩
 | .b0 n k=>⟨M,x,.b1 n k (M.W 32),r0⟩
 | .b1 n k u=>if M.W 32=u then same (M.set 32 (u-n) []) x (after n k)else⟨M,x,.b0 n k,r0⟩
 | .e0=>⟨M,x,.k0 (.ev 0 (2^((M.W 0+1)/2).toNat) 0),r0⟩
 | .eC j sh g w v h =>
  if(fY P h M.clk).length=h.length then same M x (further j sh g)
  else⟨M,x,.eS j sh g w v (fY P h M.clk) ((h.length:Int)-(fY P h M.clk).length),r0⟩
 | .eS j sh g w v m n=>if M.W w=v then⟨M.set w (v+1) m,x,.b0 n (.ev j sh g),r0⟩else same M x (further j sh g)
 | .s0=>if M.W 0%2=1 then⟨M,x,.sF (M.W 0/2).toNat 0,r0⟩else if M.W 0/2=4 then⟨M,x,.none,⟨true,er 5⟩⟩else⟨M,x,.sM (M.W 0/2).toNat,r0⟩
 | .sM lv=>if M.W 0=2*lv then⟨M.set 0 (2*lv+1) [],x,.sF lv 0,r0⟩else⟨M,x,.s0,r0⟩
 | .sF lv i=>⟨M,x,if FZ≤M.W (2^lv+i)then .sH lv i false (M.Hd (2^lv+i))else .sG lv i (M.W (2^lv+i)) (M.Hd (2^lv+i)),r0⟩
 | .sG lv i v h=>if M.W (2^lv+i)=v then⟨M.set (2^lv+i) (v+FZ) h,x,.sH lv i false h,r0⟩else⟨M,x,.sF lv i,r0⟩
 | .sH lv i up h=>⟨M,x,if M.W (upW lv i up)=0 then .sL lv i up h else on lv i up h,r0⟩
 | .sL lv i up h=>⟨if M.W (upW lv i up)=0 then M.set (upW lv i up) 1 (P.cut h (lv+1) (upW lv i up-2^(lv+1)))else M,x,on lv i up h,r0⟩
 | .sV lv=>⟨if M.W 0=2*lv+1 then M.set 0 (2*lv+2) []else M,x,.none,⟨true,z0⟩⟩
end
end Core
end
section
namespace Core
open Dir (FZ plc upd upW Iw okW de upd_same upd_ne pow_pos2 plc_sh bh sh_32 sh_16 bQ aK bM lJ ki upW_sh)
theorem iw_hi{W:Nat→Int}{B:Int}(h:Iw W B){w:Nat}(hw:32≤w)(x:Int):Iw (upd W w x) B:=by
 refine⟨by rw[upd_ne _ _ (by omega)];exact h.d,fun lv i hl hi=>?_⟩
 have h1:=sh_32 hl hi
 have h3:de (upd W w x) lv i=de W lv i:=upd_ne _ _ (by
  have h4:2^(lv-1)≤2^3:=Q16 (by omega) (by omega)
  have:=Nat.mod_lt i (pow_pos2 (lv-1));omega)
 rw[upd_ne _ _ (by omega),upd_ne _ _ (by omega),h3]
 exact h.w lv i hl hi
structure Gr(W W':Nat→Int):Prop where
 d:W 0≤W' 0
 fz:∀w,w<32→FZ≤W w→FZ≤W' w
 ne:∀w,w<32→W w≠0→W' w≠0
theorem Gr.refl(W:Nat→Int):Gr W W:=⟨Int.le_refl _,fun _ _ h=>h,fun _ _ h=>h⟩
theorem Gr.of{W W':Nat→Int}(h:Dir.Gr W W'):Gr W W':=⟨h.d,fun w _=>h.fz w,fun w _=>h.ne w⟩
theorem Gr.hi(W:Nat→Int){w:Nat}(hw:32≤w)(x:Int):Gr W (upd W w x) :=
 ⟨by rw[upd_ne _ _ (by omega)];exact Int.le_refl _,fun j hj h=>by rw[upd_ne _ _ (by omega)];exact h,fun j hj h=>by rw[upd_ne _ _ (by omega)];exact h⟩
def gone(W:Nat→Int)(lv i:Nat):Prop:=∀j,j<i→FZ≤W (2^lv+j)∧W (2^(lv+1)+j)≠0∧W (2^(lv+1)+(j+2^lv))≠0
def okFc:Fc→Prop
 | .key=>True
 | .ev j sh _=>j<sh∧sh≤16
def mo(f:Fd):Prop:=1≤f.w∧f.w<32∧0<f.v∧f.v<FZ
def okBk(n:Int):Bk→Prop
 | .lv _=>n=1
 | .ev j sh _=>j<sh∧sh≤16
def okX(x:X):Prop:=x.op=2→x.ser≠0
def Cw(x:X)(W:Nat→Int):CS→Prop
 | .none=>True
 | .k0 f=>okFc f
 | .kE f w=>okFc f∧1≤w∧w<32
 | .kF f lv w=>okFc f∧lv≤3∧w=plc lv (sumF x f)∧2*(lv:Int)+1≤W 0
 | .kG f lv w v _=>okFc f∧lv≤3∧w=plc lv (sumF x f)∧2*(lv:Int)+1≤W 0∧v<FZ
 | .kH f lv w _=>okFc f∧1≤lv∧lv≤4∧w=plc lv (sumF x f)∧2*(lv:Int)-1≤W 0∧FZ≤W (plc (lv-1) (sumF x f))
 | .kL f lv w _=>okFc f∧1≤lv∧lv≤4∧w=plc lv (sumF x f)∧2*(lv:Int)-1≤W 0∧FZ≤W (plc (lv-1) (sumF x f))
 | .al f=>mo f∧x.op=1
 | .pk _=>True
 | .a0 f=>mo f∧x.ser=0
 | .a1 f u=>mo f∧0≤u∧u≠MAX∧x.ser=0
 | .p0 f _ _=>mo f∧f.there=false∧x.res=false∧okX x
 | .p1 f _ _ _=>mo f∧f.there=false∧x.res=false∧okX x
 | .pS f _ _=>mo f∧okX x∧(f.there=true∨x.res=true)
 | .b0 n k=>1≤n∧okBk n k
 | .b1 n k _=>1≤n∧okBk n k
 | .e0=>True
 | .eC j sh _ w v _=>j<sh∧sh≤16∧1≤w∧w<32∧0<v∧v<FZ
 | .eS j sh _ w v _ n=>j<sh∧sh≤16∧1≤w∧w<32∧0<v∧v<FZ∧1≤n
 | .s0=>True
 | .sM lv=>lv≤3
 | .sF lv i=>lv≤3∧i<2^lv∧2*(lv:Int)+1≤W 0∧gone W lv i
 | .sG lv i v _=>lv≤3∧i<2^lv∧2*(lv:Int)+1≤W 0∧gone W lv i∧v<FZ
 | .sH lv i up _=>lv≤3∧i<2^lv∧2*(lv:Int)+1≤W 0∧gone W lv i∧FZ≤W (2^lv+i)∧(up=true→W (2^(lv+1)+i)≠0)
 | .sL lv i up _=>lv≤3∧i<2^lv∧2*(lv:Int)+1≤W 0∧gone W lv i∧FZ≤W (2^lv+i)∧(up=true→W (2^(lv+1)+i)≠0)
 | .sV lv=>lv≤3∧2*(lv:Int)+1≤W 0∧gone W lv (2^lv)
theorem Gr.gone{W W':Nat→Int}(h:Gr W W'){lv i:Nat}(hl:lv≤3)(hi:i≤2^lv)(hg:gone W lv i):gone W' lv i:=fun j hj=>by
 obtain⟨a,b,c⟩:=hg j hj
 have h1:=sh_32 (by omega:lv≤4) (by omega:j<2^lv)
 have hp:=Nat.pow_succ 2 lv
 have h2:=sh_32 (by omega:lv+1≤4) (by omega:j<2^(lv+1))
 have h3:=sh_32 (by omega:lv+1≤4) (by omega:j+2^lv<2^(lv+1))
 exact⟨h.fz _ h1.2 a,h.ne _ h2.2 b,h.ne _ h3.2 c⟩
theorem Gr.cw{x:X}{W W':Nat→Int}(h:Gr W W'){s:CS}(hs:Cw x W s):Cw x W' s:=by
 have hd:=h.d
 have hp:∀lv,lv≤4→∀s:Int,plc lv s<32:=fun lv hl s=>by obtain⟨i,h1,h2⟩:=plc_sh lv s;rw[h2];exact(sh_32 hl h1).2
 have hs1:∀lv i,lv≤3→i<2^lv→2^lv+i<32:=fun lv i a b=>(sh_32 (by omega) b).2
 have hs2:∀lv i,lv≤3→i<2^lv→2^(lv+1)+i<32:=fun lv i a b=>(sh_32 (by omega) (by rw[Nat.pow_succ];omega)).2
 cases s with
 | kF f lv w=>obtain⟨z,a,b,d⟩:=hs;exact⟨z,a,b,by omega⟩
 | kG f lv w v m=>obtain⟨z,a,b,d,e⟩:=hs;exact⟨z,a,b,by omega,e⟩
 | kH f lv w m=>obtain⟨z,a,b,d,e,g⟩:=hs;exact⟨z,a,b,d,by omega,h.fz _ (hp _ (by omega) _) g⟩
 | kL f lv w m=>obtain⟨z,a,b,d,e,g⟩:=hs;exact⟨z,a,b,d,by omega,h.fz _ (hp _ (by omega) _) g⟩
 | sF lv i=>obtain⟨a,b,d,e⟩:=hs;exact⟨a,b,by omega,h.gone a (by omega) e⟩
 | sG lv i v m=>obtain⟨a,b,d,e,f⟩:=hs;exact⟨a,b,by omega,h.gone a (by omega) e,f⟩
 | sH lv i up m=>obtain⟨a,b,d,e,f,g⟩:=hs;exact⟨a,b,by omega,h.gone a (by omega) e,h.fz _ (hs1 _ _ a b) f,fun hu=>h.ne _ (hs2 _ _ a b) (g hu)⟩
 | sL lv i up m=>obtain⟨a,b,d,e,f,g⟩:=hs;exact⟨a,b,by omega,h.gone a (by omega) e,h.fz _ (hs1 _ _ a b) f,fun hu=>h.ne _ (hs2 _ _ a b) (g hu)⟩
 | sV lv=>obtain⟨a,b,d⟩:=hs;exact⟨a,by omega,h.gone a (by omega) d⟩
 | _=>exact hs
def kd:CS→Nat
 | .pS _ _ _=>1
 | .eS _ _ _ _ _ _ _=>1
 | .p1 _ _ _ _=>2
 | .b1 _ _ _=>2
 | .a1 _ _=>3
 | _=>0
inductive Chg(W W':Nat→Int)(s:CS):Prop
 | no (h:W'=W)
 | d (h1:W'=upd W 0 (W 0+1)) (h2:W 0<8)
 | fz (w:Nat) (h0:1≤w∧w<16) (h1:0<W w∧W w<FZ) (h2:W'=upd W w (W w+FZ))
 | lay (w:Nat) (h0:1≤w∧w<32) (h1:W w=0) (h2:W'=upd W w 1)
 | key (w:Nat) (h0:1≤w∧w<32) (h1:0<W w∧W w<FZ) (h2:W'=upd W w (W w+1)) (hs:kd s=1)
 | cnt (y:Int) (h2:W'=upd W 32 y) (hs:kd s=2)
 | ser (h1:W 33≠MAX) (h2:W'=upd W 33 (W 33+1)) (hs:kd s=3)
structure cC(x':X)(W:Nat→Int)(B:Int)(M':Mc)(s s':CS):Prop where
 iw:Iw M'.W (B+1)
 cw:Cw x' M'.W s'
 gr:Gr W M'.W
 chg:Chg W M'.W s
theorem cC.same{M:Mc}{x':X}{B:Int}{s s':CS}(h:Iw M.W B)(hc:Cw x' M.W s'):cC x' M.W B M s s':=⟨h.mono (by omega),hc,.refl _,.no rfl⟩
theorem gy(x:X)(W:Nat→Int)(r:Rpl):Cw x W (leave x r).1:=by
 unfold leave;split
 ·exact⟨by omega,rfl⟩
 ·trivial
theorem nL{x:X}{W:Nat→Int}{f:Fd}{c:Cel}{r:Rpl}(hf:mo f)(hx:okX x):Cw x W (put x f c r):=by
 unfold put;split
 ·rename_i h;exact⟨hf,hx,h⟩
 ·rename_i h
  refine⟨hf,?_,?_,hx⟩
  ·cases e:f.there with
   | true=>exact absurd (.inl e) h
   | false=>rfl
  ·cases e:x.res with
   | true=>exact absurd (.inr e) h
   | false=>rfl
theorem dL{x:X}{W:Nat→Int}{j sh:Nat}{g:Int}(h:j<sh∧sh≤16):Cw x W (further j sh g).1:=by
 unfold further;split
 ·trivial
 ·exact⟨by omega,h.2⟩
theorem xa{x:X}{W:Nat→Int}{n:Int}{k:Bk}(h:okBk n k):Cw x W (after n k).1:=by
 cases k with
 | lv r=>trivial
 | ev j sh g=>exact dL h
theorem rN{P:Ops}{x:X}{W:Nat→Int}{f:Fd}(hf:mo f)(hser:0≤x.ser):Cw x W (foundK P x f).1:=by
 unfold foundK
 by_cases h1:x.op=1
 ·rw[if_pos h1];exact⟨hf,h1⟩
 rw[if_neg h1]
 by_cases h2:x.op=2
 ·rw[if_pos h2]
  split
  ·exact gy _ _ _
  ·split
   ·exact nL hf fun _=>by omega
   ·exact⟨hf,by omega⟩
 rw[if_neg h2]
 split
 ·split
  ·exact nL hf fun h=>absurd h h2
  ·trivial
 ·split<;>trivial
theorem cH{P:Ops}{x:X}{W:Nat→Int}{f:Fc}{w:Nat}{v:Int}{h:List Cel}(hf:okFc f)(hw:1≤w∧w<32)(hv:0≤v)(hser:0≤x.ser):Cw x W (entered P x f w v h).1:=by
 unfold entered
 split
 ·exact hf
 ·unfold found
  cases f with
  | key=>exact rN ⟨hw.1,hw.2,by show 0<v;omega,by show v<FZ;omega⟩ hser
  | ev j sh g =>
   dsimp only
   split
   ·exact dL hf
   ·exact⟨hf.1,hf.2,hw.1,hw.2,by omega,by omega⟩
theorem mM{x:X}{W:Nat→Int}{lv i:Nat}(hl:lv≤3)(hi:i<2^lv)(hd:2*(lv:Int)+1≤W 0)(hg:gone W lv (i+1)):Cw x W (move lv (i+1)):=by
 unfold move
 split
 ·rename_i e;rw[e]at hg;exact⟨hl,hd,hg⟩
 ·exact⟨hl,by omega,hd,hg⟩
theorem ip{W:Nat→Int}{lv i:Nat}(h:gone W lv i)(h1:FZ≤W (2^lv+i))(h2:W (2^(lv+1)+i)≠0)(h3:W (2^(lv+1)+(i+2^lv))≠0):gone W lv (i+1):=fun j hj=>by
 by_cases e:j=i
 ·subst e;exact⟨h1,h2,h3⟩
 ·exact h j (by omega)
theorem mL{x:X}{W:Nat→Int}{lv i:Nat}{up:Bool}{h:List Cel}(hl:lv≤3)(hi:i<2^lv)(hd:2*(lv:Int)+1≤W 0)(hg:gone W lv i)(hf:FZ≤W (2^lv+i))
  (hu:up=true→W (2^(lv+1)+i)≠0) (hn:W (upW lv i up)≠0):Cw x W (on lv i up h):=by
 unfold on
 cases up with
 | true =>
  refine mM hl hi hd (ip hg hf (hu rfl) ?_)
  simpa[upW]using hn
 | false=>exact⟨hl,hi,hd,hg,hf,fun _=>by simpa[upW]using hn⟩
theorem cN{P:Ops}{M:Mc}{B:Int}(h:Iw M.W B)(hB:1≤B∧B+1<FZ){x:X}(hx:0≤x.ser)(h33:0≤M.W 33){s:CS}(hs:Cw x M.W s) :
  cC (step P M x s).x M.W B (step P M x s).M s (step P M x s).s:=by
 have hF:FZ=4611686018427387904:=rfl
 have hd:=h.d
 cases s with
 | none=>exact .same h trivial
 | k0 f =>
  have hk:(M.W 0/2).toNat≤4:=by omega
  obtain⟨i,h1,h2⟩:=plc_sh (M.W 0/2).toNat (sumF x f)
  have:=sh_32 hk h1
  refine .same h ?_
  show Cw x M.W (if _ then _ else _)
  split
  ·rw[h2];exact⟨hs,this⟩
  ·exact⟨hs,by omega,rfl,by omega⟩
 | kE f w =>
  obtain⟨lv,i,hl,hi,rfl⟩:=aK hs.2
  have:=h.sh hl hi
  exact .same h (cH hs.1 hs.2 (by unfold okW at this;omega) hx)
 | kF f lv w =>
  obtain⟨z,a,b,d⟩:=hs
  refine .same h ?_
  show Cw x M.W (if _ then _ else _)
  split
  ·exact⟨z,by omega,by omega,rfl,by omega,by rw[Nat.add_sub_cancel,← b];assumption⟩
  ·exact⟨z,a,b,d,by omega⟩
 | kG f lv w v m =>
  obtain⟨z,a,b,d,e⟩:=hs
  obtain⟨i,h1,h2⟩:=plc_sh lv (sumF x f)
  by_cases hm:M.W w=v
  ·have hb:=b
   rw[h2]at hb
   subst hb
   obtain⟨g1,g2,g3⟩:=bM h a h1 d e hm
   have g4:Dir.Gr M.W (upd M.W (2^lv+i) (v+FZ)):=.set (fun e0=>by have:=sh_16 a h1;omega) (fun _=>by omega) (fun _=>by omega)
   simp only[step,if_pos hm]
   have hd2:=g4.d
   refine⟨g3.mono (by omega),⟨z,by omega,by omega,rfl,?_,?_⟩,.of g4,.fz _ (sh_16 a h1) (by omega) (by rw[hm];rfl)⟩
   ·show _≤upd M.W _ _ 0;omega
   ·rw[Nat.add_sub_cancel,h2];show FZ≤upd M.W _ _ _;rw[upd_same];omega
  ·simp only[step,if_neg hm]
   exact .same h ⟨z,a,b,d⟩
 | kH f lv w m =>
  obtain⟨z,a,b,d,e,g⟩:=hs
  obtain⟨i,h1,h2⟩:=plc_sh lv (sumF x f)
  have hw:=sh_32 b h1
  rw[← h2,← d]at hw
  have ho:=h.sh b h1
  rw[← h2,← d]at ho
  by_cases hm:M.W w=0
  ·simp only[step,if_pos hm];exact .same h ⟨z,a,b,d,e,g⟩
  ·simp only[step,if_neg hm];exact .same h (cH z hw (by unfold okW at ho;omega) hx)
 | kL f lv w m =>
  obtain⟨z,a,b,d,e,g⟩:=hs
  obtain⟨i,h1,h2⟩:=plc_sh lv (sumF x f)
  have hw:=sh_32 b h1
  have hlow:FZ≤de M.W lv i:=by
   have h3:=bh (lv-1) (sumF x f)
   rw[Nat.sub_add_cancel a,h2,Nat.add_sub_cancel_left]at h3
   unfold de;rw[h3];exact g
  rw[h2]at d
  subst d
  by_cases hm:M.W (2^lv+i)=0
  ·simp only[step,if_pos hm]
   refine⟨(lJ h hB.1 a b h1 e hlow hm).mono (by omega),⟨z,hw⟩,.of (.set (fun e0=>by omega) (fun _=>by omega) (fun _=>by omega)),.lay _ hw hm rfl⟩
  ·simp only[step,if_neg hm];exact .same h ⟨z,hw⟩
 | al f =>
  simp only[step]
  split
  ·exact .same h (gy _ _ _)
  ·exact .same h (nL hs.1 fun e=>absurd ((show x.op=1 from hs.2).symm.trans e) (by decide))
 | pk c=>exact .same h trivial
 | a0 f =>
  simp only[step]
  split
  ·exact .same h (gy _ _ _)
  ·rename_i hm;exact .same h ⟨hs.1,h33,hm,hs.2⟩
 | a1 f u =>
  obtain⟨a,b,c,e⟩:=hs
  by_cases hm:M.W 33=u
  ·simp only[step,if_pos hm]
   subst hm
   exact⟨(iw_hi h (by omega) _).mono (by omega),nL a fun _=>by show M.W 33+1≠0;omega,Gr.hi _ (by omega) _,.ser c rfl rfl⟩
  ·simp only[step,if_neg hm];exact .same h ⟨a,e⟩
 | p0 f c r =>
  simp only[step]
  split
  ·exact .same h trivial
  ·exact .same h hs
 | p1 f c r u =>
  obtain⟨a,b,e,g⟩:=hs
  by_cases hm:M.W 32=u
  ·simp only[step,if_pos hm]
   exact⟨(iw_hi h (by omega) _).mono (by omega),⟨a,g,.inr rfl⟩,Gr.hi _ (by omega) _,.cnt _ rfl rfl⟩
  ·simp only[step,if_neg hm];exact .same h ⟨a,b,e,g⟩
 | pS f c r =>
  obtain⟨⟨a,b,d,e⟩,g,k⟩:=hs
  by_cases hm:M.W f.w=f.v
  ·simp only[step,if_pos hm]
   have d':0<M.W f.w:=by omega
   have e':M.W f.w<FZ:=by omega
   refine⟨?_,?_,.of ?_,?_⟩
   ·show Iw (upd M.W f.w (f.v+1)) (B+1);rw[← hm];exact ki h ⟨a,b⟩ hB.2 ⟨d',e'⟩
   ·show Cw x _ (if _ then _ else _:CS×Rs).1;split
    ·exact gy _ _ _
    ·trivial
   ·show Dir.Gr M.W (upd M.W f.w (f.v+1));exact .set (fun e0=>by omega) (fun _=>by omega) (fun _=>by omega)
   ·exact .key f.w ⟨a,b⟩ ⟨d',e'⟩ (by rw[hm];rfl) rfl
  ·simp only[step,if_neg hm];exact .same h trivial
 | b0 n k=>exact .same h hs
 | b1 n k u =>
  by_cases hm:M.W 32=u
  ·simp only[step,if_pos hm]
   exact⟨(iw_hi h (by omega) _).mono (by omega),xa hs.2,Gr.hi _ (by omega) _,.cnt _ rfl rfl⟩
  ·simp only[step,if_neg hm];exact .same h hs
 | e0 =>
  have hk:((M.W 0+1)/2).toNat≤4:=by omega
  have:2^((M.W 0+1)/2).toNat≤2^4:=Q16 (by omega) hk
  exact .same h ⟨pow_pos2 _,this⟩
 | eC j sh g w v m =>
  obtain⟨a,b,c⟩:=hs
  simp only[step]
  split
  ·exact .same h (dL ⟨a,b⟩)
  ·rename_i hm
   have hl:(fY P m M.clk).length≤m.length:=List.length_filter_le _ _
   exact .same h ⟨a,b,c.1,c.2.1,c.2.2.1,c.2.2.2,by omega⟩
 | eS j sh g w v m n =>
  obtain⟨a,b,c,d,e,e',k⟩:=hs
  by_cases hm:M.W w=v
  ·simp only[step,if_pos hm]
   have h1:0<M.W w:=by omega
   have h2:M.W w<FZ:=by omega
   refine⟨?_,⟨k,a,b⟩,.of ?_,?_⟩
   ·show Iw (upd M.W w (v+1)) (B+1);rw[← hm];exact ki h ⟨c,d⟩ hB.2 ⟨h1,h2⟩
   ·show Dir.Gr M.W (upd M.W w (v+1));exact .set (fun e0=>by omega) (fun _=>by omega) (fun _=>by omega)
   ·exact .key w ⟨c,d⟩ ⟨h1,h2⟩ (by rw[hm];rfl) rfl
  ·simp only[step,if_neg hm];exact .same h (dL ⟨a,b⟩)
 | s0 =>
  by_cases h1:M.W 0%2=1
  ·simp only[step,if_pos h1]
   exact .same h ⟨by omega,pow_pos2 _,by omega,fun j hj=>by omega⟩
  ·by_cases h2:M.W 0/2=4
   ·simp only[step,if_neg h1,if_pos h2];exact .same h trivial
   ·simp only[step,if_neg h1,if_neg h2]
    refine .same h ?_
    show _≤_
    omega
 | sM lv =>
  by_cases hm:M.W 0=2*lv
  ·simp only[step,if_pos hm]
   have hl:lv≤3:=hs
   have g:=h.begin hl hm
   have h2:(M.set 0 (2*lv+1) []).W 0=2*lv+1:=by simp[Mc.set,upd]
   refine⟨g.mono (by omega),⟨hl,pow_pos2 _,by omega,fun j hj=>by omega⟩,.of (.set (fun _=>by omega) (fun _=>by omega) (fun _=>by omega)),.d ?_ (by omega)⟩
   rw[hm];rfl
  ·simp only[step,if_neg hm];exact .same h trivial
 | sF lv i =>
  obtain⟨a,b,d,e⟩:=hs
  refine .same h ?_
  show Cw x M.W (if _ then _ else _)
  split
  ·exact⟨a,b,d,e,by assumption,fun hf=>by simp at hf⟩
  ·exact⟨a,b,d,e,by omega⟩
 | sG lv i v m =>
  obtain⟨a,b,d,e,f⟩:=hs
  by_cases hm:M.W (2^lv+i)=v
  ·obtain⟨g1,g2,g3⟩:=bM h a b d f hm
   have g4:Dir.Gr M.W (upd M.W (2^lv+i) (v+FZ)):=.set (fun e0=>by have:=sh_16 a b;omega) (fun _=>by omega) (fun _=>by omega)
   simp only[step,if_pos hm]
   have hd2:=g4.d
   exact⟨g3.mono (by omega),⟨a,b,by show _≤upd M.W _ _ 0;omega,(Gr.of g4).gone a (by omega) e,by show FZ≤upd M.W _ _ _;rw[upd_same];omega,fun hf=>by simp at hf⟩,.of g4,.fz _ (sh_16 a b) (by omega) (by rw[hm];rfl)⟩
  ·simp only[step,if_neg hm];exact .same h ⟨a,b,d,e⟩
 | sH lv i up m =>
  obtain⟨a,b,d,e,f,g⟩:=hs
  refine .same h ?_
  show Cw x M.W (if _ then _ else _)
  split
  ·exact⟨a,b,d,e,f,g⟩
  ·exact mL a b d e f g (by assumption)
 | sL lv i up m =>
  obtain⟨a,b,d,e,f,g⟩:=hs
  obtain⟨j,h1,h2,h3⟩:=upW_sh (up:=up) b
  have hw:=sh_32 (by omega:lv+1≤4) h1
  by_cases hm:M.W (upW lv i up)=0
  ·simp only[step,if_pos hm]
   have hlow:FZ≤de M.W (lv+1) j:=by unfold de;rw[Nat.add_sub_cancel,h3];exact f
   have g4:Dir.Gr M.W (upd M.W (upW lv i up) 1):=.set (fun e0=>by omega) (fun _=>by omega) (fun _=>by omega)
   have hd2:=g4.d
   refine⟨?_,mL a b (by show _≤upd M.W _ _ 0;omega) ((Gr.of g4).gone a (by omega) e) (g4.fz _ f) (fun hu=>g4.ne _ (g hu)) (by show upd M.W _ _ _≠0;rw[upd_same];omega),.of g4,.lay _ (by omega) hm rfl⟩
   have:=lJ h hB.1 (by omega:1≤lv+1) (by omega) h1 (by omega) hlow (by rw[← h2];exact hm)
   rw[← h2]at this
   exact this.mono (by omega)
  ·simp only[step,if_neg hm];exact .same h (mL a b d e f g hm)
 | sV lv =>
  obtain⟨a,b,d⟩:=hs
  by_cases hm:M.W 0=2*lv+1
  ·simp only[step,if_pos hm]
   refine⟨(h.fin a hm d).mono (by omega),trivial,.of (.set (fun _=>by omega) (fun _=>by omega) (fun _=>by omega)),.d ?_ (by omega)⟩
   rw[hm];show upd M.W 0 _=upd M.W 0 _;congr 1
  ·simp only[step,if_neg hm];exact .same h trivial
end Core
end
section
namespace Core
open Dir (FZ plc upd upW Iw okW de upd_same upd_ne pow_pos2 plc_sh bh sh_32 sh_16 bQ aK)
def A(x:X):Fc→Nat
 | .key=>if x.op=2∧x.ser=0 then 5 else 4
 | .ev _ _ _=>4
def rst:Fc→Nat
 | .key=>0
 | .ev j sh _=>10*(sh-1-j)
def TH(a:Nat)(v:Int):Nat:=if v=0 then 3+a else if v<FZ then 1+a else 7+a
def TF(a:Nat)(v y:Int):Nat:=TH a y+if v<FZ then 2 else 1
def TE(a:Nat)(v:Int):Nat:=if v≠0∧v<FZ then 1+a else 7+a
def st(W:Nat→Int)(f:Fd):Nat:=if W f.w=f.v then 0 else 10
def U(lv i:Nat):Nat:=6*(2^lv-i)+1
def Tk:Bk→Nat
 | .lv _=>0
 | .ev j sh _=>10*(sh-1-j)
def T(x:X)(W:Nat→Int):CS→Nat
 | .none=>0
 | .k0 f=>(if W 0%2=0 then 2+A x f else 6+A x f)+rst f
 | .kE f w=>TE (A x f) (W w)+rst f
 | .kF f lv w=>TF (A x f) (W w) (W (plc (lv+1) (sumF x f)))+rst f
 | .kG f lv w v _=>(if W w=v then 1+TH (A x f) (W (plc (lv+1) (sumF x f)))else 1+TF (A x f) (W w) (W (plc (lv+1) (sumF x f))))+rst f
 | .kH f _ w _=>TH (A x f) (W w)+rst f
 | .kL f _ w _=>1+(if W w=0 then 1+A x f else TE (A x f) (W w))+rst f
 | .al f=>4+st W f
 | .pk _=>1
 | .a0 f=>5+st W f
 | .a1 f u=>(if W 33=u then 4 else 6)+st W f
 | .p0 f _ _=>3+st W f
 | .p1 f _ _ u=>(if W 32=u then 2 else 4)+st W f
 | .pS f _ _=>(if f.there=true then 3 else 1)+st W f
 | .b0 _ k=>2+Tk k
 | .b1 _ k u=>(if W 32=u then 1 else 3)+Tk k
 | .e0=>161
 | .eC j sh _ _ _ _=>4+10*(sh-1-j)
 | .eS j sh _ _ _ _ _=>3+10*(sh-1-j)
 | .s0=>52
 | .sM lv=>if W 0=2*lv then 51 else 53
 | .sF lv i=>U lv i
 | .sG lv i v _=>if W (2^lv+i)=v then U lv i-1 else U lv i+1
 | .sH lv i up _=>U lv i-(if up then 4 else 2)
 | .sL lv i up _=>U lv i-(if up then 5 else 3)
 | .sV _=>1
theorem U_le{lv i:Nat}(h:lv≤3):U lv i≤49:=by
 have:2^lv≤2^3:=Q16 (by omega) h
 unfold U;omega
theorem fb{lv i:Nat}(hi:i<2^lv):U lv i=U lv (i+1)+6∧1≤U lv (i+1):=by unfold U;omega
theorem sU(x:X)(f:Fc):4≤A x f∧A x f≤5:=by
 cases f<;>simp only[A]<;>(try split)<;>omega
theorem TH_le(a:Nat)(v:Int):TH a v≤7+a:=by unfold TH;split<;>(try split)<;>omega
theorem TE_le(a:Nat)(v:Int):TE a v≤7+a:=by unfold TE;split<;>omega
theorem TF_le(a:Nat)(v y:Int):TF a v y≤9+a:=by have:=TH_le a y;unfold TF;split<;>omega
theorem oW(W:Nat→Int)(f:Fd):st W f≤10:=by unfold st;split<;>omega
theorem ja{f:Fc}(h:okFc f):rst f≤150:=by
 cases f with
 | key=>simp[rst]
 | ev j sh g=>obtain⟨a,b⟩:=h;simp only[rst];omega
theorem T_le{x:X}{W:Nat→Int}{s:CS}(hs:Cw x W s):T x W s≤165:=by
 cases s with
 | none=>simp[T]
 | k0 f=>have:=sU x f;have:=ja hs;simp only[T];split<;>omega
 | kE f w=>have:=sU x f;have:=ja hs.1;have:=TE_le (A x f) (W w);simp only[T];omega
 | kF f lv w=>have:=sU x f;have:=ja hs.1;have:=TF_le (A x f) (W w) (W (plc (lv+1) (sumF x f)));simp only[T];omega
 | kG f lv w v m=>have:=sU x f;have:=ja hs.1;have:=TF_le (A x f) (W w) (W (plc (lv+1) (sumF x f)));have:=TH_le (A x f) (W (plc (lv+1) (sumF x f)));simp only[T];split<;>omega
 | kH f lv w m=>have:=sU x f;have:=ja hs.1;have:=TH_le (A x f) (W w);simp only[T];omega
 | kL f lv w m=>have:=sU x f;have:=ja hs.1;have:=TE_le (A x f) (W w);simp only[T];split<;>omega
 | al f=>have:=oW W f;simp only[T];omega
 | pk c=>simp[T]
 | a0 f=>have:=oW W f;simp only[T];omega
 | a1 f u=>have:=oW W f;simp only[T];split<;>omega
 | p0 f c r=>have:=oW W f;simp only[T];omega
 | p1 f c r u=>have:=oW W f;simp only[T];split<;>omega
 | pS f c r=>have:=oW W f;simp only[T];split<;>omega
 | b0 n k =>
  cases k with
  | lv r=>simp[T,Tk]
  | ev j sh g=>obtain⟨-,a,b⟩:=hs;simp only[T,Tk];omega
 | b1 n k u =>
  cases k with
  | lv r=>simp only[T,Tk];split<;>omega
  | ev j sh g=>obtain⟨-,a,b⟩:=hs;simp only[T,Tk];split<;>omega
 | e0=>simp[T]
 | eC j sh g w v m=>obtain⟨a,b,-⟩:=hs;simp only[T];omega
 | eS j sh g w v m n=>obtain⟨a,b,-⟩:=hs;simp only[T];omega
 | s0=>simp[T]
 | sM lv=>simp only[T];split<;>omega
 | sF lv i=>have:=U_le (i:=i) hs.1;simp only[T];omega
 | sG lv i v m=>have:=U_le (i:=i) hs.1;simp only[T];split<;>omega
 | sH lv i up m=>have:=U_le (i:=i) hs.1;simp only[T];split<;>omega
 | sL lv i up m=>have:=U_le (i:=i) hs.1;simp only[T];split<;>omega
 | sV lv=>simp[T]
theorem km(x:X)(W:Nat→Int)(r:Rpl):T x W (leave x r).1≤2:=by
 unfold leave;split<;>simp[T,Tk]
theorem v9(x' x:X)(W:Nat→Int)(f:Fd)(c:Cel)(r:Rpl):T x' W (put x f c r)≤3+st W f:=by
 unfold put;split
 ·simp only[T];split<;>omega
 ·simp only[T];omega
theorem eJ(x:X)(W:Nat→Int){j sh:Nat}(g:Int)(h:j<sh):T x W (further j sh g).1≤10*(sh-1-j):=by
 unfold further
 by_cases e:j+1=sh
 ·rw[if_pos e];simp[T]
 ·rw[if_neg e];simp only[T,A,rst];split<;>omega
theorem after_T(x:X)(W:Nat→Int){n:Int}{k:Bk}(h:okBk n k):T x W (after n k).1≤Tk k:=by
 cases k with
 | lv r=>simp[after,T]
 | ev j sh g=>exact eJ x W _ h.1
theorem l3{P:Ops}{x:X}{W:Nat→Int}{f:Fc}{w:Nat}{h:List Cel}(hf:okFc f)(h0:0≤W w)(hser:0≤x.ser):T x W (entered P x f w (W w) h).1+1≤TE (A x f) (W w)+rst f:=by
 have hF:FZ=4611686018427387904:=rfl
 unfold entered TE
 by_cases e:W w=0∨FZ≤W w
 ·rw[if_pos e,if_neg (by omega)]
  simp only[T];split<;>omega
 ·rw [if_neg e,if_pos (by omega)]
  unfold found
  cases f with
  | key =>
   have hs:st W (fdOf P x w (W w) h)=0:=by unfold st fdOf;simp
   simp only[rst,A]
   unfold foundK
   by_cases h1:x.op=1
   ·rw[if_pos h1];simp only[T,hs];split<;>omega
   rw[if_neg h1]
   by_cases h2:x.op=2
   ·rw[if_pos h2]
    split
    ·have:=km x W (er 9);split<;>omega
    ·split
     ·rename_i h4
      rw[if_neg (by omega)]
      have:=v9 x x W (fdOf P x w (W w) h) (P.acq (P.pol x.pol) (fdOf P x w (W w) h).cell x.ser).2 (P.acq (P.pol x.pol) (fdOf P x w (W w) h).cell x.ser).1
      dsimp only;omega
     ·rename_i h4
      rw[if_pos ⟨h2,by omega⟩]
      simp only[T,hs];omega
   rw[if_neg h2,if_neg (fun h=>h2 h.1:¬(x.op=2∧x.ser=0))]
   split
   ·split
    ·have:=v9 x x W (fdOf P x w (W w) h) (P.rel (P.pol x.pol) (fdOf P x w (W w) h).cell x.n).2 (P.rel (P.pol x.pol) (fdOf P x w (W w) h).cell x.n).1
     dsimp only;omega
    ·simp[T]
   ·split<;>simp[T]
  | ev j sh g =>
   dsimp only[A,rst]
   split
   ·have:=eJ x W (g:=g) hf.1;omega
   ·simp only[T];omega
theorem T_on{x:X}{W:Nat→Int}{lv i:Nat}{up:Bool}{h:List Cel}(hi:i<2^lv):T x W (on lv i up h)+1≤U lv i-(if up then 5 else 3):=by
 obtain⟨g1,g2⟩:=fb hi
 cases up
 ·simp[on,T];omega
 ·simp only[on,move,if_true]
  by_cases e:i+1=2^lv
  ·rw[if_pos e];simp only[T];omega
  ·rw[if_neg e];simp only[T];omega
theorem st_hi{W:Nat→Int}{f:Fd}(h:mo f){w:Nat}(hw:32≤w)(y:Int):st (upd W w y) f=st W f:=by
 unfold st;rw[upd_ne _ _ (by have:=h.2.1;omega)]
theorem step_T{P:Ops}{M:Mc}{B:Int}(h:Iw M.W B){x:X}(hx:0≤x.ser){s:CS}(hn:s≠.none)(hs:Cw x M.W s)(hr:(step P M x s).r.done=false) :
  T (step P M x s).x (step P M x s).M.W (step P M x s).s+1≤T x M.W s:=by
 have hF:FZ=4611686018427387904:=rfl
 have hd:=h.d
 cases s with
 | none=>exact absurd rfl hn
 | k0 f =>
  have hk:(M.W 0/2).toNat≤4:=by omega
  obtain⟨i,h1,h2⟩:=plc_sh (M.W 0/2).toNat (sumF x f)
  have ho:=h.sh hk h1
  rw[← h2]at ho
  by_cases e:M.W 0%2=0
  ·simp only[step,if_pos e,T]
   have hx:0<M.W (plc (M.W 0/2).toNat (sumF x f))∧M.W (plc (M.W 0/2).toNat (sumF x f))<FZ:=by unfold okW at ho;omega
   have:TE (A x f) (M.W (plc (M.W 0/2).toNat (sumF x f)))=1+A x f:=by unfold TE;rw[if_pos (by omega)]
   omega
  ·simp only[step,if_neg e,T]
   obtain⟨j,g1,g2⟩:=plc_sh ((M.W 0/2).toNat+1) (sumF x f)
   have ho2:=h.sh (by omega:(M.W 0/2).toNat+1≤4) g1
   rw[← g2]at ho2
   have hlow:de M.W ((M.W 0/2).toNat+1) j=M.W (plc (M.W 0/2).toNat (sumF x f)):=by
    have h3:=bh (M.W 0/2).toNat (sumF x f)
    rw[g2,Nat.add_sub_cancel_left]at h3
    unfold de;rw[Nat.add_sub_cancel,h3]
   rw[hlow]at ho2
   have hx:(M.W (plc ((M.W 0/2).toNat+1) (sumF x f))=0∨(0<M.W (plc ((M.W 0/2).toNat+1) (sumF x f))∧M.W (plc ((M.W 0/2).toNat+1) (sumF x f))<FZ)):=by unfold okW at ho2;omega
   have h4:TH (A x f) (M.W (plc ((M.W 0/2).toNat+1) (sumF x f)))≤3+A x f:=by unfold TH;(repeat' split)<;>omega
   unfold TF;split<;>omega
 | kE f w =>
  obtain⟨lv,i,hl,hi,rfl⟩:=aK hs.2
  have ho:=h.sh hl hi
  exact l3 hs.1 ho.1 hx
 | kF f lv w =>
  by_cases e:FZ≤M.W w
  ·simp only[step,if_pos e,T,toH]
   unfold TF;rw[if_neg (by omega)];omega
  ·simp only[step,if_neg e,T,if_true]
   unfold TF;rw[if_pos (by omega)];omega
 | kG f lv w v m =>
  obtain⟨z,a,b,d,e⟩:=hs
  by_cases hm:M.W w=v
  ·simp only[step,if_pos hm,T,toH]
   have hne:plc (lv+1) (sumF x f)≠w:=by
    intro e9
    obtain⟨i,g1,g2⟩:=plc_sh lv (sumF x f)
    obtain⟨j,g3,g4⟩:=plc_sh (lv+1) (sumF x f)
    rw[b,g2,g4]at e9
    have:=bQ g1 g3 e9.symm
    omega
   show TH (A x f) (upd M.W w _ _)+rst f+1≤_
   rw[upd_ne _ _ hne];omega
  ·simp only[step,if_neg hm,T];omega
 | kH f lv w m =>
  obtain⟨z,a,b,d,e,g⟩:=hs
  obtain⟨i,h1,h2⟩:=plc_sh lv (sumF x f)
  have ho:=h.sh b h1
  rw[← h2,← d]at ho
  by_cases hm:M.W w=0
  ·simp only[step,if_pos hm,T]
   rw[hm];unfold TH;rw[if_pos rfl];omega
  ·simp only[step,if_neg hm]
   have h5:=l3 (P:=P) (x:=x) (W:=M.W) (f:=f) (w:=w) (h:=M.Hd w) z ho.1 hx
   have h4:TE (A x f) (M.W w)=TH (A x f) (M.W w):=by unfold TE TH;(repeat' split)<;>omega
   show _≤TH (A x f) (M.W w)+rst f
   rw[← h4];exact h5
 | kL f lv w m =>
  by_cases hm:M.W w=0
  ·simp only[step,if_pos hm,T]
   show TE (A x f) (upd M.W w 1 w)+rst f+1≤_
   rw[upd_same];unfold TE;rw[if_pos (by omega)];omega
  ·simp only[step,if_neg hm,T];omega
 | al f =>
  simp only[step]
  split
  ·have:=km x M.W (P.allow (P.pol x.pol) f.cell M.clk x.n).1
   show T x M.W (leave x _).1+1≤4+st M.W f
   omega
  ·have:=v9 x x M.W f (P.allow (P.pol x.pol) f.cell M.clk x.n).2 (P.allow (P.pol x.pol) f.cell M.clk x.n).1
   show T x M.W (put x f _ _)+1≤4+st M.W f
   omega
 | pk c=>simp[step]at hr
 | a0 f =>
  simp only[step]
  split
  ·have:=km x M.W (er 5)
   show T x M.W (leave x _).1+1≤5+st M.W f
   omega
  ·simp only[T,if_true];omega
 | a1 f u =>
  obtain⟨a,b,c,e⟩:=hs
  by_cases hm:M.W 33=u
  ·simp only[step,if_pos hm]
   have:=v9 { x with ser:=u+1 } x (upd M.W 33 (u+1)) f (P.acq (P.pol x.pol) f.cell (u+1)).2 (P.acq (P.pol x.pol) f.cell (u+1)).1
   rw[st_hi a (by omega)]at this
   have e2:T x M.W (.a1 f u)=4+st M.W f:=by simp only[T,if_pos hm]
   rw[e2]
   show T { x with ser:=u+1 } (upd M.W 33 (u+1)) (put x f _ _)+1≤_
   omega
  ·simp only[step,if_neg hm,T];omega
 | p0 f c r =>
  by_cases e:M.W 32=P.room
  ·simp[step,if_pos e]at hr
  ·simp only[step,if_neg e,T,if_true];omega
 | p1 f c r u =>
  obtain⟨a,b,e,g⟩:=hs
  by_cases hm:M.W 32=u
  ·simp only[step,if_pos hm,T,b]
   show _+st (upd M.W 32 (u+1)) f+1≤_
   rw[st_hi a (by omega)];simp;omega
  ·simp only[step,if_neg hm,T];omega
 | pS f c r =>
  obtain⟨a,g,k⟩:=hs
  by_cases hm:M.W f.w=f.v
  ·simp only[step,if_pos hm]at hr⊢
   by_cases e:f.there=true
   ·simp only[if_pos e]
    have:=km x (M.set f.w (f.v+1) (P.wth f.h f.at' f.there c)).W r
    have e2:T x M.W (.pS f c r)=3+st M.W f:=by simp only[T,if_pos e]
    rw[e2]
    show T x (M.set f.w (f.v+1) (P.wth f.h f.at' f.there c)).W (leave x r).1+1≤_
    omega
   ·simp[if_neg e,same]at hr
  ·simp only[step,if_neg hm,T,st,A,rst]
   have:¬(x.op=2∧x.ser=0):=fun h=>g h.1 h.2
   rw[if_neg this]
   split<;>split<;>omega
 | b0 n k=>simp only[step,T,if_true];omega
 | b1 n k u =>
  by_cases hm:M.W 32=u
  ·have e2:T x M.W (.b1 n k u)=1+Tk k:=by simp only[T,if_pos hm]
   rw[e2]
   simp only[step,if_pos hm]
   have:=after_T x (M.set 32 (u-n) []).W hs.2
   show T x (M.set 32 (u-n) []).W (after n k).1+1≤_
   omega
  ·simp only[step,if_neg hm,T];omega
 | e0 =>
  have hk:((M.W 0+1)/2).toNat≤4:=by omega
  have:2^((M.W 0+1)/2).toNat≤2^4:=Q16 (by omega) hk
  show(if M.W 0%2=0 then 2+4 else 6+4)+10*(2^((M.W 0+1)/2).toNat-1-0)+1≤161
  split<;>omega
 | eC j sh g w v m =>
  obtain⟨a,b,c⟩:=hs
  simp only[step]
  split
  ·have:=eJ x M.W (g:=g) a
   show T x M.W (further j sh g).1+1≤4+10*(sh-1-j)
   omega
  ·simp only[T];omega
 | eS j sh g w v m n =>
  obtain⟨a,b,c⟩:=hs
  by_cases hm:M.W w=v
  ·simp only[step,if_pos hm,T,Tk];omega
  ·simp only[step,if_neg hm]
   have:=eJ x M.W (g:=g) a
   show T x M.W (further j sh g).1+1≤3+10*(sh-1-j)
   omega
 | s0 =>
  by_cases h1:M.W 0%2=1
  ·simp only[step,if_pos h1,T]
   have:=U_le (lv:=(M.W 0/2).toNat) (i:=0) (by omega)
   omega
  ·by_cases h2:M.W 0/2=4
   ·simp[step,if_neg h1,if_pos h2]at hr
   ·simp only[step,if_neg h1,if_neg h2,T]
    rw[if_pos (by omega)];omega
 | sM lv =>
  have:=U_le (i:=0) hs
  by_cases hm:M.W 0=2*lv
  ·simp only[step,if_pos hm,T];omega
  ·simp only[step,if_neg hm,T];omega
 | sF lv i =>
  obtain⟨g1,g2⟩:=fb hs.2.1
  by_cases e:FZ≤M.W (2^lv+i)
  ·simp only[step,if_pos e,T];simp;omega
  ·simp only[step,if_neg e,T,if_true];omega
 | sG lv i v m =>
  obtain⟨g1,g2⟩:=fb hs.2.1
  by_cases hm:M.W (2^lv+i)=v
  ·simp only[step,if_pos hm,T];simp;omega
  ·simp only[step,if_neg hm,T];omega
 | sH lv i up m =>
  obtain⟨g1,g2⟩:=fb hs.2.1
  by_cases hm:M.W (upW lv i up)=0
  ·simp only[step,if_pos hm,T];split<;>omega
  ·simp only[step,if_neg hm]
   have:=T_on (x:=x) (W:=M.W) (up:=up) (h:=m) hs.2.1
   show T x M.W (on lv i up m)+1≤U lv i-(if up then 4 else 2)
   cases up<;>simp at this⊢<;> omega
 | sL lv i up m =>
  obtain⟨g1,g2⟩:=fb hs.2.1
  simp only[step]
  exact T_on (x:=x) hs.2.1
 | sV lv=>simp[step]at hr
end Core
end
section
namespace Core
open Dir (FZ plc upd upW Iw okW de upd_same upd_ne pow_pos2 plc_sh bh sh_32 sh_16 bQ aK sumN remW rem)
def Qk(x:X):Nat:=70+(if x.res=true then 0 else 14)+(if x.ser=0 then 14 else 0)
def Qf(x:X):Fc→Nat
 | .key=>Qk x
 | .ev j sh _=>84*(sh-j)
def Qb:Bk→Nat
 | .lv _=>0
 | .ev j sh _=>14+84*(sh-1-j)
def Q(x:X):CS→Nat
 | .k0 f=>Qf x f
 | .kE f _=>Qf x f
 | .kF f _ _=>Qf x f
 | .kG f _ _ _ _=>Qf x f
 | .kH f _ _ _=>Qf x f
 | .kL f _ _ _=>Qf x f
 | .al _=>Qk x
 | .a0 _=>Qk x
 | .a1 _ _=>Qk x
 | .p0 _ _ _=>Qk x
 | .p1 _ _ _ _=>Qk x
 | .pS _ _ _=>Qk x
 | .b0 _ k=>Qb k
 | .b1 _ k _=>Qb k
 | .e0=>1344
 | .eC j sh _ _ _ _=>84*(sh-j)
 | .eS j sh _ _ _ _ _=>84*(sh-j)
 | _=>0
end Core
end
section
namespace Core
open Dir (FZ upd Iw sumN rem)
structure Wk where
 x:X
 s:CS
deriving Inhabited
structure Inv(M:Mc)(S:Nat→Wk)(B:Int):Prop where
 iw:Iw M.W B
 b:1≤B
 c33:0≤M.W 33
 cw:∀i,Cw (S i).x M.W (S i).s
 ser:∀i,0≤(S i).x.ser
def V(W:Nat→Int)(k:Wk):Nat:=match k.s with
 | .none=>1510
 | s=>T k.x W s+Q k.x s
def left(M:Mc)(S:Nat→Wk):Nat:=sumN 8 (fun i=>V M.W (S i))+70*rem M.W
def nx(P:Ops)(M:Mc)(S:Nat→Wk)(i:Nat):Nat→Wk:=upd S i ⟨(step P M (S i).x (S i).s).x,(step P M (S i).x (S i).s).s⟩
def mx(P:Ops)(M:Mc)(S:Nat→Wk)(i:Nat):Mc:=(step P M (S i).x (S i).s).M
theorem vT{P:Ops}{M:Mc}{x:X}(h:0≤x.ser){s:CS}(hs:Cw x M.W s):0≤(step P M x s).x.ser:=by
 cases s with
 | a1 f u =>
  simp only[step];split
  ·have:=hs.2.1;show 0≤u+1;omega
  ·exact h
 | p1 f c r u=>simp only[step];split<;>exact h
 | _=>(first|exact h|(simp only[step];split<;>exact h)|(simp only[step];split<;>(try split)<;>exact h))
theorem step_33{P:Ops}{M:Mc}{B:Int}(h:Iw M.W B)(hB:1≤B∧B+1<FZ){x:X}(hx:0≤x.ser)(h33:0≤M.W 33){s:CS}(hs:Cw x M.W s):0≤(step P M x s).M.W 33:=by
 cases(cN (P:=P) h hB hx h33 hs).chg with
 | no h=>rw[h];exact h33
 | d h1 h2=>rw[h1,Dir.upd_ne _ _ (by omega)];exact h33
 | fz w h0 h1 h2=>rw[h2,Dir.upd_ne _ _ (by omega)];exact h33
 | lay w h0 h1 h2=>rw[h2,Dir.upd_ne _ _ (by omega)];exact h33
 | key w h0 h1 h2=>rw[h2,Dir.upd_ne _ _ (by omega)];exact h33
 | cnt y h2=>rw[h2,Dir.upd_ne _ _ (by omega)];exact h33
 | ser h1 h2=>rw[h2,Dir.upd_same];omega
theorem Inv.step{P:Ops}{M:Mc}{S:Nat→Wk}{B:Int}(h:Inv M S B)(hB:B+1<FZ)(i:Nat):Inv (mx P M S i) (nx P M S i) (B+1):=by
 have ho:=cN (P:=P) h.iw ⟨h.b,hB⟩ (h.ser i) h.c33 (h.cw i)
 refine⟨ho.iw,by have:=h.b;omega,step_33 h.iw ⟨h.b,hB⟩ (h.ser i) h.c33 (h.cw i),fun j=>?_,fun j=>?_⟩
 ·by_cases e:j=i
  ·subst e;unfold nx;rw[Dir.upd_same];exact ho.cw
  ·unfold nx;rw[Dir.upd_ne _ _ e];exact ho.gr.cw (h.cw j)
 ·by_cases e:j=i
  ·subst e;unfold nx;rw[Dir.upd_same];exact vT (h.ser j) (h.cw j)
  ·unfold nx;rw[Dir.upd_ne _ _ e];exact h.ser j
theorem Inv.start{M:Mc}{S:Nat→Wk}{B:Int}(h:Inv M S B)(i:Nat){k:Wk}(hc:Cw k.x M.W k.s)(hs:0≤k.x.ser):Inv M (upd S i k) B:=by
 refine⟨h.iw,h.b,h.c33,fun j=>?_,fun j=>?_⟩
 ·by_cases e:j=i
  ·subst e;rw[Dir.upd_same];exact hc
  ·rw[Dir.upd_ne _ _ e];exact h.cw j
 ·by_cases e:j=i
  ·subst e;rw[Dir.upd_same];exact hs
  ·rw[Dir.upd_ne _ _ e];exact h.ser j
theorem qe{P:Ops}{M:Mc}{x:X}{s:CS}(hn:s≠.none)(hr:(Core.step P M x s).r.done=false):(Core.step P M x s).s≠.none:=by
 have hle:∀r,(leave x r).2.done=false→(leave x r).1≠.none:=fun r h=>by unfold leave at h⊢;split at h<;>simp_all
 have hput:∀f c r,put x f c r≠.none:=fun f c r=>by unfold put;split<;>simp
 have hfu:∀j sh g,(further j sh g).2.done=false→(further j sh g).1≠.none:=fun j sh g h=>by unfold further at h⊢;split at h<;>simp_all
 have hfk:∀f,(foundK P x f).2.done=false→(foundK P x f).1≠.none:=fun f h=>by
  unfold foundK at h⊢
  by_cases h1:x.op=1
  ·rw[if_pos h1];simp
  rw[if_neg h1]at h⊢
  by_cases h2:x.op=2
  ·rw[if_pos h2]at h⊢
   by_cases h3:(f.cell.held.length:Int)=(P.pol x.pol).permits
   ·rw[if_pos h3]at h⊢;exact hle _ h
   rw[if_neg h3]at h⊢
   by_cases h4:0<x.ser
   ·rw[if_pos h4];exact hput _ _ _
   ·rw[if_neg h4];simp
  rw[if_neg h2]at h⊢
  by_cases h5:x.op=3
  ·rw[if_pos h5]at h⊢
   by_cases h6:(P.rel (P.pol x.pol) f.cell x.n).1.e=0
   ·rw[if_pos h6];exact hput _ _ _
   ·rw[if_neg h6]at h;simp at h
  rw[if_neg h5]at h⊢
  by_cases h7:(P.pol x.pol).kind=2
  ·rw[if_pos h7]at h;simp at h
  ·rw[if_neg h7];simp
 have hen:∀f w v hh,(entered P x f w v hh).2.done=false→(entered P x f w v hh).1≠.none:=fun f w v hh h=>by
  unfold entered at h⊢
  split at h
  ·rename_i e;rw[if_pos e];simp
  ·rename_i e;rw[if_neg e]
   cases f with
   | key=>exact hfk _ h
   | ev j sh g =>
    simp only[found]at h⊢
    split at h
    ·rename_i e;rw[if_pos e];exact hfu _ _ _ h
    ·rename_i e;rw[if_neg e];simp
 have hmv:∀lv i,move lv i≠.none:=fun lv i=>by unfold move;split<;>simp
 have hon:∀lv i up hh,on lv i up hh≠.none:=fun lv i up hh=>by unfold on;split;exact hmv _ _;simp
 cases s with
 | none=>exact absurd rfl hn
 | k0 f=>simp only[Core.step];split<;>simp
 | kE f w=>exact hen _ _ _ _ hr
 | kF f lv w=>simp only[Core.step];split<;>simp[toH]
 | kG f lv w v m=>simp only[Core.step];split<;>simp[toH]
 | kH f lv w m =>
  by_cases e:M.W w=0
  ·simp only[Core.step,if_pos e];simp
  ·simp only[Core.step,if_neg e]at hr⊢;exact hen _ _ _ _ hr
 | kL f lv w m=>simp[Core.step]
 | al f =>
  simp only[Core.step]at hr⊢
  split at hr<;>rename_i e
  ·rw[if_pos e];exact hle _ hr
  ·rw[if_neg e];exact hput _ _ _
 | pk c=>simp[Core.step]at hr
 | a0 f =>
  simp only[Core.step]at hr⊢
  split at hr<;>rename_i e
  ·rw[if_pos e];exact hle _ hr
  ·rw[if_neg e];simp
 | a1 f u =>
  simp only[Core.step]
  split
  ·exact hput _ _ _
  ·simp
 | p0 f c r =>
  simp only[Core.step]at hr⊢
  split at hr<;>rename_i e
  ·simp at hr
  ·rw[if_neg e];simp
 | p1 f c r u=>simp only[Core.step];split<;>simp
 | pS f c r =>
  simp only[Core.step]at hr⊢
  split at hr<;>rename_i e
  ·rw[if_pos e]
   simp only[same]at hr⊢
   split at hr<;>rename_i e2
   ·rw[if_pos e2];exact hle _ hr
   ·simp at hr
  ·rw[if_neg e];simp
 | b0 n k=>simp[Core.step]
 | b1 n k u =>
  simp only[Core.step]at hr⊢
  split at hr<;>rename_i e
  ·rw[if_pos e]
   cases k with
   | lv r=>simp[same,after]at hr
   | ev j sh g=>exact hfu _ _ _ hr
  ·rw[if_neg e];simp
 | e0=>simp[Core.step]
 | eC j sh g w v m =>
  simp only[Core.step]at hr⊢
  split at hr<;>rename_i e
  ·rw[if_pos e];exact hfu _ _ _ hr
  ·rw[if_neg e];simp
 | eS j sh g w v m n =>
  simp only[Core.step]at hr⊢
  split at hr<;>rename_i e
  ·rw[if_pos e];simp
  ·rw[if_neg e];exact hfu _ _ _ hr
 | s0 =>
  simp only[Core.step]at hr⊢
  split at hr<;>rename_i e
  ·rw[if_pos e];simp
  ·rw[if_neg e]
   split at hr<;>rename_i e2
   ·simp at hr
   ·rw[if_neg e2];simp
 | sM lv=>simp only[Core.step];split<;>simp
 | sF lv i=>simp only[Core.step];split<;>simp
 | sG lv i v m=>simp only[Core.step];split<;>simp
 | sH lv i up m =>
  simp only[Core.step];split
  ·simp
  ·exact hon _ _ _ _
 | sL lv i up m=>exact hon _ _ _ _
 | sV lv=>simp[Core.step]at hr
end Core
end
section
namespace Core
open Dir (FZ upd upd_same upd_ne)
variable{P:Ops}
structure oO(P:Ops):Prop where
 allow:∀p c t n,(P.allow p c t n).1.serial=0
 rel:∀p c n,(P.rel p c n).1.serial=0
 peek:∀p c t,(P.peek p c t).serial=0
 acq:∀p c n,(P.acq p c n).1.serial≠0→(P.acq p c n).1.serial=n∧(P.acq p c n).1.g=true
def Rp(x:X)(r:Rpl):Prop:=r.serial≠0→r.serial=x.ser∧r.g=true
def Sb(x:X):Bk→Prop
 | .lv r=>Rp x r
 | .ev _ _ _=>True
def Sr(x:X):CS→Prop
 | .p0 _ _ r=>Rp x r
 | .p1 _ _ r _=>Rp x r
 | .pS _ _ r=>Rp x r
 | .b0 _ k=>Sb x k
 | .b1 _ k _=>Sb x k
 | _=>True
theorem Rp.zero{x:X}{r:Rpl}(h:r.serial=0):Rp x r:=fun e=>absurd h e
def So(x:X)(p:CS×Rs):Prop:=Sr x p.1∧Rp x p.2.r
theorem jZ(x:X):Rp x r0.r:=.zero rfl
theorem gq{x:X}{r:Rpl}(h:Rp x r):So x (leave x r):=by
 unfold leave;split
 ·exact⟨h,jZ x⟩
 ·exact⟨trivial,h⟩
theorem nI{x y:X}{f:Fd}{c:Cel}{r:Rpl}(h:Rp x r):Sr x (put y f c r):=by unfold put;split<;>exact h
theorem dG(x:X)(j sh:Nat)(g:Int):So x (further j sh g):=by
 unfold further;split
 ·exact⟨trivial,.zero rfl⟩
 ·exact⟨trivial,.zero rfl⟩
theorem rL(hP:oO P)(x:X)(f:Fd):So x (foundK P x f):=by
 unfold foundK
 split
 ·exact⟨trivial,jZ x⟩
 ·split
  ·split
   ·exact gq (.zero rfl)
   ·split
    ·exact⟨nI (hP.acq _ _ _),jZ x⟩
    ·exact⟨trivial,jZ x⟩
  ·split
   ·split
    ·exact⟨nI (.zero (hP.rel _ _ _)),jZ x⟩
    ·exact⟨trivial,.zero (hP.rel _ _ _)⟩
   ·split
    ·exact⟨trivial,.zero (hP.peek _ _ _)⟩
    ·exact⟨trivial,jZ x⟩
theorem jv(hP:oO P)(x:X)(f:Fc)(w:Nat)(v:Int)(h:List Cel):So x (entered P x f w v h):=by
 unfold entered
 split
 ·exact⟨trivial,jZ x⟩
 ·unfold found
  cases f with
  | key=>exact rL hP _ _
  | ev j sh g =>
   dsimp only;split
   ·exact dG _ _ _ _
   ·exact⟨trivial,jZ x⟩
theorem on_sr(x:X)(lv i:Nat)(up:Bool)(m:List Cel):Sr x (on lv i up m):=by
 unfold on move;(repeat' split)<;>trivial
theorem step_sr(hP:oO P){M:Mc}{x:X}{s:CS}(h:Sr x s):Sr (Core.step P M x s).x (Core.step P M x s).s∧Rp (Core.step P M x s).x (Core.step P M x s).r.r:=by
 have r0r:=jZ x
 cases s with
 | none=>exact⟨trivial,r0r⟩
 | k0 f=>simp only[step];split<;>exact⟨trivial,r0r⟩
 | kE f w=>exact jv hP _ _ _ _ _
 | kF f lv w=>simp only[step];split<;>exact⟨trivial,r0r⟩
 | kG f lv w v m=>simp only[step];split<;>exact⟨trivial,r0r⟩
 | kH f lv w m =>
  simp only[step];split
  ·exact⟨trivial,r0r⟩
  ·exact jv hP _ _ _ _ _
 | kL f lv w m=>exact⟨trivial,r0r⟩
 | al f =>
  simp only[step];split
  ·exact gq (.zero (hP.allow _ _ _ _))
  ·exact⟨nI (.zero (hP.allow _ _ _ _)),r0r⟩
 | pk c=>exact⟨trivial,.zero (hP.peek _ _ _)⟩
 | a0 f =>
  simp only[step];split
  ·exact gq (.zero rfl)
  ·exact⟨trivial,r0r⟩
 | a1 f u =>
  simp only[step];split
  ·exact⟨nI (x:={ x with ser:=u+1 }) (hP.acq _ _ _),.zero rfl⟩
  ·exact⟨trivial,r0r⟩
 | p0 f c r =>
  simp only[step];split
  ·exact⟨trivial,.zero rfl⟩
  ·exact⟨h,r0r⟩
 | p1 f c r u =>
  simp only[step];split
  ·exact⟨h,.zero rfl⟩
  ·exact⟨h,r0r⟩
 | pS f c r =>
  simp only[step];split
  ·show So x (if _ then _ else _:CS×Rs)
   split
   ·exact gq h
   ·exact⟨trivial,h⟩
  ·exact⟨trivial,r0r⟩
 | b0 n k=>exact⟨h,r0r⟩
 | b1 n k u =>
  simp only[step];split
  ·show So x (after n k)
   cases k with
   | lv r=>exact⟨trivial,h⟩
   | ev j sh g=>exact dG _ _ _ _
  ·exact⟨h,r0r⟩
 | e0=>exact⟨trivial,r0r⟩
 | eC j sh g w v m =>
  simp only[step];split
  ·exact dG _ _ _ _
  ·exact⟨trivial,r0r⟩
 | eS j sh g w v m n =>
  simp only[step];split
  ·exact⟨trivial,r0r⟩
  ·exact dG _ _ _ _
 | s0 =>
  simp only[step];split
  ·exact⟨trivial,r0r⟩
  ·split
   ·exact⟨trivial,.zero rfl⟩
   ·exact⟨trivial,r0r⟩
 | sM lv=>simp only[step];split<;>exact⟨trivial,r0r⟩
 | sF lv i=>simp only[step];split<;>exact⟨trivial,r0r⟩
 | sG lv i v m=>simp only[step];split<;>exact⟨trivial,r0r⟩
 | sH lv i up m =>
  simp only[step];split
  ·exact⟨trivial,r0r⟩
  ·exact⟨on_sr _ _ _ _ _,r0r⟩
 | sL lv i up m=>exact⟨on_sr _ _ _ _ _,r0r⟩
 | sV lv=>exact⟨trivial,.zero rfl⟩
theorem i2{M:Mc}{B:Int}(h:Dir.Iw M.W B)(hB:1≤B∧B+1<FZ){x:X}(hx:0≤x.ser)(h33:0≤M.W 33){s:CS}(hs:Cw x M.W s) :
  ((Core.step P M x s).M.W 33=M.W 33∧(Core.step P M x s).x.ser=x.ser) ∨
  ((Core.step P M x s).M.W 33=M.W 33+1∧(Core.step P M x s).x.ser=M.W 33+1∧x.ser=0∧(Core.step P M x s).r.done=false):=by
 by_cases hk:kd s=3
 ·cases s with
  | a1 f u =>
   by_cases hm:M.W 33=u
   ·right
    simp only[step,if_pos hm]
    exact⟨by show upd M.W 33 (u+1) 33=_;rw[upd_same,hm],by rw[hm],hs.2.2.2,rfl⟩
   ·left;simp only[step,if_neg hm];exact⟨trivial,trivial⟩
  | _=>exact absurd hk (by simp[kd])
 ·left
  constructor
  ·cases(cN (P:=P) h hB hx h33 hs).chg with
   | no h=>rw[h]
   | d h1 h2=>rw[h1,upd_ne _ _ (by omega)]
   | fz w h0 h1 h2=>rw[h2,upd_ne _ _ (by omega)]
   | lay w h0 h1 h2=>rw[h2,upd_ne _ _ (by omega)]
   | key w h0 h1 h2=>rw[h2,upd_ne _ _ (by omega)]
   | cnt y h2=>rw[h2,upd_ne _ _ (by omega)]
   | ser h1 h2 h3=>exact absurd h3 hk
  ·cases s with
   | a1 f u=>exact absurd rfl hk
   | _=>(first|rfl|(simp only[step];split<;>rfl)|(simp only[step];split<;>(try split)<;>rfl))
end Core
end
section
namespace Hm
open Dir (FZ plc upd upW Iw okW de upd_same upd_ne pow_pos2 plc_sh bh qs sh_32 sh_16 bQ aK Cw.gone)
def aZ(W:Nat→Int)(s:Int):Nat :=
 if W 0%2=0∨W (plc (W 0/2).toNat s)<FZ∨W (plc ((W 0/2).toNat+1) s)=0 then plc (W 0/2).toNat s else plc ((W 0/2).toNat+1) s
theorem bP(lv:Nat)(s:Int):1≤plc lv s:=by have:=pow_pos2 lv;unfold plc;omega
theorem plc_ne(lv:Nat)(s t:Int):plc lv s≠plc (lv+1) t:=by
 obtain⟨i,h1,h2⟩:=plc_sh lv s
 obtain⟨j,h3,h4⟩:=plc_sh (lv+1) t
 intro e;rw[h2,h4]at e
 have:=bQ h1 h3 e;omega
theorem fv{W W':Nat→Int}(h0:W' 0=W 0)(h:∀p,1≤p→(W' p<FZ↔W p<FZ)∧(W' p=0↔W p=0))(s:Int):aZ W' s=aZ W s:=by
 unfold aZ
 simp only[h0,(h _ (bP _ s)).1,(h _ (bP _ s)).2]
theorem xx{W:Nat→Int}{B:Int}(h:Iw W B){lv:Nat}(hl:lv≤4)(s:Int):okW (W 0) lv (W (plc lv s)) (W (plc (lv-1) s)) B∨lv=0∧okW (W 0) lv (W (Dir.plc lv s)) (W (Dir.plc 0 s)) B:=by
 obtain⟨i,h1,h2⟩:=plc_sh lv s
 have ho:=h.sh hl h1
 rcases Nat.eq_zero_or_pos lv with e|e
 ·subst e
  obtain rfl:i=0:=by simp at h1;omega
  have hp:Dir.plc 0 s=1:=by rw[h2]
  right;refine⟨rfl,?_⟩
  rw[hp];exact ho
 ·left
  have h3:=bh (lv-1) s
  rw[Nat.sub_add_cancel e,h2,Nat.add_sub_cancel_left]at h3
  unfold de at ho
  rw[h3,← h2]at ho
  exact ho
theorem n8{W:Nat→Int}{B:Int}(h:Iw W B){lv:Nat}(hl:lv≤4)(s:Int):∃low,okW (W 0) lv (W (Dir.plc lv s)) low B:=by
 rcases xx h hl s with h|⟨_,h⟩<;>exact⟨_,h⟩
theorem xy{W:Nat→Int}{B:Int}(h:Iw W B){lv:Nat}(hl:lv≤3)(s:Int):okW (W 0) (lv+1) (W (Dir.plc (lv+1) s)) (W (Dir.plc lv s)) B:=by
 rcases xx h (lv:=lv+1) (by omega) s with h|⟨h,_⟩
 ·exact h
 ·omega
theorem cg{W:Nat→Int}{B:Int}(h:Iw W B){lv:Nat}(hl:lv≤4){s:Int}(hv:0<W (plc lv s)∧W (plc lv s)<FZ):aZ W s=plc lv s:=by
 obtain⟨low,ho⟩:=n8 h hl s
 have hd:=h.d
 unfold aZ
 by_cases e1:W 0=2*lv
 ·rw[if_pos (.inl (by omega)),show(W 0/2).toNat=lv by omega]
 ·by_cases e2:W 0=2*lv+1
  ·rw[show(W 0/2).toNat=lv by omega,if_pos (.inr (.inl hv.2))]
  ·have e3:W 0+1=2*lv:=by unfold okW at ho;omega
   obtain⟨l,rfl⟩:∃l,lv=l+1:=⟨lv-1,by omega⟩
   have ho1:=xy h (by omega:l≤3) s
   rw[show(W 0/2).toNat=l by omega]
   rw[if_neg]
   unfold okW at ho1;omega
theorem d9{W:Nat→Int}{B:Int}(h:Iw W B){lv i:Nat}(hl:lv≤3)(hi:i<2^lv)(hd:W 0=2*lv+1)(hv:0<W (2^lv+i)∧W (2^lv+i)<FZ)(s:Int) :
  aZ (upd W (2^lv+i) (W (2^lv+i)+FZ)) s=aZ W s:=by
 have hw:=sh_16 hl hi
 have e0:upd W (2^lv+i) (W (2^lv+i)+FZ) 0=W 0:=upd_ne _ _ (by omega)
 have ho1:=xy h hl s
 unfold aZ
 rw[e0,show(W 0/2).toNat=lv by omega]
 by_cases e:plc lv s=2^lv+i
 ·have e1:plc (lv+1) s≠2^lv+i:=by rw[← e];exact(plc_ne lv s s).symm
  have hz:W (plc (lv+1) s)=0:=by
   rw[e]at ho1
   unfold okW at ho1;omega
  rw[if_pos (.inr (.inr (by rw[upd_ne _ _ e1];exact hz))),if_pos (.inr (.inr hz))]
 ·rw[upd_ne _ _ e]
  by_cases e1:plc (lv+1) s=2^lv+i
  ·exfalso
   obtain⟨j,h3,h4⟩:=plc_sh (lv+1) s
   rw[h4]at e1
   have:=bQ h3 hi e1;omega
  ·rw[upd_ne _ _ e1]
theorem ku{W:Nat→Int}{B:Int}(h:Iw W B){lv i:Nat}(hl:lv≤3)(hi:i<2^(lv+1))(hd:2*(lv:Int)+1≤W 0)(hz:W (2^(lv+1)+i)=0)(hlow:FZ≤W (2^lv+i%2^lv))(s:Int) :
  (plc (lv+1) s=2^(lv+1)+i→aZ W s=2^lv+i%2^lv∧aZ (upd W (2^(lv+1)+i) 1) s=2^(lv+1)+i) ∧
  (plc (lv+1) s≠2^(lv+1)+i→aZ (upd W (2^(lv+1)+i) 1) s=aZ W s∧aZ W s≠2^(lv+1)+i):=by
 have hw:=sh_32 (by omega:lv+1≤4) hi
 have ho:=h.sh (by omega:lv+1≤4) hi
 have hD:W 0=2*lv+1:=by
  have hF:FZ=4611686018427387904:=rfl
  rw[hz]at ho;unfold okW at ho;omega
 have e0:upd W (2^(lv+1)+i) 1 0=W 0:=upd_ne _ _ (by omega)
 have hp:plc lv s≠2^(lv+1)+i:=fun e=>by
  obtain⟨j,h3,h4⟩:=plc_sh lv s
  rw[h4]at e
  have:=bQ h3 hi e;omega
 unfold aZ
 rw[e0,show(W 0/2).toNat=lv by omega,upd_ne _ _ hp]
 constructor
 ·intro e
  have h3:=bh lv s
  rw[e,Nat.add_sub_cancel_left]at h3
  rw[e,upd_same,if_pos (.inr (.inr hz)),if_neg (by rw[← h3];have hF:FZ=4611686018427387904:=rfl;omega)]
  exact⟨h3.symm,rfl⟩
 ·intro e
  rw[upd_ne _ _ e]
  refine⟨rfl,?_⟩
  split
  ·exact hp
  ·exact e
theorem fw{W:Nat→Int}{B:Int}(h:Iw W B){k:Nat}(hk:k≤3)(e:W 0=2*k)(s:Int):aZ (upd W 0 (2*k+1)) s=aZ W s:=by
 obtain⟨low,ho⟩:=n8 h (by omega:k≤4) s
 have hp:=bP k s
 unfold aZ
 have hx:W (plc k s)<FZ:=by unfold okW at ho;omega
 rw[upd_same,show((2*(k:Int)+1)/2).toNat=k by omega,show(W 0/2).toNat=k by omega,if_pos (.inr (.inl (by rw[upd_ne _ _ (by omega)];exact hx))),if_pos (.inl (by omega:W 0%2=0))]
theorem kv{W:Nat→Int}{k:Nat}(e:W 0=2*k+1)(hg:Cw.gone W k (2^k))(s:Int):aZ (upd W 0 (2*k+2)) s=aZ W s:=by
 unfold aZ
 rw[upd_same,show((2*(k:Int)+2)/2).toNat=k+1 by omega,show(W 0/2).toNat=k by omega,if_pos (.inl (by omega:(2*(k:Int)+2)%2=0)),if_neg]
 obtain⟨i,h1,h2⟩:=plc_sh k s
 have g:=hg i h1
 have hq:W (plc (k+1) s)≠0:=by
  obtain⟨j,h3,h4⟩:=plc_sh (k+1) s
  rw[h4]
  by_cases hlt:j<2^k
  ·exact(hg j hlt).2.1
  ·have hj:j-2^k<2^k:=by rw[Nat.pow_succ]at h3;omega
   have:=(hg _ hj).2.2
   rwa [Nat.sub_add_cancel (by omega)]at this
 rw[h2]
 omega
end Hm
end
theorem be:∀a:List Int,bk a a=0
 | []=>rfl
 | x::r=>by simp only[bk];rw[if_neg (by omega),if_neg (by omega)];exact be r
theorem kP:∀{a b:List Int},bk a b=0→a=b
 | [],[],_=>rfl
 | [],_::_,h=>by simp[bk]at h
 | _::_,[],h=>by simp[bk]at h
 | x::a,y::b,h=>by
  simp only[bk]at h
  split at h
  ·omega
  ·split at h
   ·omega
   ·rw[kP h,show x=y by omega]
theorem mb:∀a b:List Int,bk b a=- bk a b
 | [],[]=>rfl
 | [],_::_=>rfl
 | _::_,[]=>rfl
 | x::a,y::b=>by
  simp only[bk]
  by_cases h1:x<y
  ·rw[if_neg (by omega),if_pos h1,if_pos h1];rfl
  ·by_cases h2:y<x
   ·rw[if_pos h2,if_neg h1,if_pos h2]
   ·rw[if_neg h2,if_neg h1,if_neg h1,if_neg h2];exact mb a b
theorem fH:∀{a b c:List Int},bk a b<0→bk b c<0→bk a c<0
 | [],[],_,h,_=>by simp[bk]at h
 | [],_::_,[],_,h=>by simp[bk]at h
 | [],_::_,_::_,_,_=>by simp[bk]
 | _::_,[],_,h,_=>by simp[bk]at h
 | _::_,_::_,[],_,h=>by simp[bk]at h
 | x :: a,y::b,z::c,h1,h2=>by
  simp only[bk]at h1 h2⊢
  by_cases e1:x<y
  ·by_cases e2:y<z
   ·rw[if_pos (by omega)];omega
   ·by_cases e3:z<y
    ·rw[if_neg e2,if_pos e3]at h2;omega
    ·rw[if_pos (by omega)];omega
  ·by_cases e2:y<x
   ·rw[if_neg e1,if_pos e2]at h1;omega
   ·rw[if_neg e1,if_neg e2]at h1
    by_cases e3:y<z
    ·rw[if_pos (by omega)];omega
    ·by_cases e4:z<y
     ·rw[if_neg e3,if_pos e4]at h2;omega
     ·rw[if_neg e3,if_neg e4]at h2
      rw[if_neg (by omega),if_neg (by omega)]
      exact fH h1 h2
def idn(c:Cel):List Int:=c.pol::c.key
def gj(pol:Int)(key:List Int):Prop:=0≤pol∧pol<32∧key.length≤255
theorem cF{pol:Int}{key:List Int}(h:gj pol key):bL pol key=pol::key:=by
 obtain⟨h1,h2,h3⟩:=h
 rw[bL,if_pos (by rw[cG,if_neg (by omega),if_neg (by omega)])]
theorem j7{a b:Cel}(ha:gj a.pol a.key)(hb:gj b.pol b.key):mJ a b=bk (idn a) (idn b):=by
 rw[mJ,cF ha,cF hb];rfl
theorem kY{lt:Nat→Bool}{n:Nat}(mono:∀i j,i≤j→j<n→lt j=true→lt i=true):∀(q i j:Nat),i≤j→j≤n→j-i<q→(∀k,k<i→lt k=true)→(∀k,j≤k→k<n→lt k=false) →
  (∀k,k<bsF lt q i j→lt k=true)∧∀k,bsF lt q i j≤k→k<n→lt k=false
 | 0,i,j,_,_,h,_,_=>by omega
 | q+1,i,j,h1,h2,h3,h4,h5=>by
  unfold bsF
  by_cases hij:i<j
  ·rw[if_pos hij]
   by_cases hl:lt ((i+j)/2)=true
   ·rw[if_pos hl]
    exact kY mono q _ _ (by omega) h2 (by omega) (fun k hk=>mono k ((i+j)/2) (by omega) (by omega) hl) h5
   ·rw[if_neg hl]
    refine kY mono q _ _ (by omega) (by omega) (by omega) h4 (fun k hk hkn=>?_)
    cases hlk:lt k with
    | false=>rfl
    | true=>exact absurd (mono _ k hk hkn hlk) hl
  ·rw[if_neg hij]
   exact⟨h4,fun k hk hkn=>h5 k (by omega) hkn⟩
theorem bs_spec{lt:Nat→Bool}{n:Nat}(mono:∀i j,i≤j→j<n→lt j=true→lt i=true):(∀k,k<bs lt n→lt k=true)∧∀k,bs lt n≤k→k<n→lt k=false :=
 kY mono (n+1) 0 n (Nat.zero_le _) (Q4 _) (by omega) (fun k hk=>by omega) (fun k hk hkn=>by omega)
structure Srt(xs:List Cel):Prop where
 ok:∀c∈xs,gj c.pol c.key
 lt:xs.Pairwise fun a b=>bk (idn a) (idn b)<0
theorem cV{xs:List Cel}{k:Nat}(h:k<xs.length):xs.getD k default∈xs:=by
 rw[Q1,Q0 h];exact Q14 h
theorem cW{xs:List Cel}{k:Nat}(h:k<xs.length):xs.getD k default=xs[k]:=by
 rw[Q1,Q0 h];rfl
theorem Srt.at{xs:List Cel}(h:Srt xs){i j:Nat}(hij:i<j)(hj:j<xs.length):bk (idn (xs.getD i default)) (idn (xs.getD j default))<0:=by
 rw[cW hj,cW (show i<xs.length by omega)]
 exact List.pairwise_iff_getElem.1 h.lt i j (by omega) hj hij
theorem nO{xs:List Cel}(h:Srt xs){t:Cel}(ht:gj t.pol t.key):ca xs t≤xs.length∧(∀k,k<ca xs t→bk (idn (xs.getD k default)) (idn t)<0)∧∀k,ca xs t≤k→k<xs.length→¬bk (idn (xs.getD k default)) (idn t)<0:=by
 have hle:ca xs t≤xs.length:=qF xs t
 have hord:∀k,k<xs.length→mJ (xs.getD k default) t=bk (idn (xs.getD k default)) (idn t):=fun k hk=>j7 (h.ok _ (cV hk)) ht
 have:=bs_spec (lt:=fun k=>decide (mJ (xs.getD k default) t<0)) (n:=xs.length) (fun i j hij hj hlt=>by
  simp only[decide_eq_true_eq]at hlt⊢
  rw[hord j hj]at hlt
  rw[hord i (by omega)]
  by_cases e:i=j
  ·subst e;exact hlt
  ·exact fH (h.at (by omega) hj) hlt)
 refine⟨hle,fun k hk=>?_,fun k hk hkn=>?_⟩
 ·have:=this.1 k hk
  simp only[decide_eq_true_eq]at this
  rw[hord k (by omega)]at this;exact this
 ·have:=this.2 k hk hkn
  simp only[decide_eq_false_iff_not]at this
  rw[hord k hkn]at this;exact this
def look(xs:List Cel)(i:List Int):Option Cel:=xs.find? fun c=>decide (idn c=i)
theorem bG{xs:List Cel}{i:List Int}{c:Cel}(h:look xs i=some c):c∈xs∧idn c=i:=by
 unfold look at h
 exact⟨List.mem_of_find?_eq_some h,by simpa using List.find?_some h⟩
theorem Srt.uniq{xs:List Cel}(h:Srt xs){a b:Cel}(ha:a∈xs)(hb:b∈xs)(e:idn a=idn b):a=b:=by
 obtain⟨i,hi,rfl⟩:=List.getElem_of_mem ha
 obtain⟨j,hj,rfl⟩:=List.getElem_of_mem hb
 have hp:=List.pairwise_iff_getElem.1 h.lt
 rcases Nat.lt_trichotomy i j with hlt|rfl|hlt
 ·have:=hp i j hi hj hlt;rw[e,be]at this;omega
 ·rfl
 ·have:=hp j i hj hi hlt;rw[e,be]at this;omega
theorem Srt.look_of{xs:List Cel}(h:Srt xs){c:Cel}(hc:c∈xs):look xs (idn c)=some c:=by
 cases hl:look xs (idn c)with
 | none=>unfold look at hl;rw[List.find?_eq_none]at hl;exact absurd (by simp) (hl c hc)
 | some d=>obtain⟨h1,h2⟩:=bG hl;rw[h.uniq h1 hc h2]
theorem lG{xs:List Cel}{i:List Int}:look xs i=none↔∀c∈xs,idn c≠i:=by unfold look;rw[List.find?_eq_none];simp
theorem ky{xs:List Cel}(h:Srt xs){t:Cel}(ht:gj t.pol t.key):(f8 xs t=true→look xs (idn t)=some (xs.getD (ca xs t) default))∧(f8 xs t=false→look xs (idn t)=none):=by
 obtain⟨h1,h2,h3⟩:=nO h ht
 constructor
 ·intro hh
  obtain⟨p1,p2⟩:=(eG _ _).1 hh
  rw[j7 (h.ok _ (cV p1)) ht]at p2
  rw[← kP p2]
  exact h.look_of (cV p1)
 ·intro hh
  rw[lG]
  intro c hc e
  obtain⟨k,hk,rfl⟩:=List.getElem_of_mem hc
  rw[← cW hk]at e
  have h9:¬k<ca xs t:=fun hlt=>by have:=h2 k hlt;rw[e,be]at this;omega
  by_cases hkp:k=ca xs t
  ·subst hkp
   have:f8 xs t=true:=(eG _ _).2 ⟨hk,by rw[j7 (h.ok _ (cV hk)) ht,e,be]⟩
   rw[this]at hh;cases hh
  ·have:=h3 (ca xs t) (Q4 _) (by omega)
   have h8:=h.at (show ca xs t<k by omega) hk
   rw[e]at h8
   exact this h8
theorem has_iff{xs:List Cel}(h:Srt xs){t:Cel}(ht:gj t.pol t.key):f8 xs t=(look xs (idn t)).isSome:=by
 obtain⟨h1,h2⟩:=ky h ht
 cases hh:f8 xs t with
 | true=>rw[h1 hh];rfl
 | false=>rw[h2 hh];rfl
theorem rR{xs:List Cel}(h:Srt xs){pol:Int}{key:List Int}(ht:gj pol key):f9 xs pol key=(look xs (pol::key)).getD (newC pol key):=by
 obtain⟨h1,h2⟩:=ky h (t:=newC pol key) ht
 unfold f9
 by_cases hh:f8 xs (newC pol key)=true
 ·rw[if_pos hh];have:=h1 hh;rw[show idn (newC pol key)=pol::key from rfl]at this;rw[this];rfl
 ·rw[if_neg hh];have:=h2 (by simpa using hh);rw[show idn (newC pol key)=pol::key from rfl]at this;rw[this];rfl
theorem cR{xs:List Cel}(h:Srt xs){i:List Int}{d:Cel}:look xs i=some d↔d∈xs∧idn d=i :=
 ⟨bG,fun⟨h1,h2⟩=>by rw[← h2];exact h.look_of h1⟩
theorem mK{α:Type}{a b:Option α}(h:∀d,a=some d↔b=some d):a=b:=by
 cases a with
 | none=>cases b with
  | none=>rfl
  | some d=>have:=(h d).2 rfl;cases this
 | some d=>exact((h d).1 rfl).symm
theorem Srt.ids{xs:List Cel}(h:Srt xs):(xs.map idn).Pairwise fun a b=>bk a b<0:=by rw[List.pairwise_map];exact h.lt
theorem set_mem{xs:List Cel}(h:Srt xs){p:Nat}{c:Cel}(hp:p<xs.length)(e:idn (xs.getD p default)=idn c)(d:Cel):d∈xs.set p c↔d=c∨(d∈xs∧idn d≠idn c):=by
 rw[cW hp]at e
 constructor
 ·intro hd
  obtain⟨k,hk,rfl⟩:=List.getElem_of_mem hd
  rw[List.length_set]at hk
  rw[List.getElem_set]
  by_cases hkp:p=k
  ·rw[if_pos hkp];exact Or.inl rfl
  ·rw[if_neg hkp]
   refine Or.inr ⟨Q14 hk,fun e2=>?_⟩
   have hp2:=List.pairwise_iff_getElem.1 h.lt
   rw[← e]at e2
   rcases Nat.lt_or_gt_of_ne hkp with hlt|hlt
   ·have:=hp2 p k hp hk hlt;rw[e2,be]at this;omega
   ·have:=hp2 k p hk hp hlt;rw[e2,be]at this;omega
 ·rintro(rfl|⟨h1,h2⟩)
  ·exact List.mem_set hp _
  ·obtain⟨k,hk,rfl⟩:=List.getElem_of_mem h1
   have hkp:¬p=k:=fun e2=>by subst e2;exact h2 e
   have:(xs.set p c)[k]'(by rw[List.length_set];exact hk)=xs[k]:=by rw[List.getElem_set,if_neg hkp]
   rw[← this];exact Q14 _
theorem nq{xs:List Cel}(h:Srt xs){t c:Cel}(hc:gj c.pol c.key)(e:idn c=idn t) :
  Srt (dj xs (ca xs t) (f8 xs t) c)∧(∀d,d∈dj xs (ca xs t) (f8 xs t) c↔d=c∨(d∈xs∧idn d≠idn c))∧(dj xs (ca xs t) (f8 xs t) c).length=if f8 xs t=true then xs.length else xs.length+1:=by
 have ht:gj t.pol t.key:=by
  have e1:c.pol=t.pol:=by have:=e;simp only[idn,List.cons.injEq]at this;exact this.1
  have e2:c.key=t.key:=by have:=e;simp only[idn,List.cons.injEq]at this;exact this.2
  rw[← e1,← e2];exact hc
 obtain⟨h1,h2,h3⟩:=nO h ht
 cases hh:f8 xs t with
 | true =>
  obtain⟨p1,p2⟩:=(eG _ _).1 hh
  rw[j7 (h.ok _ (cV p1)) ht]at p2
  have p3:idn (xs.getD (ca xs t) default)=idn c:=by rw[kP p2,e]
  have hm:=set_mem h p1 p3
  simp only[dj,if_true]
  refine⟨⟨fun d hd=>?_,?_⟩,hm,List.length_set ..⟩
  ·rcases(hm d).1 hd with rfl|⟨hd,_⟩
   ·exact hc
   ·exact h.ok d hd
  ·rw[← List.pairwise_map (f:=idn) (R:=fun a b=>bk a b<0),List.map_set,← p3]
   have:(xs.map idn).set (ca xs t) (idn (xs.getD (ca xs t) default))=xs.map idn:=by
    rw[cW p1]
    have:idn xs[ca xs t]=(xs.map idn)[ca xs t]'(by simpa using p1):=by simp
    rw[this];exact List.set_getElem_self _
   rw[this];exact h.ids
 | false =>
  simp only[dj,Bool.false_eq_true,if_false]
  have hn:=lG.1 ((ky h ht).2 hh)
  have hge:∀k,ca xs t≤k→k<xs.length→bk (idn c) (idn (xs.getD k default))<0:=fun k hk hkn=>by
   have h9:=h3 k hk hkn
   have h8:=mb (idn (xs.getD k default)) (idn t)
   rw[e,h8]
   have h7:bk (idn (xs.getD k default)) (idn t)≠0:=fun h0=>hn _ (cV hkn) (kP h0)
   omega
  have hm:∀d,d∈cU xs (ca xs t) c↔d=c∨(d∈xs∧idn d≠idn c):=fun d=>by
   have hx:d∈cU xs (ca xs t) c↔d=c∨d∈xs:=by
    unfold cU
    rw[List.mem_append,List.mem_append,List.mem_singleton]
    constructor
    ·rintro((h|h)|h)
     ·exact Or.inr (List.mem_of_mem_take h)
     ·exact Or.inl h
     ·exact Or.inr (List.mem_of_mem_drop h)
    ·rintro(h|h)
     ·exact Or.inl (Or.inr h)
     ·rw[← List.take_append_drop (ca xs t) xs]at h
      rcases List.mem_append.1 h with h|h
      ·exact Or.inl (Or.inl h)
      ·exact Or.inr h
   rw[hx]
   constructor
   ·rintro(h|h)
    ·exact Or.inl h
    ·exact Or.inr ⟨h,by rw[e];exact hn d h⟩
   ·rintro(h|⟨h,_⟩)
    ·exact Or.inl h
    ·exact Or.inr h
  refine⟨⟨fun d hd=>?_,?_⟩,hm,aN _ _ _ h1⟩
  ·rcases(hm d).1 hd with rfl|⟨hd,_⟩
   ·exact hc
   ·exact h.ok d hd
  ·unfold cU
   rw[List.append_assoc,List.pairwise_append]
   have hpt:(xs.take (ca xs t)).Pairwise fun a b=>bk (idn a) (idn b)<0:=h.lt.sublist (List.take_sublist _ _)
   have hpd:(xs.drop (ca xs t)).Pairwise fun a b=>bk (idn a) (idn b)<0:=h.lt.sublist (List.drop_sublist _ _)
   have htl:∀a∈xs.take (ca xs t),bk (idn a) (idn c)<0:=fun a ha=>by
    obtain⟨k,hk,rfl⟩:=List.getElem_of_mem ha
    rw[Q10]at hk
    rw[List.getElem_take,← cW (show k<xs.length by omega),e]
    exact h2 k (by omega)
   have hdl:∀b∈xs.drop (ca xs t),bk (idn c) (idn b)<0:=fun b hb=>by
    obtain⟨k,hk,rfl⟩:=List.getElem_of_mem hb
    rw[List.length_drop]at hk
    rw[List.getElem_drop,← cW (show ca xs t+k<xs.length by omega)]
    exact hge _ (by omega) (by omega)
   refine⟨hpt,?_,fun a ha b hb=>?_⟩
   ·rw[List.singleton_append,List.pairwise_cons];exact⟨hdl,hpd⟩
   ·rw[List.singleton_append]at hb
    rcases Q22 hb with rfl|hb
    ·exact htl a ha
    ·exact fH (htl a ha) (hdl b hb)
theorem pV{xs:List Cel}(h:Srt xs){t c:Cel}(hc:gj c.pol c.key)(e:idn c=idn t)(i:List Int):look (dj xs (ca xs t) (f8 xs t) c) i=if i=idn c then some c else look xs i:=by
 obtain⟨h1,h2,_⟩:=nq h hc e
 refine mK fun d=>?_
 rw[cR h1,h2]
 by_cases hi:i=idn c
 ·rw[if_pos hi]
  constructor
  ·rintro⟨rfl|⟨_,h4⟩,h5⟩
   ·rfl
   ·exact absurd (h5.trans hi) h4
  ·intro h;cases h;exact⟨Or.inl rfl,hi.symm⟩
 ·rw[if_neg hi,cR h]
  constructor
  ·rintro⟨rfl|⟨h3,_⟩,h5⟩
   ·exact absurd h5.symm hi
   ·exact⟨h3,h5⟩
  ·rintro⟨h3,h5⟩;exact⟨Or.inr ⟨h3,fun e2=>hi (h5.symm.trans e2)⟩,h5⟩
theorem Srt.filter{xs:List Cel}(h:Srt xs)(q:Cel→Bool):Srt (xs.filter q):=⟨fun c hc=>h.ok c (List.mem_filter.1 hc).1,h.lt.filter _⟩
theorem m9{xs:List Cel}(h:Srt xs)(q:Cel→Bool)(i:List Int):look (xs.filter q) i=(look xs i).filter q:=by
 refine mK fun d=>?_
 rw[cR (h.filter q),List.mem_filter,Option.filter_eq_some_iff,cR h]
 exact⟨fun⟨⟨a,b⟩,c⟩=>⟨⟨a,c⟩,b⟩,fun⟨⟨a,c⟩,b⟩=>⟨⟨a,b⟩,c⟩⟩
section
namespace Core
open Dir (FZ plc upd upW Iw okW de upd_same upd_ne pow_pos2 plc_sh bh sh_32 sh_16 bQ aK)
open Hm (aZ bP)
structure OpsOk(sm:List Int→Int)(P:Ops):Prop where
 cut:∀h lv i,Srt h→Srt (P.cut h lv i)∧∀c,c∈P.cut h lv i↔c∈h∧sm (idn c)%2^lv=(i:Int)
 fnd:∀h pol key,Srt h→gj pol key→(P.fnd h pol key).2.1=(look h (pol::key)).isSome∧(P.fnd h pol key).2.2=(look h (pol::key)).getD ⟨pol,key,0,[]⟩
 wth:∀h pol key c,Srt h→gj pol key→idn c=pol::key→Srt (P.wth h (P.fnd h pol key).1 (P.fnd h pol key).2.1 c) ∧
  ∀i,look (P.wth h (P.fnd h pol key).1 (P.fnd h pol key).2.1 c) i=if i=pol::key then some c else look h i
 allow:∀p c t n,idn (P.allow p c t n).2=idn c
 acq:∀p c n,idn (P.acq p c n).2=idn c
 rel:∀p c n,idn (P.rel p c n).2=idn c
 rel0:∀p c n,(P.rel p c n).1.e=0→c.held≠[]
section
variable(sm:List Int→Int)
def Ih(M:Mc):Prop:=∀lv i,lv≤4→i<2^lv→Srt (M.Hd (2^lv+i))∧∀c∈M.Hd (2^lv+i),sm (idn c)%2^lv=(i:Int)
def own(M:Mc)(k:List Int):Option Cel:=look (M.Hd (aZ M.W (sm k))) k
def K(x:X):Prop:=gj x.pol x.key∧x.sum=sm (x.pol::x.key)
def KF(x:X):Fc→Prop
 | .key=>K sm x
 | .ev _ _ _=>True
structure Kd(P:Ops)(x:X)(M:Mc)(f:Fd):Prop where
 k:K sm x
 lv:∃lv,lv≤4∧f.w=plc lv x.sum
 le:f.v≤M.W f.w
 hd:M.W f.w=f.v→M.Hd f.w=f.h
 srt:Srt f.h
 fd:f=fdOf P x f.w f.v f.h
def Kc(x:X)(c:Cel):Prop:=idn c=x.pol::x.key
def Ch(P:Ops)(x:X)(M:Mc):CS→Prop
 | .none=>True
 | .k0 f=>KF sm x f
 | .kE f w=>KF sm x f∧∃lv,lv≤4∧w=plc lv (sumF x f)
 | .kF f _ _=>KF sm x f
 | .kG f _ w v h=>KF sm x f∧v≤M.W w∧(M.W w=v→M.Hd w=h)
 | .kH f lv _ h=>KF sm x f∧M.Hd (plc (lv-1) (sumF x f))=h
 | .kL f lv _ h=>KF sm x f∧M.Hd (plc (lv-1) (sumF x f))=h
 | .al f=>Kd sm P x M f
 | .pk c=>K sm x∧Kc x c
 | .a0 f=>Kd sm P x M f
 | .a1 f _=>Kd sm P x M f
 | .p0 f c _=>Kd sm P x M f∧Kc x c
 | .p1 f c _ _=>Kd sm P x M f∧Kc x c
 | .pS f c _=>Kd sm P x M f∧Kc x c
 | .b0 _ _=>True
 | .b1 _ _ _=>True
 | .e0=>True
 | .eC _ _ _ w v h=>v≤M.W w∧(M.W w=v→M.Hd w=h)∧Srt h
 | .eS _ _ _ w v m n=>v≤M.W w∧∃h t,Srt h∧(M.W w=v→M.Hd w=h)∧t≤M.clk∧m=fY P h t∧n=(h.length:Int)-m.length
 | .s0=>True
 | .sM _=>True
 | .sF _ _=>True
 | .sG lv i v h=>v≤M.W (2^lv+i)∧(M.W (2^lv+i)=v→M.Hd (2^lv+i)=h)
 | .sH lv i _ h=>M.Hd (2^lv+i)=h
 | .sL lv i _ h=>M.Hd (2^lv+i)=h
 | .sV _=>True
end
structure iH(M M':Mc):Prop where
 le:∀w,w<32→M.W w≤M'.W w
 hd:∀w,1≤w→w<32→M'.W w=M.W w→M'.Hd w=M.Hd w
 fz:∀w,w<32→FZ≤M.W w→M'.W w=M.W w
 clk:M.clk≤M'.clk
theorem iH.refl(M:Mc):iH M M:=⟨fun _ _=>Int.le_refl _,fun _ _ _ _=>rfl,fun _ _ _=>rfl,Int.le_refl _⟩
theorem iH.tick(M:Mc){t:Int}(h:M.clk≤t):iH M ⟨M.W,M.Hd,t⟩:=⟨fun _ _=>Int.le_refl _,fun _ _ _ _=>rfl,fun _ _ _=>rfl,h⟩
theorem iH.set{M:Mc}{w:Nat}{x:Int}{h:List Cel}(h1:M.W w<x)(h2:M.W w<FZ):iH M (M.set w x h):=by
 refine⟨fun j _=>?_,fun j _ _ hj=>?_,fun j _ hj=>?_,Int.le_refl _⟩
 ·show _≤upd M.W w x j
  unfold upd;split
  ·rename_i e;subst e;omega
  ·omega
 ·replace hj:upd M.W w x j=M.W j:=hj
  show upd M.Hd w h j=_
  unfold upd at hj⊢
  split at hj
  ·rename_i e;subst e;omega
  ·rename_i e;rw[if_neg e]
 ·show upd M.W w x j=_
  unfold upd;split
  ·rename_i e;subst e;omega
  ·rfl
theorem iH.hi(M:Mc){w:Nat}(hw:32≤w)(x:Int)(h:List Cel):iH M (M.set w x h) :=
 ⟨fun j hj=>by show _≤upd M.W w x j;rw[upd_ne _ _ (by omega)];exact Int.le_refl _,fun j _ hj _=>upd_ne _ _ (by omega),fun j hj _=>upd_ne _ _ (by omega),Int.le_refl _⟩
variable{sm:List Int→Int}
theorem iH.kd{P:Ops}{x:X}{M M':Mc}(h:iH M M'){f:Fd}(ho:mo f)(hf:Kd sm P x M f):Kd sm P x M' f:=by
 have h3:=h.le f.w ho.2.1
 have h4:=hf.le
 refine⟨hf.k,hf.lv,by omega,fun e=>?_,hf.srt,hf.fd⟩
 have e2:M.W f.w=f.v:=by omega
 rw[h.hd f.w ho.1 ho.2.1 (by omega)];exact hf.hd e2
theorem iH.ch{P:Ops}{x:X}{M M':Mc}(h:iH M M'){s:CS}(hc:Cw x M.W s)(hs:Ch sm P x M s):Ch sm P x M' s:=by
 have swp:∀{w:Nat} {v:Int} {q:List Cel→Prop},1≤w→w<32→v≤M.W w→(M.W w=v→q (M.Hd w))→v≤M'.W w∧(M'.W w=v→q (M'.Hd w)):=by
  intro w v q hw hw2 h1 h2
  have h3:=h.le w hw2
  refine⟨by omega,fun e=>?_⟩
  have e2:M.W w=v:=by omega
  rw[h.hd w hw hw2 (by omega)];exact h2 e2
 have p32:∀lv,lv≤4→∀s:Int,plc lv s<32:=fun lv hl s=>by obtain⟨i,h1,h2⟩:=plc_sh lv s;rw[h2];exact(sh_32 hl h1).2
 cases s with
 | kG f lv w v m =>
  obtain⟨a,b,d⟩:=hs
  have hw:1≤w:=by rw[hc.2.2.1];exact bP _ _
  have hw2:w<32:=by rw[hc.2.2.1];exact p32 _ (by have:=hc.2.1;omega) _
  have:=swp (q:=fun x=>x=m) hw hw2 b d
  exact⟨a,this.1,this.2⟩
 | kH f lv w m =>
  refine⟨hs.1,?_⟩
  have hl:=p32 (lv-1) (by have:=hc.2.2.1;omega) (sumF x f)
  have:=h.hd _ (bP _ _) hl (h.fz _ hl hc.2.2.2.2.2)
  exact this.trans hs.2
 | kL f lv w m =>
  refine⟨hs.1,?_⟩
  have hl:=p32 (lv-1) (by have:=hc.2.2.1;omega) (sumF x f)
  have:=h.hd _ (bP _ _) hl (h.fz _ hl hc.2.2.2.2.2)
  exact this.trans hs.2
 | al f=>exact h.kd hc.1 hs
 | a0 f=>exact h.kd hc.1 hs
 | a1 f u=>exact h.kd hc.1 hs
 | p0 f c r=>exact⟨h.kd hc.1 hs.1,hs.2⟩
 | p1 f c r u=>exact⟨h.kd hc.1 hs.1,hs.2⟩
 | pS f c r=>exact⟨h.kd hc.1 hs.1,hs.2⟩
 | eC j sh g w v m =>
  have:=swp (q:=fun x=>x=m) hc.2.2.1 hc.2.2.2.1 hs.1 hs.2.1
  exact⟨this.1,this.2,hs.2.2⟩
 | eS j sh g w v m n =>
  obtain⟨a,h0,t,b,d,e,f⟩:=hs
  have:=swp (q:=fun x=>x=h0) hc.2.2.1 hc.2.2.2.1 a d
  have hk:=h.clk
  exact⟨this.1,h0,t,b,this.2,by omega,f⟩
 | sG lv i v m =>
  have hw:=sh_32 (by have:=hc.1;omega:lv≤4) hc.2.1
  exact swp (q:=fun x=>x=m) hw.1 hw.2 hs.1 hs.2
 | sH lv i up m =>
  have hw:=sh_32 (by have:=hc.1;omega:lv≤4) hc.2.1
  show M'.Hd _=_
  rw[h.hd _ hw.1 hw.2 (h.fz _ hw.2 hc.2.2.2.2.1)];exact hs
 | sL lv i up m =>
  have hw:=sh_32 (by have:=hc.1;omega:lv≤4) hc.2.1
  show M'.Hd _=_
  rw[h.hd _ hw.1 hw.2 (h.fz _ hw.2 hc.2.2.2.2.1)];exact hs
 | _=>exact hs
end Core
end
section
namespace Core
open Dir (FZ plc upd upW Iw okW de upd_same upd_ne pow_pos2 plc_sh bh sh_32 sh_16 bQ aK bM upW_sh)
open Hm (aZ bP fv cg d9 ku fw kv n8)
variable{sm:List Int→Int}{P:Ops}
theorem plc_32{lv:Nat}(hl:lv≤4)(s:Int):1≤plc lv s∧plc lv s<32:=by
 obtain⟨i,h1,h2⟩:=plc_sh lv s
 rw[h2];exact sh_32 hl h1
theorem home_lt{W:Nat→Int}{B:Int}(h:Iw W B)(s:Int):1≤aZ W s∧aZ W s<32:=by
 have hd:=h.d
 unfold aZ
 by_cases e:W 0%2=0
 ·rw[if_pos (.inl e)];exact plc_32 (by omega) s
 ·split
  ·exact plc_32 (by omega) s
  ·exact plc_32 (by omega) s
theorem home_hi{W:Nat→Int}{B:Int}(h:Iw W B){w:Nat}(hw:32≤w)(y s:Int):aZ (upd W w y) s=aZ W s:=by
 have hd:=h.d
 unfold aZ
 rw[upd_ne (i:=w) (j:=0) W y (by omega)]
 by_cases e:W 0%2=0
 ·rw[if_pos (.inl e),if_pos (.inl e)]
 ·have h1:=plc_32 (lv:=(W 0/2).toNat) (by omega) s
  have h2:=plc_32 (lv:=(W 0/2).toNat+1) (by omega) s
  rw[upd_ne _ _ (by omega),upd_ne _ _ (by omega)]
theorem qN{M:Mc}{B:Int}(h:Iw M.W B){w:Nat}(hw:32≤w)(y:Int)(m:List Cel)(k:List Int):own sm (M.set w y m) k=own sm M k:=by
 unfold own
 show look (upd M.Hd w m (aZ (upd M.W w y) (sm k))) k=_
 have:=home_lt h (sm k)
 rw[home_hi h hw,upd_ne _ _ (by omega)]
theorem Ih.hi{M:Mc}(h:Ih sm M){w:Nat}(hw:32≤w)(y:Int)(m:List Cel):Ih sm (M.set w y m):=fun l j hl' hj=>by
 have:=sh_32 hl' hj
 show Srt (upd M.Hd _ _ _)∧∀e∈upd M.Hd _ _ _,_
 rw[upd_ne _ _ (by omega)];exact h l j hl' hj
theorem Ih.word{M:Mc}(h:Ih sm M){w:Nat}(hw:1≤w∧w<32):Srt (M.Hd w):=by
 obtain⟨lv,i,hl,hi,rfl⟩:=aK hw
 exact(h lv i hl hi).1
theorem Ih.set{M:Mc}(h:Ih sm M){lv i:Nat}(hl:lv≤4)(hi:i<2^lv){x:Int}{m:List Cel}(h1:Srt m)(h2:∀e∈m,sm (idn e)%2^lv=(i:Int)):Ih sm (M.set (2^lv+i) x m):=fun l j hl' hj=>by
 show Srt (upd M.Hd _ _ _)∧∀e∈upd M.Hd _ _ _,_
 by_cases e:2^l+j=2^lv+i
 ·obtain⟨rfl,rfl⟩:=bQ hj hi e
  rw[upd_same];exact⟨h1,h2⟩
 ·rw[upd_ne _ _ e];exact h l j hl' hj
theorem Ih.set0{M:Mc}(h:Ih sm M){x:Int}{m:List Cel}:Ih sm (M.set 0 x m):=fun l j hl' hj=>by
 show Srt (upd M.Hd _ _ _)∧∀e∈upd M.Hd _ _ _,_
 rw[upd_ne _ _ (by have:=pow_pos2 l;omega)];exact h l j hl' hj
theorem wA(W:Nat→Int)(s:Int):1≤aZ W s:=by unfold aZ;split<;>exact bP _ _
theorem own_0{M:Mc}{x:Int}{m:List Cel}(hh:∀s,aZ (upd M.W 0 x) s=aZ M.W s)(k:List Int):own sm (M.set 0 x m) k=own sm M k:=by
 unfold own
 show look (upd M.Hd 0 m (aZ (upd M.W 0 x) (sm k))) k=_
 rw[hh,upd_ne _ _ (by have:=wA M.W (sm k);omega)]
theorem js{M:Mc}{B:Int}(h:Iw M.W B)(hI:Ih sm M){lv i:Nat}(hl:lv≤3)(hi:i<2^lv)(hd:2*(lv:Int)+1≤M.W 0){v:Int}(hv:v<FZ)(e:M.W (2^lv+i)=v){m:List Cel}(hm:M.Hd (2^lv+i)=m) :
  iH M (M.set (2^lv+i) (v+FZ) m)∧Ih sm (M.set (2^lv+i) (v+FZ) m)∧∀k,own sm (M.set (2^lv+i) (v+FZ) m) k=own sm M k:=by
 obtain⟨g1,g2,_⟩:=bM h hl hi hd hv e
 have hF:FZ=4611686018427387904:=rfl
 have hi0:=hI lv i (by omega) hi
 refine⟨.set (by omega) (by omega),hI.set (by omega) hi (by rw[← hm];exact hi0.1) (by rw[← hm];exact hi0.2),fun k=>?_⟩
 unfold own
 show look (upd M.Hd _ m (aZ (upd M.W _ (v+FZ)) (sm k))) k=_
 rw[← e,d9 h hl hi g2 (by omega)]
 congr 1
 unfold upd;split
 ·rename_i e2;rw[e2,hm]
 ·rfl
theorem xL(hP:OpsOk sm P){h:List Cel}(s:Srt h)(lv i:Nat):Srt (P.cut h lv i)∧(∀e∈P.cut h lv i,sm (idn e)%2^lv=(i:Int))∧∀k,sm k%2^lv=(i:Int)→look (P.cut h lv i) k=look h k:=by
 obtain⟨h1,h2⟩:=hP.cut h lv i s
 refine⟨h1,fun e he=>((h2 e).1 he).2,fun k hk=>mK fun v=>?_⟩
 rw[cR h1,cR s,h2]
 constructor
 ·rintro⟨⟨a,b⟩,c⟩;exact⟨a,c⟩
 ·rintro⟨a,c⟩;exact⟨⟨a,by rw[c];exact hk⟩,c⟩
theorem cz{lv i:Nat}{s:Int}:plc lv s=2^lv+i↔s%2^lv=(i:Int):=by
 unfold plc
 have hp:(0:Int)<2^lv:=by exact_mod_cast pow_pos2 lv
 have h1:=Int.emod_nonneg s (by omega:(2^lv:Int)≠0)
 omega
theorem rj(hP:OpsOk sm P){M:Mc}{B:Int}(h:Iw M.W B)(hI:Ih sm M){lv i:Nat}(hl:lv≤3)(hi:i<2^(lv+1))(hd:2*(lv:Int)+1≤M.W 0)(hz:M.W (2^(lv+1)+i)=0)(hlow:FZ≤M.W (2^lv+i%2^lv)){m:List Cel}(hm:M.Hd (2^lv+i%2^lv)=m) :
  iH M (M.set (2^(lv+1)+i) 1 (P.cut m (lv+1) i))∧Ih sm (M.set (2^(lv+1)+i) 1 (P.cut m (lv+1) i))∧∀k,own sm (M.set (2^(lv+1)+i) 1 (P.cut m (lv+1) i)) k=own sm M k:=by
 have hF:FZ=4611686018427387904:=rfl
 have hs:Srt m:=by rw[← hm];exact(hI lv (i%2^lv) (by omega) (Nat.mod_lt _ (pow_pos2 lv))).1
 obtain⟨c1,c2,c3⟩:=xL hP hs (lv+1) i
 refine⟨.set (by omega) (by omega),hI.set (by omega) hi c1 c2,fun k=>?_⟩
 obtain⟨g1,g2⟩:=ku h hl hi hd hz hlow (sm k)
 unfold own
 show look (upd M.Hd _ _ (aZ (upd M.W _ 1) (sm k))) k=_
 by_cases e:plc (lv+1) (sm k)=2^(lv+1)+i
 ·obtain⟨a,b⟩:=g1 e
  rw[b,upd_same,a,hm]
  exact c3 k (cz.1 e)
 ·obtain⟨a,b⟩:=g2 e
  rw[a,upd_ne _ _ b]
theorem cell_id(hP:OpsOk sm P){x:X}{w:Nat}{v:Int}{h:List Cel}(hs:Srt h)(hk:K sm x):Kc x (fdOf P x w v h).cell:=by
 have:=(hP.fnd h x.pol x.key hs hk.1).2
 show idn (P.fnd h x.pol x.key).2.2=_
 rw[this]
 cases e:look h (x.pol::x.key)with
 | none=>rfl
 | some c=>exact(bG e).2
theorem Kd.cell(hP:OpsOk sm P){x:X}{M:Mc}{f:Fd}(h:Kd sm P x M f):Kc x f.cell:=by
 have:=cell_id hP (w:=f.w) (v:=f.v) h.srt h.k
 rw[← h.fd]at this;exact this
theorem Kd.ser{x:X}{M:Mc}{f:Fd}(h:Kd sm P x M f)(n:Int):Kd sm P { x with ser:=n } M f:=⟨h.k,h.lv,h.le,h.hd,h.srt,h.fd⟩
theorem Kd.res{x:X}{M:Mc}{f:Fd}(h:Kd sm P x M f)(b:Bool):Kd sm P { x with res:=b } M f:=⟨h.k,h.lv,h.le,h.hd,h.srt,h.fd⟩
theorem gz(x:X)(M:Mc)(r:Rpl):Ch sm P x M (leave x r).1:=by unfold leave;split<;>trivial
theorem nM{x y:X}{M:Mc}{f:Fd}{c:Cel}{r:Rpl}(h:Kd sm P x M f)(hc:Kc x c):Ch sm P x M (put y f c r):=by unfold put;split<;>exact⟨h,hc⟩
theorem dM(x:X)(M:Mc)(j sh:Nat)(g:Int):Ch sm P x M (further j sh g).1:=by unfold further;split<;>trivial
theorem jA(hP:OpsOk sm P){M:Mc}(hI:Ih sm M){x:X}{f:Fc}(hk:KF sm x f){w:Nat}(hw:∃lv,lv≤4∧w=plc lv (sumF x f)):Ch sm P x M (entered P x f w (M.W w) (M.Hd w)).1:=by
 have hsrt:Srt (M.Hd w):=by obtain⟨lv,hl,rfl⟩:=hw;exact hI.word (plc_32 hl _)
 unfold entered
 split
 ·exact hk
 ·unfold found
  cases f with
  | key =>
   have hd:Kd sm P x M (fdOf P x w (M.W w) (M.Hd w)):=⟨hk,hw,Int.le_refl _,fun _=>rfl,hsrt,rfl⟩
   have hc:=hd.cell hP
   show Ch sm P x M (foundK P x (fdOf P x w (M.W w) (M.Hd w))).1
   unfold foundK
   split
   ·exact hd
   ·split
    ·split
     ·exact gz _ _ _
     ·split
      ·exact nM hd (by unfold Kc;rw[hP.acq];exact hc)
      ·exact hd
    ·split
     ·split
      ·exact nM hd (by unfold Kc;rw[hP.rel];exact hc)
      ·trivial
     ·split
      ·trivial
      ·exact⟨hk,hc⟩
  | ev j sh g =>
   dsimp only
   split
   ·exact dM _ _ _ _ _
   ·exact⟨Int.le_refl _,fun _=>rfl,hsrt⟩
theorem on_ch{x:X}{M:Mc}{lv i:Nat}{up:Bool}{h:List Cel}(e:M.Hd (2^lv+i)=h):Ch sm P x M (on lv i up h):=by
 unfold on move;split
 ·split<;>trivial
 ·exact e
def dC(M:Mc):CS→Int
 | .pS f _ _=>if M.W f.w=f.v∧f.there=false then 1 else 0
 | .eS _ _ _ w v _ n=>if M.W w=v then -n else 0
 | _=>0
inductive OE(sm:List Int→Int)(P:Ops)(M:Mc)(x:X)(s:CS)(M':Mc):Prop
 | calm (hd:dC M s=0) (h:∀k,own sm M' k=own sm M k) (hn:∀f c r,s=.pS f c r→M.W f.w≠f.v:=by intro _ _ _ e;first|(cases e;done)|(cases e;assumption))
 | put (f:Fd) (c:Cel) (r:Rpl) (hs:s=.pS f c r) (hw:M.W f.w=f.v) (h0:own sm M (x.pol::x.key)=look f.h (x.pol::x.key)) (h:∀k,own sm M' k=if k=x.pol::x.key then some c else own sm M k)
 | evict (j sh:Nat) (g:Int) (w:Nat) (v:Int) (m:List Cel) (n:Int) (hs:s=.eS j sh g w v m n) (hw:M.W w=v) (t:Int) (ht:t≤M.clk) (hm:m=fY P (M.Hd w) t) (hn:n=((M.Hd w).length:Int)-m.length)
   (h:∀k,own sm M' k=if aZ M.W (sm k)=w then look m k else own sm M k)
structure Eff(sm:List Int→Int)(P:Ops)(M:Mc)(x:X)(s:CS)(o:Out):Prop where
 mono:iH M o.M
 ih:Ih sm o.M
 ch:Ch sm P o.x o.M o.s
 own:OE sm P M x s o.M
theorem Eff.same{M:Mc}{x x':X}{s s':CS}{r:Rs}(h:Ih sm M)(hc:Ch sm P x' M s')(hd:dC M s=0:=by rfl)(hn:∀f c r,s=.pS f c r→M.W f.w≠f.v:=by intro _ _ _ e;first|(cases e;done)|(cases e;assumption)):Eff sm P M x s ⟨M,x',s',r⟩:=⟨.refl M,h,hc,.calm hd (fun _=>rfl) hn⟩
theorem og{W:Nat→Int}{B:Int}(h:Iw W B)(hB:B+1<FZ){w:Nat}(hw:1≤w∧w<32)(hv:0<W w∧W w<FZ)(s:Int):aZ (upd W w (W w+1)) s=aZ W s:=by
 have hF:FZ=4611686018427387904:=rfl
 obtain⟨lv,i,hl,hi,rfl⟩:=aK hw
 have ho:=h.sh hl hi
 refine fv (upd_ne _ _ (by omega)) (fun p _=>?_) _
 by_cases ep:p=2^lv+i
 ·subst ep;rw[upd_same];unfold okW at ho;omega
 ·rw[upd_ne _ _ ep];simp
end Core
end
section
namespace Core
open Dir (FZ plc upd upW Iw okW de upd_same upd_ne pow_pos2 plc_sh bh sh_32 sh_16 bQ aK bM upW_sh)
open Hm (aZ bP fv cg d9 ku fw kv n8)
variable{sm:List Int→Int}{P:Ops}
theorem rc{lv i:Nat}{s:Int}(e:plc (lv+1) s=2^(lv+1)+i):2^lv+i%2^lv=plc lv s:=by
 have h3:=bh lv s
 rwa [e,Nat.add_sub_cancel_left]at h3
theorem gf(hP:OpsOk sm P){M:Mc}{B:Int}(h:Iw M.W B)(hB:1≤B∧B+1<FZ){x:X}{s:CS}(hs:Cw x M.W s)(hI:Ih sm M)(hc:Ch sm P x M s) :
  Eff sm P M x s (step P M x s):=by
 have hF:FZ=4611686018427387904:=rfl
 have hd:=h.d
 cases s with
 | none=>exact .same hI trivial
 | k0 f =>
  refine .same hI ?_
  show Ch sm P x M (if _ then _ else _)
  split
  ·exact⟨hc,_,by omega,rfl⟩
  ·exact hc
 | kE f w=>exact .same hI (jA hP hI hc.1 hc.2)
 | kF f lv w =>
  obtain⟨z,a,b,d⟩:=hs
  refine .same hI ?_
  show Ch sm P x M (if _ then _ else _)
  split
  ·exact⟨hc,by rw[Nat.add_sub_cancel];exact congrArg M.Hd b.symm⟩
  ·exact⟨hc,Int.le_refl _,fun _=>rfl⟩
 | kG f lv w v m =>
  obtain⟨z,a,b,d,e⟩:=hs
  obtain⟨hop,c1,c2⟩:=hc
  by_cases hm:M.W w=v
  ·simp only[step,if_pos hm]
   obtain⟨i,h1,h2⟩:=plc_sh lv (sumF x f)
   have hb:=b
   rw[h2]at hb
   have hHd:=c2 hm
   subst hb
   obtain⟨g1,g2,g3⟩:=js h hI a h1 d e hm hHd
   refine⟨g1,g2,⟨hop,?_⟩,.calm rfl g3⟩
   rw[Nat.add_sub_cancel]
   show upd M.Hd _ m (plc lv (sumF x f))=m
   rw[h2,upd_same]
  ·simp only[step,if_neg hm]
   exact .same hI hop
 | kH f lv w m =>
  obtain⟨z,a,b,d,e,g⟩:=hs
  by_cases hm:M.W w=0
  ·simp only[step,if_pos hm];exact .same hI hc
  ·simp only[step,if_neg hm];exact .same hI (jA hP hI hc.1 ⟨lv,b,d⟩)
 | kL f lv w m =>
  obtain⟨z,a,b,d,e,g⟩:=hs
  obtain⟨hop,hHd⟩:=hc
  by_cases hm:M.W w=0
  ·simp only[step,if_pos hm]
   obtain⟨l,rfl⟩:∃l,lv=l+1:=⟨lv-1,by omega⟩
   obtain⟨i,h1,h2⟩:=plc_sh (l+1) (sumF x f)
   rw[Nat.add_sub_cancel]at g hHd
   have hlow:=rc h2
   have hb:=d
   rw[h2]at hb
   subst hb
   have g:=rj hP h hI (by omega) h1 (by omega) hm (by rw[hlow];exact g) (m:=m) (by rw[hlow];exact hHd)
   rw[Nat.add_sub_cancel_left]
   exact⟨g.1,g.2.1,⟨hop,l+1,b,d⟩,.calm rfl g.2.2⟩
  ·simp only[step,if_neg hm]
   exact .same hI ⟨hop,lv,b,d⟩
 | al f =>
  simp only[step]
  split
  ·exact .same hI (gz _ _ _)
  ·exact .same hI (nM hc (by unfold Kc;rw[hP.allow];exact Kd.cell hP hc))
 | pk c=>exact .same hI trivial
 | a0 f =>
  simp only[step]
  split
  ·exact .same hI (gz _ _ _)
  ·exact .same hI hc
 | a1 f u =>
  by_cases hm:M.W 33=u
  ·simp only[step,if_pos hm]
   refine⟨.hi _ (by omega) _ _,hI.hi (by omega) _ _,?_,.calm rfl fun k=>qN h (by omega) _ _ k⟩
   have hk:Kd sm P { x with ser:=u+1 } (M.set 33 (u+1) []) f:=(iH.kd (iH.hi M (by omega) (u+1) []) hs.1 hc).ser (u+1)
   have hcell:idn f.cell=x.pol::x.key:=Kd.cell hP (show Kd sm P x M f from hc)
   exact nM (y:=x) hk (by show idn (P.acq (P.pol x.pol) f.cell (u+1)).2=x.pol::x.key;rw[hP.acq];exact hcell)
  ·simp only[step,if_neg hm];exact .same hI hc
 | p0 f c r =>
  simp only[step]
  split
  ·exact .same hI trivial
  ·exact .same hI hc
 | p1 f c r u =>
  by_cases hm:M.W 32=u
  ·simp only[step,if_pos hm]
   refine⟨.hi _ (by omega) _ _,hI.hi (by omega) _ _,?_,.calm rfl fun k=>qN h (by omega) _ _ k⟩
   exact⟨(iH.kd (iH.hi M (by omega) (u+1) []) hs.1 hc.1).res true,hc.2⟩
  ·simp only[step,if_neg hm];exact .same hI hc
 | pS f c r =>
  obtain⟨⟨a,b,d,e⟩,g,k⟩:=hs
  obtain⟨hk,hid⟩:=hc
  by_cases hm:M.W f.w=f.v
  ·simp only[step,if_pos hm]
   have hHd:=hk.hd hm
   have hwt:=hP.wth f.h x.pol x.key c hk.srt hk.k.1 hid
   have e1:f.at'=(P.fnd f.h x.pol x.key).1:=by rw[hk.fd];rfl
   have e2:f.there=(P.fnd f.h x.pol x.key).2.1:=by rw[hk.fd];rfl
   rw[← e1,← e2]at hwt
   have hlv:0<M.W f.w∧M.W f.w<FZ:=by omega
   obtain⟨lv,hl,hwe⟩:=hk.lv
   have hsum:x.sum=sm (x.pol::x.key):=hk.k.2
   have hhome:aZ M.W (sm (x.pol::x.key))=f.w:=by rw[← hsum,hwe];rw[hwe]at hlv;exact cg h hl hlv
   obtain⟨i,h1,h2⟩:=plc_sh lv x.sum
   refine⟨.set (by omega) (by omega),?_,?_,.put f c r rfl hm ?_ fun q=>?_⟩
   ·show Ih sm (M.set f.w (f.v+1) _)
    rw[hwe,h2]
    refine hI.set hl h1 hwt.1 fun y hy=>?_
    have hy2:=hwt.1.look_of hy
    rw[hwt.2]at hy2
    by_cases ey:idn y=x.pol::x.key
    ·rw[ey,← hsum];exact cz.1 h2
    ·rw[if_neg ey]at hy2
     have:=(bG hy2).1
     rw[← hHd,hwe,h2]at this
     exact(hI lv i hl h1).2 y this
   ·show Ch sm P x _ (if _ then _ else _:CS×Rs).1
    split
    ·exact gz _ _ _
    ·trivial
   ·unfold own;rw[hhome,hHd]
   ·unfold own
    show look (upd M.Hd f.w _ (aZ (upd M.W f.w (f.v+1)) (sm q))) q=_
    have hh:aZ (upd M.W f.w (f.v+1)) (sm q)=aZ M.W (sm q):=by rw[← hm];exact og h hB.2 ⟨a,b⟩ hlv _
    rw[hh]
    by_cases ew:aZ M.W (sm q)=f.w
    ·rw[ew,upd_same,hwt.2,hHd]
    ·rw[upd_ne _ _ ew,if_neg]
     intro e3;subst e3;exact ew hhome
  ·simp only[step,if_neg hm];exact .same hI hk.k (by simp[dC,hm])
 | b0 n k=>exact .same hI trivial
 | b1 n k u =>
  by_cases hm:M.W 32=u
  ·simp only[step,if_pos hm]
   refine⟨.hi _ (by omega) _ _,hI.hi (by omega) _ _,?_,.calm rfl fun k=>qN h (by omega) _ _ k⟩
   show Ch sm P x _ (after n k).1
   cases k with
   | lv r=>trivial
   | ev j sh g=>exact dM _ _ _ _ _
  ·simp only[step,if_neg hm];exact .same hI trivial
 | e0=>exact .same hI trivial
 | eC j sh g w v m =>
  simp only[step]
  split
  ·exact .same hI (dM _ _ _ _ _)
  ·exact .same hI ⟨hc.1,m,M.clk,hc.2.2,hc.2.1,Int.le_refl _,rfl,rfl⟩
 | eS j sh g w v m n =>
  obtain⟨a,b,c,d,e,e',k⟩:=hs
  obtain⟨c1,h0,t,c2,c3,c4,c5,c6⟩:=hc
  by_cases hm:M.W w=v
  ·simp only[step,if_pos hm]
   have hHd:=c3 hm
   have hlv:0<M.W w∧M.W w<FZ:=by omega
   obtain⟨lv,i,hl,h1,h2⟩:=aK ⟨c,d⟩
   have hsr:Srt m:=by rw[c5];exact c2.filter _
   refine⟨.set (by omega) (by omega),?_,trivial,.evict j sh g w v m n rfl hm t c4 (by rw[hHd];exact c5) (by rw[hHd];exact c6) fun q=>?_⟩
   ·show Ih sm (M.set w (v+1) _)
    rw[h2]
    refine hI.set hl h1 hsr fun y hy=>?_
    have hy2:y∈h0:=by rw[c5]at hy;exact(List.mem_filter.1 hy).1
    rw[← hHd,h2]at hy2
    exact(hI lv i hl h1).2 y hy2
   ·unfold own
    show look (upd M.Hd w _ (aZ (upd M.W w (v+1)) (sm q))) q=_
    have hh:aZ (upd M.W w (v+1)) (sm q)=aZ M.W (sm q):=by rw[← hm];exact og h hB.2 ⟨c,d⟩ hlv _
    rw[hh]
    by_cases ew:aZ M.W (sm q)=w
    ·rw[ew,upd_same,if_pos rfl]
    ·rw[upd_ne _ _ ew,if_neg ew]
  ·simp only[step,if_neg hm];exact .same hI (dM _ _ _ _ _) (by simp[dC,hm])
 | s0 =>
  simp only[step]
  split
  ·exact .same hI trivial
  ·split<;>exact .same hI trivial
 | sM lv =>
  by_cases hm:M.W 0=2*lv
  ·simp only[step,if_pos hm]
   exact⟨.set (by omega) (by omega),hI.set0,trivial,.calm rfl fun k=>own_0 (fun s=>fw h hs hm s) k⟩
  ·simp only[step,if_neg hm];exact .same hI trivial
 | sF lv i =>
  refine .same hI ?_
  show Ch sm P x M (if _ then _ else _)
  split
  ·rfl
  ·exact⟨Int.le_refl _,fun _=>rfl⟩
 | sG lv i v m =>
  obtain⟨a,b,d,e,f⟩:=hs
  by_cases hm:M.W (2^lv+i)=v
  ·simp only[step,if_pos hm]
   obtain⟨g1,g2,g3⟩:=js h hI a b d f hm (hc.2 hm)
   refine⟨g1,g2,?_,.calm rfl g3⟩
   show upd M.Hd _ m _=m
   rw[upd_same]
  ·simp only[step,if_neg hm];exact .same hI trivial
 | sH lv i up m =>
  refine .same hI ?_
  show Ch sm P x M (if _ then _ else _)
  split
  ·exact hc
  ·exact on_ch hc
 | sL lv i up m =>
  obtain⟨a,b,d,e,f,g⟩:=hs
  obtain⟨j,h1,h2,h3⟩:=upW_sh (up:=up) b
  by_cases hm:M.W (upW lv i up)=0
  ·simp only[step,if_pos hm]
   rw[h2]at hm⊢
   rw[Nat.add_sub_cancel_left]
   have g:=rj hP h hI a h1 d hm (by rw[h3];exact f) (m:=m) (by rw[h3];exact hc)
   refine⟨g.1,g.2.1,on_ch ?_,.calm rfl g.2.2⟩
   show upd M.Hd _ _ _=m
   rw[upd_ne _ _ (fun e9=>by have:=bQ b h1 e9;omega)]
   exact hc
  ·simp only[step,if_neg hm];exact .same hI (on_ch hc)
 | sV lv =>
  obtain⟨a,b,d⟩:=hs
  by_cases hm:M.W 0=2*lv+1
  ·simp only[step,if_pos hm]
   exact⟨.set (by omega) (by omega),hI.set0,trivial,.calm rfl fun k=>own_0 (fun s=>kv hm d s) k⟩
  ·simp only[step,if_neg hm];exact .same hI trivial
end Core
end
end Go.Proofs.YtgkpjebgcfjfnaaGreat
