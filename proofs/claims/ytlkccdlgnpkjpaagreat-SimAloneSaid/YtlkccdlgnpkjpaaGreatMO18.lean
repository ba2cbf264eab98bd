/- Lemmas of Ce1, Ce2, Sx25b. No condition. -/
import Derived.Test.YtlkccdlgnpkjpaaGreatMO17
set_option linter.unusedVariables false
set_option linter.unusedSimpArgs false
set_option linter.unusedSectionVars false
set_option maxHeartbeats 80000000
set_option maxRecDepth 100000
namespace Go.Proofs.YtlkccdlgnpkjpaaGreat
open Go.RowKit
section
namespace Core
open Dir (FZ plc upd Iw upd_same upd_ne plc_sh sh_32)
variable{P:Ops}
def Gf:Fc→Prop
 | .key=>True
 | .ev j _ g=>0≤g∧g≤j*16000000
def Gb(n:Int):Bk→Prop
 | .lv _=>True
 | .ev j _ g=>(0≤g∧g≤j*16000000)∧n≤16000000
def Gk:CS→Prop
 | .k0 f=>Gf f
 | .kE f _=>Gf f
 | .kF f _ _=>Gf f
 | .kG f _ _ _ _=>Gf f
 | .kH f _ _ _=>Gf f
 | .kL f _ _ _=>Gf f
 | .eC j _ g _ _ _=>0≤g∧g≤j*16000000
 | .eS j _ g _ _ _ n=>(0≤g∧g≤j*16000000)∧n≤16000000
 | .b0 n k=>Gb n k
 | .b1 n k _=>Gb n k
 | _=>True
theorem gY(x:X)(r:Rpl):Gk (leave x r).1:=by unfold leave;split<;>trivial
theorem oS(x:X)(f:Fd)(c:Cel)(r:Rpl):Gk (put x f c r):=by unfold put;split<;>trivial
theorem eb{j sh:Nat}{g:Int}(h:0≤g∧g≤((j:Int)+1)*16000000):Gk (further j sh g).1:=by
 unfold further
 split
 ·trivial
 ·show 0≤g∧g≤((j+1:Nat):Int)*16000000
  omega
theorem y6{n:Int}{k:Bk}(hn:0≤n)(h:Gb n k):Gk (after n k).1:=by
 cases k with
 | lv r=>trivial
 | ev j sh g =>
  obtain⟨⟨h1,h2⟩,h3⟩:=h
  exact eb (by omega)
theorem th(x:X)(f:Fd):Gk (foundK P x f).1:=by
 unfold foundK
 split
 ·trivial
 split
 ·split
  ·exact gY _ _
  ·split
   ·exact oS _ _ _ _
   ·trivial
 split
 ·split
  ·exact oS _ _ _ _
  ·trivial
 split<;>trivial
theorem kr{x:X}{f:Fc}(h:Gf f)(w:Nat)(v:Int)(l:List Cel):Gk (entered P x f w v l).1:=by
 unfold entered
 split
 ·exact h
 ·unfold found
  split
  ·exact th _ _
  ·rename_i j sh g
   have h':0≤g∧g≤(j:Int)*16000000:=h
   split
   ·exact eb (by omega)
   ·exact h
theorem on_gk(lv i:Nat)(up:Bool)(h:List Cel):Gk (on lv i up h):=by
 unfold on move
 split
 ·split<;>trivial
 ·trivial
theorem step_gk{ps:List Pol}{room:Int}{n:Nat}(hn:n≤16000000){M:Mc}{x:X}{s:CS}(hs:Cw x M.W s)(hk:okH ps n x s)(h:Gk s):Gk (step (aa ps room) M x s).s:=by
  cases s with
  | none=>trivial
  | k0 f=>simp only[step];split<;>exact h
  | kE f w=>exact kr h _ _ _
  | kF f lv w=>simp only[step];split<;>exact h
  | kG f lv w v l=>simp only[step];split<;>exact h
  | kH f lv w l =>
    simp only[step];split
    ·exact h
    ·exact kr h _ _ _
  | kL f lv w l=>exact h
  | al f =>
    simp only[step];split
    ·exact gY _ _
    ·exact oS _ _ _ _
  | pk c=>trivial
  | a0 f =>
    simp only[step];split
    ·exact gY _ _
    ·trivial
  | a1 f u =>
    simp only[step];split
    ·exact oS _ _ _ _
    ·trivial
  | p0 f c r=>simp only[step];split<;>trivial
  | p1 f c r u=>simp only[step];split<;>trivial
  | pS f c r =>
    simp only[step];split
    · show Gk (if f.there=true then leave x r else(.none,⟨true,r⟩)).1
      split
      ·exact gY _ _
      ·trivial
    ·trivial
  | b0 k b=>exact h
  | b1 k b u =>
    simp only[step];split
    ·exact y6 (by have:=hs.1;omega) h
    ·exact h
  | e0=>show(0:Int)≤0∧(0:Int)≤((0:Nat):Int)*16000000;omega
  | eC j sh g w v l =>
    have h':0≤g∧g≤(j:Int)*16000000:=h
    have hl:l.length≤n:=Hc.len hk
    simp only[step];split
    ·exact eb (by omega)
    ·exact⟨h',by omega⟩
  | eS j sh g w v m k =>
    obtain⟨h',hk'⟩:=h
    simp only[step];split
    ·exact⟨h',hk'⟩
    ·exact eb (by omega)
  | s0 => simp only[step];split
          ·trivial
          ·split<;>trivial
  | sM lv=>simp only[step];split<;>trivial
  | sF lv i=>simp only[step];split<;>trivial
  | sG lv i v l=>simp only[step];split<;>trivial
  | sH lv i up l =>
    simp only[step];split
    ·trivial
    ·exact on_gk _ _ _ _
  | sL lv i up l=>exact on_gk _ _ _ _
  | sV lv=>trivial
def Uk(n:Nat):CS→Prop
 | .a1 _ u=>0≤u∧u≤n
 | .p1 _ _ _ u=>0≤u∧u≤4096
 | .b1 _ _ u=>0≤u∧u≤4096
 | _=>True
theorem Uk.mono{n m:Nat}(e:n≤m){s:CS}(h:Uk n s):Uk m s:=by
 cases s<;>first|trivial|exact h|(have h1:=h.1;have h2:=h.2;exact⟨h1,by omega⟩)
theorem gV(n:Nat)(x:X)(r:Rpl):Uk n (leave x r).1:=by unfold leave;split<;>trivial
theorem oQ(n:Nat)(x:X)(f:Fd)(c:Cel)(r:Rpl):Uk n (put x f c r):=by unfold put;split<;>trivial
theorem d8(n:Nat)(j sh:Nat)(g:Int):Uk n (further j sh g).1:=by unfold further;split<;>trivial
theorem tg(n:Nat)(x:X)(f:Fd):Uk n (foundK P x f).1:=by
 unfold foundK
 split
 ·trivial
 split
 ·split
  ·exact gV _ _ _
  ·split
   ·exact oQ _ _ _ _ _
   ·trivial
 split
 ·split
  ·exact oQ _ _ _ _ _
  ·trivial
 split<;>trivial
theorem km(n:Nat)(x:X)(f:Fc)(w:Nat)(v:Int)(l:List Cel):Uk n (entered P x f w v l).1:=by
 unfold entered
 split
 ·trivial
 ·unfold found
  split
  ·exact tg _ _ _
  ·split
   ·exact d8 _ _ _ _
   ·trivial
theorem on_uk(n lv i:Nat)(up:Bool)(h:List Cel):Uk n (on lv i up h):=by
 unfold on move
 split
 ·split<;>trivial
 ·trivial
theorem step_uk{n:Nat}{M:Mc}(h32:0≤M.W 32∧M.W 32≤4096)(h33:0≤M.W 33∧M.W 33≤n){x:X}{s:CS}(h:Uk n s):Uk n (step P M x s).s:=by
  cases s with
  | none=>trivial
  | k0 f=>simp only[step];split<;>trivial
  | kE f w=>exact km _ _ _ _ _ _
  | kF f lv w=>simp only[step];split<;>trivial
  | kG f lv w v l=>simp only[step];split<;>trivial
  | kH f lv w l =>
    simp only[step];split
    ·trivial
    ·exact km _ _ _ _ _ _
  | kL f lv w l=>trivial
  | al f =>
    simp only[step];split
    ·exact gV _ _ _
    ·exact oQ _ _ _ _ _
  | pk c=>trivial
  | a0 f =>
    simp only[step];split
    ·exact gV _ _ _
    ·exact h33
  | a1 f u =>
    simp only[step];split
    ·exact oQ _ _ _ _ _
    ·trivial
  | p0 f c r =>
    simp only[step];split
    ·trivial
    ·exact h32
  | p1 f c r u=>simp only[step];split<;>trivial
  | pS f c r =>
    simp only[step];split
    · show Uk n (if f.there=true then leave x r else(.none,⟨true,r⟩)).1
      split
      ·exact gV _ _ _
      ·trivial
    ·trivial
  | b0 k b=>exact h32
  | b1 k b u =>
    simp only[step];split
    · show Uk n (after k b).1
      cases b with
      | lv r=>trivial
      | ev j sh g=>exact d8 _ _ _ _
    ·trivial
  | e0=>trivial
  | eC j sh g w v l =>
    simp only[step];split
    ·exact d8 _ _ _ _
    ·trivial
  | eS j sh g w v m k =>
    simp only[step];split
    ·trivial
    ·exact d8 _ _ _ _
  | s0 => simp only[step];split
          ·trivial
          ·split<;>trivial
  | sM lv=>simp only[step];split<;>trivial
  | sF lv i=>simp only[step];split<;>trivial
  | sG lv i v l=>simp only[step];split<;>trivial
  | sH lv i up l =>
    simp only[step];split
    ·trivial
    ·exact on_uk _ _ _ _ _
  | sL lv i up l=>exact on_uk _ _ _ _ _
  | sV lv=>trivial
theorem step_clk(M:Mc)(x:X)(s:CS):(step P M x s).M.clk=M.clk:=by
 cases s with
 | s0=>simp only[step];split;rfl;split<;>rfl
 | _=>(first|rfl|(simp only[step];split<;>rfl))
theorem sf{f:Nat→Int}:∀{n i:Nat},i<n→(∀j,j<n→0≤f j)→f i≤sumI n f
 | 0,i,h,_=>by omega
 | n+1,i,h,hh=>by
  simp only[sumI]
  have h0:=nL (f:=f) (n:=n) fun j hj=>hh j (by omega)
  by_cases e:i=n
  ·subst e;omega
  ·have:=sf (f:=f) (n:=n) (i:=i) (by omega) fun j hj=>hh j (by omega)
   have:=hh n (by omega)
   omega
end Core
structure eW(ps:List Pol)(room:Int)(k:Nat)(M:Core.Mc)(S:Nat→Core.Wk)(xs:Nat→XB)(nl:Nat)(cnt:Int):Prop where
 all:Core.All cC (aa ps room) M S ((k:Int)+1)
 busy:Busy S
 hd:∀w,Hc ps k (M.Hd w)
 ok:∀j,Core.okH ps k (S j).x (S j).s
 gk:∀j,Core.Gk (S j).s
 uk:∀j,Core.Uk k (S j).s
 xe:∀j,(S j).s≠.none→xs (aX j)=⟨9,xF j (S j).x⟩
 xl:∀i j,SV.Lt 1 ((xs i).f j)
 nl:nl≤128
 cnt:cnt=(k:Int)+1
 clk:0≤M.clk∧M.clk≤4611686018427387903
 c33:M.W 33≤k
 ps:cr ps=0
 room:1≤room∧room≤4096
variable{ps:List Pol}{room:Int}{k:Nat}{M:Core.Mc}{S:Nat→Core.Wk}{xs:Nat→XB}{nl:Nat}{cnt:Int}
theorem eW.c32(h:eW ps room k M S xs nl cnt):0≤M.W 32∧M.W 32≤4096:=by
 have h1:=h.all.ge
 have h2:=h.all.room
 have h3:=h.room
 have h4:(aa ps room).room=room:=rfl
 omega
theorem eW.cok(h:eW ps room k M S xs nl cnt)(hk:k≤1000000)(w:Nat)(hw:w<64):COK ps room w (gOf (aa ps room) 4 S) M xs nl cnt :=
 ⟨by omega,by omega,h.nl,by have:=h.cnt;omega,by have:=h.cnt;omega,oi _ _,h.xl,h.all.inv.iw.d.1,h.all.inv.iw.d.2,fun w=>(h.hd w).mono (by omega),h.ps,h.room,h.c32,by have:=h.all.inv.c33;have:=h.c33;omega⟩
open Core in
theorem eW.okC(h:eW ps room k M S xs nl cnt)(hk:k≤1000000){w:Nat}(hw:w<64):okC ps M (S w).x (S w).s:=by
 have hcw:=h.all.inv.cw w
 have hH:=h.ok w
 have hG:=h.gk w
 have hU:=h.uk w
 have hO:owes (S w).x (S w).s≤M.W 32:=by
  have h1:=sf (f:=fun i=>owes (S i).x (S i).s) (n:=64) hw fun j _=>sg (h.all.inv.cw j)
  have h2:=h.all.cnt
  omega
 have p32:∀lv,lv≤4→∀s:Int,2^lv≤Dir.plc lv s∧Dir.plc lv s<32:=fun lv hl s=>by
  obtain⟨i,h1,h2⟩:=Dir.plc_sh lv s
  rw[h2];exact⟨by omega,(Dir.sh_32 hl h1).2⟩
 generalize (S w).x=x at hcw hH hO⊢
 generalize (S w).s=s at hcw hH hG hU hO⊢
 cases s with
 | kE f w=>exact⟨hcw.2.2,hH,hcw.1⟩
 | kF f lv w=>exact⟨hcw.2.1,by rw[hcw.2.2.1];exact(p32 _ (by have:=hcw.2.1;omega) _).2⟩
 | kG f lv w v l=>exact⟨⟨hcw.2.1,by rw[hcw.2.2.1];exact(p32 _ (by have:=hcw.2.1;omega) _).2⟩,hH.2.2,hcw.2.2.2.2⟩
 | kH f lv w l=>exact⟨by rw[hcw.2.2.2.1];exact(p32 _ hcw.2.2.1 _).2,hH.1,hcw.1⟩
 | kL f lv w l=>exact⟨⟨hcw.2.2.1,by rw[hcw.2.2.2.1];exact(p32 _ hcw.2.2.1 _).1,by rw[hcw.2.2.2.1];exact(p32 _ hcw.2.2.1 _).2⟩,Hc.mono hH.2 (by omega)⟩
 | pk c=>exact hH
 | a1 f u=>have:=hU.1;have:=hU.2;exact⟨by omega,by omega⟩
 | p1 f c r u=>have:=hU.1;have:=hU.2;exact⟨by omega,by omega⟩
 | pS f c r=>exact⟨⟨hH.1.k,Fdk.mono (by omega) hH.1,hH.2⟩,⟨hcw.1.1,hcw.1.2.1⟩,Int.le_of_lt hcw.1.2.2.1,hcw.1.2.2.2⟩
 | b1 n b u =>
  have h1:=hU.1;have h2:=hU.2
  have hO:n≤M.W 32:=hO
  refine⟨⟨⟨hcw.1,?_⟩,by omega,by omega⟩,fun e=>by omega,hcw.2,?_⟩
  ·have:=h.c32;omega
  ·rintro j sh gn rfl
   obtain⟨⟨g1,g2⟩,g3⟩:=hG
   have hb:j<sh∧sh≤16:=hcw.2
   exact⟨g1,by omega⟩
 | eC j sh g w v l=>exact⟨⟨hcw.1,hcw.2.1⟩,Hc.mono hH (by omega)⟩
 | eS j sh g w v m n =>
  obtain⟨a,b,c,d,e,f,g'⟩:=hcw
  exact⟨⟨a,b⟩,⟨c,d⟩,⟨Int.le_of_lt e,f⟩,g',by have:=hG.2;omega⟩
 | sM lv=>exact hcw
 | sF lv i=>exact⟨hcw.1,hcw.2.1⟩
 | sG lv i v l=>exact⟨⟨hcw.1,hcw.2.1⟩,hH.2,hcw.2.2.2.2⟩
 | sH lv i up l=>exact⟨hcw.1,hcw.2.1⟩
 | sL lv i up l=>exact⟨⟨hcw.1,hcw.2.1⟩,Hc.mono hH (by omega)⟩
 | sV lv=>exact hcw.1
 | _=>trivial
open Core in
theorem xJ{M:Mc}{B:Int}(h:Dir.Iw M.W B)(hB:1≤B∧B+1<Dir.FZ){x:X}(hx:0≤x.ser)(h33:0≤M.W 33){s:CS}(hs:Cw x M.W s){P:Ops}:(Core.step P M x s).M.W 33≤M.W 33+1:=by
 cases(io (P:=P) h hB hx h33 hs).chg with
 | no h=>rw[h];omega
 | d h1 h2=>rw[h1,Dir.upd_ne _ _ (by omega)];omega
 | fz w h0 h1 h2=>rw[h2,Dir.upd_ne _ _ (by omega)];omega
 | lay w h0 h1 h2=>rw[h2,Dir.upd_ne _ _ (by omega)];omega
 | key w h0 h1 h2=>rw[h2,Dir.upd_ne _ _ (by omega)];omega
 | cnt y h2=>rw[h2,Dir.upd_ne _ _ (by omega)];omega
 | ser h1 h2=>rw[h2,Dir.upd_same];omega
theorem eW.step(h:eW ps room k M S xs nl cnt)(hk:k≤1000000){w:Nat}(hw:w<8∨w=9)(hn:isC (S w).s=true) :
  eW ps room (k+1) (Core.mx (aa ps room) M S w) (Core.nx (aa ps room) M S w) (xsU xs (aX w) ⟨9,xF w (Core.step (aa ps room) M (S w).x (S w).s).x⟩) (aC nl) (cnt+1):=by
 have hw64:w<64:=by omega
 have hB:((k:Int)+1)+1<Dir.FZ:=by unfold Dir.FZ;omega
 have hI:=h.all.inv
 have h1:=Core.step_H (room:=room) hI.iw h.hd (hI.cw w) (h.ok w)
 have h33:=xJ (P:=aa ps room) hI.iw ⟨hI.b,hB⟩ (hI.ser w) hI.c33 (hI.cw w)
 have at_:∀{q:Nat→Core.Wk→Prop},q w ⟨(Core.step (aa ps room) M (S w).x (S w).s).x,(Core.step (aa ps room) M (S w).x (S w).s).s⟩→(∀j,j≠w→q j (S j))→∀j,q j (Core.nx (aa ps room) M S w j):=fun {q} g1 g2 j=>by
  unfold Core.nx
  by_cases e:j=w
  ·subst e;rw[Dir.upd_same];exact g1
  ·rw[Dir.upd_ne _ _ e];exact g2 j e
 refine⟨?_,?_,h1.1,at_ (q:=fun _ z=>Core.okH ps (k+1) z.x z.s) h1.2 fun j _=>(h.ok j).mono (Nat.le_succ k),at_ (q:=fun _ z=>Core.Gk z.s) (Core.step_gk (by omega) (hI.cw w) (h.ok w) (h.gk w)) fun j _=>h.gk j,
  at_ (q:=fun _ z=>Core.Uk (k+1) z.s) ((Core.step_uk h.c32 ⟨hI.c33,h.c33⟩ (h.uk w)).mono (Nat.le_succ k)) fun j _=>(h.uk j).mono (Nat.le_succ k),?_,rh h.xl _ _ _,ya h.nl,by have:=h.cnt;omega,?_,?_,h.ps,h.room⟩
 ·have:=h.all.step (bR ps room) hB hw64
  rwa [show((k+1:Nat):Int)+1=(k:Int)+1+1 by omega]
 ·exact at_ (q:=fun j z=>z.s≠.none→j<8∨j=9) (fun _=>hw) fun j _=>h.busy j
 ·refine at_ (q:=fun j z=>z.s≠.none→xsU xs (aX w) ⟨9,xF w (Core.step (aa ps room) M (S w).x (S w).s).x⟩ (aX j)=⟨9,xF j z.x⟩) (fun _=>?_) fun j hne hs=>?_
  ·unfold xsU;rw[Nat.beq_refl,cond_true]
  ·have:=nN h.busy hw hs hne
   unfold xsU
   have hb:Nat.beq (aX j) (aX w)=false:=by
    cases e:Nat.beq (aX j) (aX w)with
    | false=>rfl
    | true=>exact absurd (Q2 e) this
   rw[hb,cond_false];exact h.xe j hs
 ·unfold Core.mx;rw[Core.step_clk];exact h.clk
 ·have:=h.c33
  show(Core.step (aa ps room) M (S w).x (S w).s).M.W 33≤_
  omega
theorem eW.start(h:eW ps room k M S xs nl cnt){w:Nat}(hw:w<8∨w=9)(hn:(S w).s=.none){op pol:Int}{key:List Int}{n:Int}(hk:op≠5→op≠6→Core.Kx ps (aJ op pol key n)) :
  eW ps room k M (Dir.upd S w ⟨aJ op pol key n,Core.first (aJ op pol key n)⟩) (xsU xs (aX w) ⟨9,xF w (aJ op pol key n)⟩) nl cnt:=by
 have hl:=cT h.ps
 have hx:Core.okNew cC (aJ op pol key n):=by
  refine⟨rfl,rfl,?_⟩
  by_cases h5:op=5
  ·exact .inl h5
  ·by_cases h6:op=6
   ·exact .inr (.inl h6)
   ·have hq:=hk h5 h6
    have hid:fQ pol key:=by
     have h1:0≤pol∧pol<ps.length:=hq.pol
     exact⟨h1.1,by omega,hq.key⟩
    refine .inr (.inr ⟨hid,?_⟩)
    show cC (bW pol key)=cC (pol::key)
    rw[fl hid]
 have at_:∀{q:Nat→Core.Wk→Prop},q w ⟨aJ op pol key n,Core.first (aJ op pol key n)⟩→(∀j,j≠w→q j (S j))→∀j,q j (Dir.upd S w ⟨aJ op pol key n,Core.first (aJ op pol key n)⟩ j):=fun {q} g1 g2 j=>by
  by_cases e:j=w
  ·subst e;rw[Dir.upd_same];exact g1
  ·rw[Dir.upd_ne _ _ e];exact g2 j e
 refine⟨h.all.start (by omega) hn hx,at_ (q:=fun j z=>z.s≠.none→j<8∨j=9) (fun _=>hw) fun j _=>h.busy j,h.hd,at_ (q:=fun _ z=>Core.okH ps k z.x z.s) ?_ fun j _=>h.ok j,at_ (q:=fun _ z=>Core.Gk z.s) ?_ fun j _=>h.gk j,at_ (q:=fun _ z=>Core.Uk k z.s) ?_ fun j _=>h.uk j,?_,rh h.xl _ _ _,h.nl,h.cnt,h.clk,h.c33,h.ps,h.room⟩
 ·show Core.okH ps k (aJ op pol key n) (Core.first (aJ op pol key n))
  unfold Core.first
  split
  ·trivial
  ·split
   ·trivial
   ·exact hk (by assumption) (by assumption)
 ·show Core.Gk (Core.first (aJ op pol key n))
  unfold Core.first;(repeat' split)<;>trivial
 ·show Core.Uk k (Core.first (aJ op pol key n))
  unfold Core.first;(repeat' split)<;>trivial
 ·refine at_ (q:=fun j z=>z.s≠.none→xsU xs (aX w) ⟨9,xF w (aJ op pol key n)⟩ (aX j)=⟨9,xF j z.x⟩) (fun _=>?_) fun j hne hs=>?_
  ·unfold xsU;rw[Nat.beq_refl,cond_true]
  ·have:=nN h.busy hw hs hne
   unfold xsU
   have hb:Nat.beq (aX j) (aX w)=false:=by
    cases e:Nat.beq (aX j) (aX w)with
    | false=>rfl
    | true=>exact absurd (Q2 e) this
   rw[hb,cond_false];exact h.xe j hs
theorem eW.tick(h:eW ps room k M S xs nl cnt){t:Int}(ht:M.clk≤t∧t≤4611686018427387903):eW ps room k ⟨M.W,M.Hd,t⟩ S xs nl cnt :=
 ⟨h.all.tick ht.1,h.busy,h.hd,h.ok,h.gk,h.uk,h.xe,h.xl,h.nl,h.cnt,by have:=h.clk;exact⟨by show 0≤t;omega,ht.2⟩,h.c33,h.ps,h.room⟩
theorem eW.zero(hp:cr ps=0)(hr:1≤room∧room≤4096):eW ps room 0 Core.M0 (fun _=>⟨default,.none⟩) (fun _=>⟨0,fun _=>.any⟩) (aC 0) 1 :=
 ⟨.zero (show(0:Int)≤room by omega),fun _ h=>absurd rfl h,fun _=>Hc.nil,fun _=>trivial,fun _=>trivial,fun _=>trivial,fun _ h=>absurd rfl h,fun _ _=>.any,by decide,rfl,⟨Int.le_refl _,by show(0:Int)≤_;decide⟩,by show Dir.M0.W 33≤_;decide,hp,hr⟩
end
section
theorem sD:Fun TC 95 0 [.i .i64 34] [] 3 (.tup [.ptr 0 0,.i .i64 0]) [(0,some (cu 1 2 34 0 0 0)),(1,some (co 34 fun _=>0)),(2,some (bK 0 fun _=>[]))]:=by
 refine Fun.mk' Tryz.func95 rfl rfl zN (by decide) ?_
 (repeat' (first|((first|refine Wp.any ac rfl ?_|(with_reducible first|refine Go.mk ?_|apply ai.of|refine And.intro zC ?_));conv=>whnf)))
 refine af.virtC 1 3 216 6 (fun _=>[]) (by decide) rfl rfl (by decide) ?_
 (refine af.sealB [1,0,2] rfl rfl rfl ?_ ?_);(focus((conv=>whnf);(repeat' (first|exact zE|((refine aj.tup ?_);(conv=>whnf))|((refine And.intro ?_ ?_)<;>(conv=>whnf))))));(focus((conv=>whnf);(repeat' (first|exact zE|((refine And.intro ?_ ?_)<;>(conv=>whnf))))))
theorem qS:Fun TC 68 0 [.i .i64 34] [] 4 (ji 0 2) [(0,some (cu 1 3 34 0 0 0)),(1,some (co 34 fun _=>0)),(2,some (gK fun _=>[])),(3,some (bK 0 fun _=>[]))]:=by
 refine Fun.mk' Tryz.func68 rfl rfl zN (by decide) ?_
 (repeat' (first|((first|refine Wp.any ac rfl ?_|(with_reducible first|refine Go.mk ?_|apply ai.of|refine And.intro zC ?_));conv=>whnf)|((refine ab.fn (sD) [] rfl rfl rfl rfl rfl ?ha ?hh ?_);(case ha=>exact zA);(case hh=>exact zH);(conv=>whnf))))
 (refine af.sealB [0,1,3,2] rfl rfl rfl ?_ ?_);(focus((conv=>whnf);(repeat' (first|exact zE|((refine aj.ptr rfl rfl ?_);(conv=>whnf))|((refine And.intro ?_ ?_)<;>(conv=>whnf))))));(focus((conv=>whnf);(repeat' (first|exact zE|((refine And.intro ?_ ?_)<;>(conv=>whnf))))))
 exact fun i hi=>(show DLe (.val (.slice none 0 0)) (.sl 4 0 _)∧True from⟨.nil,trivial⟩)
theorem sU:Fun TC 42 0 [.i .i64 2,.d (.val (.slice none 0 0)),.d (.fn (.func 43) [])] [] 4 (.iref [ji 0 2,.d (.fn (.func 43) [])] 0)
  [(0,some (cu 1 3 34 (aC 0) 0 1)),(1,some (co 34 Dir.M0.W)),(2,some (gK fun _=>[])),(3,some (bK (aC 0) (bO 0 (fun _=>[]) (bZ 0 2 1 0 1 true))))]:=by
 refine Fun.mk' Tryz.func42 rfl rfl zN (by decide) ?_
 (repeat' (first|((first|refine Wp.any ac rfl ?_|(with_reducible first|refine Go.mk ?_|apply ai.of|refine Ov.ok zO ?_)|refine zV ?_);conv=>whnf)|((refine ab.fn (qS) [] rfl rfl rfl rfl rfl ?ha ?hh ?_);(case ha=>exact zA);(case hh=>exact zH);(conv=>whnf))|((with_reducible refine ag.pure (cj 0 (by omega) 0) rfl rfl ?_);conv=>whnf)|((refine ag.new (aF 0 (fun _=>0) (fun _=>[]) (fun _=>[]) 0 0 0 0 1 1 [] (by decide) (by decide) (by decide) (by decide) (by decide) (by decide)) [0,1,2,3] [] rfl rfl rfl rfl rfl rfl ?ha ?hh ?hs ?_);(case ha=>exact zA);(case hh=>exact zH);(case hs=>exact zK);(conv=>whnf))))
 (refine af.sealB [0,1,2,11] rfl rfl rfl ?_ ?_);(focus((conv=>whnf);(repeat' (first|exact zE|((refine aj.ptr rfl rfl ?_);(conv=>whnf))|((refine aj.iref ?_);(conv=>whnf))|((refine And.intro ?_ ?_)<;>(conv=>whnf))))));(focus((conv=>whnf);(repeat' (first|exact zE|((refine And.intro ?_ ?_)<;>(conv=>whnf))))))
 refine fun i hi=>gy.of ?_
 dsimp only
 rw[if_pos rfl]
 unfold Dir.upd
 split<;>rfl
def S0:Nat→Core.Wk:=fun _=>⟨default,.none⟩
def xs0:Nat→XB:=fun _=>⟨0,fun _=>.any⟩
def f0':Nat→List D:=bO 0 (fun _=>[]) (bZ 0 2 1 0 1 true)
theorem pM{ps:List Pol}{room:Int}(h:un ps room=0):Fun TC 15 0 [.d (am 4 Pol.D ps),.i .i64 room] [] 14 (.tup [.ptr 0 0,.i .i64 0])
  (ao ps room (gOf (aa ps room) 4 S0) Core.M0 xs0 (aC 0) f0' 1):=by
 have hc1:1≤room∧room≤4096:=by
  unfold un at h
  split at h
  ·omega
  ·omega
 have hp:cr ps=0:=by
  unfold un at h
  split at h
  ·omega
  ·exact h
 have hl:=cT hp
 have hBk:=pT ps room h
 refine Fun.mk' Tryz.func15 rfl rfl zN (by decide) ?_
 (repeat' (first|((first|refine Wp.any ac rfl ?_|(with_reducible first|refine Go.mk ?_|apply ai.of|refine Ov.ok zO ?_));conv=>whnf)|((refine ab.fn (hBk) [] rfl rfl rfl rfl rfl ?ha ?hh ?_);(case ha=>exact zA);(case hh=>exact zH);(conv=>whnf))|((with_reducible refine ab.pure (jY ps (by omega)) rfl rfl ?_);conv=>whnf)|((refine ab.fn (sU) [] rfl rfl rfl rfl rfl ?ha ?hh ?_);(case ha=>exact zA);(case hh=>exact zH);(conv=>whnf))))
 refine af.sealC [6,2,3,4,0,0,0,0,0,0,0,0,0,5] [4,5,6,7,8,9,10,11,12] rfl rfl rfl ?_ ?_
 ·refine aj.tup ?_
  conv=>whnf
  refine And.intro (aj.ptrL rfl) ?_
  exact⟨aj.d,trivial⟩
 ·conv=>whnf
  (repeat' (first|exact trivial|exact aj.d|exact aj.slX zN rfl|exact aj.ptrL rfl|exact⟨rfl,rfl,rfl⟩|exact(show(13:Nat)≤14 by decide)|exact⟨(show(_:Nat)≤_ from zzb rfl),rfl⟩|exact fun i hi=>gy.refl _|exact fun j _=>aR (oi _ _) j|((refine aj.iref ?_);conv=>whnf)|((refine And.intro ?_ ?_)<;>(conv=>whnf))))
variable{ps:List Pol}{room:Int}{S:Nat→Core.Wk}{M:Core.Mc}{xs:Nat→XB}{nl nl0:Nat}{f:Nat→List D}{cnt cnt0 who:Int}
theorem nm(hM:COK ps room who (gOf (aa ps room) 4 S) M xs nl0 cnt0)(h0:0≤M.clk)(h1:M.clk≤4611686018427387903)(n:Int)(hn:0≤n)(hn1:n≤4611686018427387903) :
  Fun TC 16 14 [.ptr 0 0,.i .i64 n] (ao ps room (gOf (aa ps room) 4 S) M xs nl f cnt) 14 (.tup [.i .i64 (min (M.clk+n) 4611686018427387903),.i .i64 0]) (ao ps room (gOf (aa ps room) 4 S) ⟨M.W,M.Hd,min (M.clk+n) 4611686018427387903⟩ xs nl f cnt):=by
 have q5:=hM.g;have qo:=hM.o
 refine Fun.mk' Tryz.func16 rfl rfl zN (by decide) ?_
 (repeat' (first|((first|refine Wp.any ac rfl ?_|(with_reducible first|refine Go.mk ?_|apply ai.of));conv=>whnf)|((with_reducible refine At.mk' _ rfl ?_);(refine And.intro zN ?_);conv=>whnf)|((refine ab.fn (sB 34 nl M.W f M.clk cnt n h0 h1 hn hn1) [1,2,13] rfl rfl rfl rfl rfl ?ha ?hh ?_);(case ha=>exact zA);(case hh=>exact zH);(conv=>whnf))))
 ((refine af.sealB [0,1,2,3,4,5,6,7,8,9,10,11,12,13] rfl rfl rfl ?_ ?_);(focus((conv=>whnf);(repeat' (first|exact zD9))));(focus((conv=>whnf);(repeat' (first|exact zD9|exact a7 (qo _)|((refine And.intro ?_ ?_)<;>(conv=>whnf)))))))
theorem qK(hM:COK ps room who (gOf (aa ps room) 4 S) M xs nl0 cnt0) :
  Fun TC 21 14 [.ptr 0 0] (ao ps room (gOf (aa ps room) 4 S) M xs nl f cnt) 14 (.i .i64 (M.W 32)) (ao ps room (gOf (aa ps room) 4 S) M xs nl f cnt):=by
 have q5:=hM.g;have qo:=hM.o;have q8:=hM.c32
 refine Fun.mk' Tryz.func21 rfl rfl zN (by decide) ?_
 (repeat' (first|((first|refine Wp.any ac rfl ?_|(with_reducible first|refine Go.mk ?_|apply ai.of|refine Ov.ok zO ?_));conv=>whnf)|((with_reducible refine At.mk' _ rfl ?_);(refine And.intro zN ?_);conv=>whnf)|((refine ab.fn (cm nl M.W M.Hd f M.clk cnt 32 (by decide)) [1,2,3,13] rfl rfl rfl rfl rfl ?ha ?hh ?_);(case ha=>exact zA);(case hh=>exact zH);(conv=>whnf))))
 ((refine af.sealB [0,1,2,3,4,5,6,7,8,9,10,11,12,13] rfl rfl rfl ?_ ?_);(focus((conv=>whnf);(repeat' (first|exact aj.d))));(focus((conv=>whnf);(repeat' (first|exact zD9|exact a7 (qo _)|((refine And.intro ?_ ?_)<;>(conv=>whnf)))))))
theorem eo(hM:COK ps room who (gOf (aa ps room) 4 S) M xs nl0 cnt0)(h0:0≤cnt)(h8:cnt≤4611686018427387904) :
  Fun TC 20 14 [.ptr 0 0] (ao ps room (gOf (aa ps room) 4 S) M xs nl f cnt) 14 (.i .i64 (cnt-1)) (ao ps room (gOf (aa ps room) 4 S) M xs nl f cnt):=by
 have q5:=hM.g;have qo:=hM.o
 refine Fun.mk' Tryz.func20 rfl rfl zN (by decide) ?_
 (repeat' (first|((first|refine Wp.any ac rfl ?_|(with_reducible first|refine Go.mk ?_|apply ai.of|refine Ov.ok zO ?_));conv=>whnf)|(with_reducible refine ab.inline Tryz.func52 rfl rfl rfl (zzb rfl) ?_)|((with_reducible refine At.mk' _ rfl ?_);(refine And.intro zN ?_);conv=>whnf)))
 ((refine af.sealB [0,1,2,3,4,5,6,7,8,9,10,11,12,13] rfl rfl rfl ?_ ?_);(focus((conv=>whnf);(repeat' (first|exact aj.d))));(focus((conv=>whnf);(repeat' (first|exact zD9|exact a7 (qo _)|((refine And.intro ?_ ?_)<;>(conv=>whnf)))))))
end
mutual
def fw(n e:Nat):SV→Prop
 | .fn f vs=>∀l,n≤l→l≠e→bJ l (.fn f vs)=false
 | .agg vs=>i5 n e vs
 | .tup vs=>i5 n e vs
 | .iref vs _=>i5 n e vs
 | _=>True
def i5(n e:Nat):List SV→Prop
 | []=>True
 | x::r=>fw n e x∧i5 n e r
end
mutual
theorem pa{n e l:Nat}(hl:n≤l)(he:l≠e):∀{x:SV},fw n e x→lu l x=false→bJ l x=false
 | .any,_,h=>by unfold bJ;rfl
 | .d _,_,h=>by unfold bJ;rfl
 | .ptr _ _,_,h=>by unfold lu at h;unfold bJ;exact h
 | .rp _ _ _ _,_,h=>by unfold lu at h;unfold bJ;exact h
 | .sl _ _ _ _,_,h=>by unfold lu at h;unfold bJ;exact h
 | .agg vs,hf,h=>by unfold lu at h;unfold fw at hf;unfold bJ;exact dM hl he hf h
 | .tup vs,hf,h=>by unfold lu at h;unfold fw at hf;unfold bJ;exact dM hl he hf h
 | .fn _ vs,hf,h=>by unfold fw at hf;exact hf l hl he
 | .iref vs _,hf,h=>by unfold lu at h;unfold fw at hf;unfold bJ;exact dM hl he hf h
theorem dM{n e l:Nat}(hl:n≤l)(he:l≠e):∀{xs:List SV},i5 n e xs→ls l xs=false→bV l xs=false
 | [],_,_=>by unfold bV;rfl
 | x::r,hf,h=>by
  unfold i5 at hf;unfold ls at h
  rw[Bool.or_eq_false_iff]at h
  have h1:bJ l x=false:=pa hl he hf.1 h.1
  have h2:bV l r=false:=dM hl he hf.2 h.2
  unfold bV;rw[h1,h2];rfl
end
mutual
theorem pb{π:Nat→Nat}{b l:Nat}(hπ:∀i,i<b→π i≠l):∀{x:SV},SV.Lt b x→bJ l (SV.ren π x)=false
 | .any,_=>by unfold SV.ren bJ;rfl
 | .d _,_=>by unfold SV.ren bJ;rfl
 | .ptr _ _,h=>by cases h with|ptr _ _ h=>unfold SV.ren bJ;cases e:Nat.beq _ l with|false=>rfl|true=>exact absurd (Q2 e) (hπ _ h)
 | .rp _ _ _ _,h=>by cases h with|rp _ _ _ _ h=>unfold SV.ren bJ;cases e:Nat.beq _ l with|false=>rfl|true=>exact absurd (Q2 e) (hπ _ h)
 | .sl _ _ _ _,h=>by cases h with|sl _ _ _ _ h=>unfold SV.ren bJ;cases e:Nat.beq _ l with|false=>rfl|true=>exact absurd (Q2 e) (hπ _ h)
 | .agg vs,h=>by cases h with|agg _ h=>unfold SV.ren bJ;exact dN hπ h
 | .tup vs,h=>by cases h with|tup _ h=>unfold SV.ren bJ;exact dN hπ h
 | .fn _ vs,h=>by cases h with|fn _ _ h=>unfold SV.ren bJ;exact dN hπ h
 | .iref vs _,h=>by cases h with|iref _ _ h=>unfold SV.ren bJ;exact dN hπ h
theorem dN{π:Nat→Nat}{b l:Nat}(hπ:∀i,i<b→π i≠l):∀{xs:List SV},(∀x∈xs,SV.Lt b x)→bV l (SV.renL π xs)=false
 | [],_=>by unfold SV.renL bV;rfl
 | x::r,h=>by
  have h1:bJ l (SV.ren π x)=false:=pb hπ (h x (by simp))
  have h2:bV l (SV.renL π r)=false:=dN hπ (fun y hy=>h y (by simp[hy]))
  unfold SV.renL bV;rw[h1,h2];rfl
end
theorem renL_z{π:Nat→Nat}{F:Fn}{cs:List SV}{b n e:Nat}(h:SV.Lt b (.fn F cs))(hπ:∀i,i<b→π i<n∨π i=e):fw n e (.fn F (SV.renL π cs)):=by
 unfold fw
 intro l h1 h2
 have:=pb (π:=π) (l:=l) (fun i hi he=>by rcases hπ i hi with h|h<;>omega) h
 unfold SV.ren at this
 exact this
def pB(n e:Nat):Option Blk→Prop
 | some (.cells cs)=>i5 n e cs
 | _=>True
theorem sq{n e l:Nat}(hl:n≤l)(he:l≠e){b:Option Blk}(hf:pB n e b)(h:nX l b=false):nY l b=false:=by
 cases b with
 | none=>rfl
 | some b =>
  cases b with
  | cells cs=>show cs.any (mem1 l)=false;rw[iL];exact dM hl he hf h
  | row _ _ _ _=>rfl
  | cf m _ _=>exact h
  | obj _ m _ _ _=>exact h
def memY(e l:Nat)(x:SV):Bool:=bif Nat.beq l e then bJ l x else lu l x
def yd(e l:Nat)(b:Option Blk):Bool:=bif Nat.beq l e then nY l b else nX l b
theorem memY_ok{n e l:Nat}(hl:n≤l){x:SV}(hf:fw n e x)(h:memY e l x=false):bJ l x=false:=by
 unfold memY at h
 cases he:Nat.beq l e with
 | true=>rw[he]at h;exact h
 | false=>rw[he]at h;exact pa hl (fun q=>by rw[q,Nat.beq_refl]at he;cases he) hf h
theorem yc{n e l:Nat}(hl:n≤l){b:Option Blk}(hf:pB n e b)(h:yd e l b=false):nY l b=false:=by
 unfold yd at h
 cases he:Nat.beq l e with
 | true=>rw[he]at h;exact h
 | false=>rw[he]at h;exact sq hl (fun q=>by rw[q,Nat.beq_refl]at he;cases he) hf h
def l5(e:Nat)(pre:List Nat)(ops:List Oper)(n0 i j:Nat)(labs:List Nat)(p q:Pt):Bool :=
 (match p.1.dst,q.1.dst with|some a,some b=>!Nat.beq a b|_,_=>true) &&
 (p.2.ed.all (fun x=>q.2.ed.all fun y=>!Nat.beq x.1 y.1)||j8 pre i j) &&
 ((match q.1.dst with|some d=>(n4 ops p.1).all fun t=>!Nat.beq d t|none=>true)||j8 pre i j) &&
 ((labs.all (fun l=>q.2.ed.all fun y=>!Nat.beq y.1 l)&&p.2.rd.all (fun l=>q.2.ed.all fun y=>!Nat.beq y.1 l))||j8 pre i j) &&
 (!cP p.1.op||(Nat.blt i j&&j8 pre i j)||(!memY e (n0+i) q.2.val&&q.2.ed.all (fun y=>!Nat.beq y.1 (n0+i)&&!yd e (n0+i) y.2)))
def l3(e:Nat)(pre:List Nat)(ops:List Oper)(n0 i:Nat)(labs:List Nat)(p:Pt):List Pt→Nat→Bool
 | [],_=>true
 | q::r,j=>(Nat.beq i j||l5 e pre ops n0 i j labs p q)&&l3 e pre ops n0 i labs p r (j+1)
def l8(e:Nat)(pre:List Nat)(ops:List Oper)(n0:Nat)(all:List Pt)(S0:St):List Pt→Nat→St→Bool
 | [],_,_=>true
 | p::r,i,S=>l3 e pre ops n0 i (gC S p.1.op) p all 0&&(!cP p.1.op||(S0.fr.all (fun x=>!lu (n0+i) x.2)&&S0.hp.all (fun x=>!Nat.beq x.1 (n0+i)&&!nX (n0+i) x.2))) &&
   (p.1.after.toList.all fun e=>!Region.binds .any e||Nat.blt e.on i)&&(match p.1.dst with|some n=>Nat.blt n S0.nt.n|none=>true)&&l8 e pre ops n0 all S0 r (i+1) (S.step p.1.dst p.2)
def jD(e:Nat)(ops:List Oper)(efs:List Ef)(n0:Nat)(S0:St):Bool:=l8 e (eA ops []) ops n0 (ops.zip efs) S0 (ops.zip efs) 0 S0
def fx(n e:Nat):List (Nat×Option Blk)→Prop
 | []=>True
 | x::r=>pB n e x.2∧fx n e r
def pz(n e:Nat):List Ef→Prop
 | []=>True
 | x::r=>fw n e x.val∧fx n e x.ed∧pz n e r
theorem m7{n e:Nat}:∀{l:List (Nat×Option Blk)},fx n e l→∀x∈l,pB n e x.2
 | [],_,x,hx=>by simp at hx
 | y::r,h,x,hx=>by
  unfold fx at h
  rcases Q22 hx with rfl|hx
  ·exact h.1
  ·exact m7 h.2 x hx
theorem m8{n e:Nat}:∀{l:List Ef},pz n e l→∀x∈l,fw n e x.val∧fx n e x.ed
 | [],_,x,hx=>by simp at hx
 | y::r,h,x,hx=>by
  unfold pz at h
  rcases Q22 hx with rfl|hx
  ·exact⟨h.1,h.2.1⟩
  ·exact m8 h.2.2 x hx
theorem edZ_ok{n e l:Nat}(hl:n≤l){ed:List (Nat×Option Blk)}(hf:fx n e ed)(h:ed.all (fun y=>!Nat.beq y.1 l&&!yd e l y.2)=true):ed.all (fun y=>!Nat.beq y.1 l&&!nY l y.2)=true:=by
 rw[Q23]at h⊢
 intro y hy
 have:=h y hy
 rw[Q5]at this⊢
 refine⟨this.1,?_⟩
 have h2:=this.2
 rw[Bool.not_eq_true']at h2⊢
 exact yc hl (m7 hf y hy) h2
theorem oz{e:Nat}{pre:List Nat}{ops:List Oper}{n0 i j:Nat}{labs:List Nat}{p q:Pt}(hv:fw n0 e q.2.val)(he:fx n0 e q.2.ed)(h:l5 e pre ops n0 i j labs p q=true):bS pre ops n0 i j labs p q=true:=by
 unfold l5 at h;unfold bS
 rw[Q5]at h⊢
 refine⟨h.1,?_⟩
 have h:=h.2
 rw[Q20,Q20]at h⊢
 rcases h with(h|h)|h
 ·exact .inl (.inl h)
 ·exact .inr h
 ·rw[Q5]at h
  refine .inl (.inr ?_)
  rw[Q5]
  refine⟨?_,edZ_ok (by omega) he h.2⟩
  have h1:=h.1
  rw[Bool.not_eq_true']at h1⊢
  exact memY_ok (by omega) hv h1
theorem ky{e:Nat}{pre:List Nat}{ops:List Oper}{n0 i:Nat}{labs:List Nat}{p:Pt}:∀(l:List Pt) (k:Nat),(∀q∈l,fw n0 e q.2.val∧fx n0 e q.2.ed)→l3 e pre ops n0 i labs p l k=true→eB pre ops n0 i labs p l k=true
 | [],_,_,_=>by unfold eB;rfl
 | q::r,k,hf,h=>by
  unfold l3 at h;unfold eB
  rw[Q5,Q20]at h⊢
  refine⟨?_,ky r (k+1) (fun q hq=>hf q (List.mem_cons_of_mem _ hq)) h.2⟩
  rcases h.1 with h1|h1
  ·exact .inl h1
  ·exact .inr (oz (hf q (List.mem_cons_self ..)).1 (hf q (List.mem_cons_self ..)).2 h1)
theorem kA{e:Nat}{pre:List Nat}{ops:List Oper}{n0:Nat}{all:List Pt}{S0:St}(ha:∀q∈all,fw n0 e q.2.val∧fx n0 e q.2.ed)(hF:ot n0 S0.fr)(hH:gj n0 S0.hp) :
  ∀(l:List Pt) (i:Nat) (S:St),l8 e pre ops n0 all S0 l i S=true→eD pre ops n0 all S0 l i S=true
 | [],_,_,_=>by unfold eD;rfl
 | p::r,i,S,h=>by
  unfold l8 at h;unfold eD
  rw[Q5,Q5,Q5,Q5]at h⊢
  obtain⟨⟨⟨⟨h1,h2⟩,h3⟩,h4⟩,h5⟩:=h
  refine⟨⟨⟨⟨ky all 0 ha h1,?_⟩,h3⟩,h4⟩,kA ha hF hH r (i+1) _ h5⟩
  rw[Q20,Q5]at h2⊢
  rcases h2 with h2|h2
  ·exact .inl h2
  ·refine .inr ⟨?_,tz (by omega) hH h2.2⟩
   have h6:=h2.1
   rw[Q23]at h6⊢
   intro x hx
   have h7:=h6 x hx
   rw[Bool.not_eq_true']at h7⊢
   exact lr (by omega) (lR hF x hx) h7
theorem ce{e:Nat}{ops:List Oper}{efs:List Ef}{n0:Nat}{S0:St}(h:jD e ops efs n0 S0=true)(hE:pz n0 e efs)(hF:ot n0 S0.fr)(hH:gj n0 S0.hp):dU ops efs n0 S0=true:=by
 refine kA (fun q hq=>?_) hF hH _ 0 S0 h
 exact m8 hE q.2 (List.of_mem_zip hq).2
end Go.Proofs.YtlkccdlgnpkjpaaGreat
