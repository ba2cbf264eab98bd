/- Lemmas of Dp1, Dp2, Dp3, Dp4, Dp5, Dr1, SlLibEnt, Dr2, Dr3, Dr4, Dr5, Dr6. No condition. -/
import Derived.Test.YtejiekfnaddanaaGreatML5
import Derived.Test.YtejiekfnaddanaaGreatRows
import Derived.WalkKit
import Derived.WalkSpells
import Derived.WalkLawsBesides
import Derived.IntWalk
import Derived.BigQuiet
import Derived.Deep.QuietTactic
import Derived.StillTailTactics
import Derived.Deep.RegionWith
import Derived.Deep.RegionHeld3
import Derived.Lib.Hide
import Derived.Laws.Externs
set_option linter.unusedVariables false
set_option linter.unusedSimpArgs false
set_option linter.unusedSectionVars false
set_option maxHeartbeats 80000000
set_option maxRecDepth 100000
namespace Go.Proofs.YtejiekfnaddanaaGreat
open Go.RowKit
section
namespace Dir
structure Ent where
 key:List Int
 val:Int
deriving DecidableEq,Inhabited
structure Res where
 done:Bool
 e:Int
 n:Int
deriving DecidableEq,Inhabited
structure Kc where
 op:Int
 key:List Int
 val:Int
deriving DecidableEq,Inhabited
inductive CS where
 | none
 | k0 (c:Kc)
 | kE (c:Kc) (w:Nat)
 | kF (c:Kc) (lv w:Nat)
 | kG (c:Kc) (lv w:Nat) (v:Int) (h:List Ent)
 | kH (c:Kc) (lv w:Nat) (h:List Ent)
 | kL (c:Kc) (lv w:Nat) (h:List Ent)
 | kS (c:Kc) (w:Nat) (v:Int) (m:List Ent) (n:Int)
 | s0
 | sM (lv:Nat)
 | sF (lv i:Nat)
 | sG (lv i:Nat) (v:Int) (h:List Ent)
 | sH (lv i:Nat) (up:Bool) (h:List Ent)
 | sL (lv i:Nat) (up:Bool) (h:List Ent)
 | sV (lv:Nat)
deriving Inhabited
abbrev FZ:Int:=4611686018427387904
structure Mc where
 W:Nat→Int
 Hd:Nat→List Ent
def upd{α:Type}(f:Nat→α)(i:Nat)(x:α):Nat→α:=fun j=>if j=i then x else f j
def Mc.set(M:Mc)(w:Nat)(v:Int)(h:List Ent):Mc:=⟨upd M.W w v,upd M.Hd w h⟩
structure Ops where
 sum:List Int→Int
 cut:List Ent→Nat→Nat→List Ent
 fnd:Kc→List Ent→Res ⊕ (List Ent×Int)
def plc(lv:Nat)(s:Int):Nat:=2^lv+(s%2^lv).toNat
def r0:Res:=⟨false,0,0⟩
section
variable(P:Ops)
def found(c:Kc)(w:Nat)(v:Int)(h:List Ent):CS×Res :=
 match P.fnd c h with
 | .inl r=>(.none,r)
 | .inr (m,n)=>(.kS c w v m n,r0)
def entered(c:Kc)(w:Nat)(v:Int)(h:List Ent):CS×Res :=
 if v=0∨FZ≤v then(.k0 c,r0)else found P c w v h
def toH(c:Kc)(lv:Nat)(h:List Ent):CS:=.kH c (lv+1) (plc (lv+1) (P.sum c.key)) h
def move(lv i:Nat):CS:=if i=2^lv then .sV lv else .sF lv i
def upW(lv i:Nat)(up:Bool):Nat:=2^(lv+1)+(if up then i+2^lv else i)
def on(lv i:Nat)(up:Bool)(h:List Ent):CS:=if up then move lv (i+1)else .sH lv i true h
def step(M:Mc):CS→Mc×CS×Res
 | .none=>(M,.none,r0)
 | .k0 c=>(M,if M.W 0%2=0 then .kE c (plc (M.W 0/2).toNat (P.sum c.key))else .kF c (M.W 0/2).toNat (plc (M.W 0/2).toNat (P.sum c.key)),r0)
 | .kE c w=>(M,entered P c w (M.W w) (M.Hd w))
 | .kF c lv w=>(M,if FZ≤M.W w then toH P c lv (M.Hd w)else .kG c lv w (M.W w) (M.Hd w),r0)
 | .kG c lv w v h=>if M.W w=v then(M.set w (v+FZ) h,toH P c lv h,r0)else(M,.kF c lv w,r0)
 | .kH c lv w h=>if M.W w=0 then(M,.kL c lv w h,r0)else(M,entered P c w (M.W w) (M.Hd w))
 | .kL c lv w h=>(if M.W w=0 then M.set w 1 (P.cut h lv (w-2^lv))else M,.kE c w,r0)
 | .kS c w v m n=>if M.W w=v then(M.set w (v+1) m,.none,⟨true,0,n⟩)else(M,.k0 c,r0)
 | .s0=>if M.W 0%2=1 then(M,.sF (M.W 0/2).toNat 0,r0)else if M.W 0/2=4 then(M,.none,⟨true,5,0⟩)else(M,.sM (M.W 0/2).toNat,r0)
 | .sM lv=>if M.W 0=2*lv then(M.set 0 (2*lv+1) [],.sF lv 0,r0)else(M,.s0,r0)
 | .sF lv i=>(M,if FZ≤M.W (2^lv+i)then .sH lv i false (M.Hd (2^lv+i))else .sG lv i (M.W (2^lv+i)) (M.Hd (2^lv+i)),r0)
 | .sG lv i v h=>if M.W (2^lv+i)=v then(M.set (2^lv+i) (v+FZ) h,.sH lv i false h,r0)else(M,.sF lv i,r0)
 | .sH lv i up h=>(M,if M.W (upW lv i up)=0 then .sL lv i up h else on lv i up h,r0)
 | .sL lv i up h=>(if M.W (upW lv i up)=0 then M.set (upW lv i up) 1 (P.cut h (lv+1) (upW lv i up-2^(lv+1)))else M,on lv i up h,r0)
 | .sV lv=>(if M.W 0=2*lv+1 then M.set 0 (2*lv+2) []else M,.none,⟨true,0,0⟩)
end
def okW(D:Int)(lv:Nat)(x low:Int)(B:Int):Prop :=
 0≤x∧(x<FZ→x≤B)∧(2*(lv:Int)+1<D→FZ≤x)∧(D=2*(lv:Int)+1→x≠0)∧(D=2*(lv:Int)→0<x∧x<FZ)∧(D+1=2*(lv:Int)→x=0∨(0<x∧x<FZ∧FZ≤low))∧(D+1<2*(lv:Int)→x=0)
def lZ(W:Nat→Int)(lv i:Nat):Int:=W (2^(lv-1)+i%2^(lv-1))
structure Iw(W:Nat→Int)(B:Int):Prop where
 d:0≤W 0∧W 0≤8
 w:∀lv i,lv≤4→i<2^lv→okW (W 0) lv (W (2^lv+i)) (lZ W lv i) B
def Cw(P:Ops)(W:Nat→Int):CS→Prop
 | .none=>True
 | .k0 _=>True
 | .kE _ w=>1≤w∧w<32
 | .kF c lv w=>lv≤3∧w=plc lv (P.sum c.key)∧2*(lv:Int)+1≤W 0
 | .kG c lv w v _=>lv≤3∧w=plc lv (P.sum c.key)∧2*(lv:Int)+1≤W 0∧v<FZ
 | .kH c lv w _=>1≤lv∧lv≤4∧w=plc lv (P.sum c.key)∧2*(lv:Int)-1≤W 0∧FZ≤W (plc (lv-1) (P.sum c.key))
 | .kL c lv w _=>1≤lv∧lv≤4∧w=plc lv (P.sum c.key)∧2*(lv:Int)-1≤W 0∧FZ≤W (plc (lv-1) (P.sum c.key))
 | .kS _ w v _ _=>1≤w∧w<32∧0<v∧v<FZ
 | .s0=>True
 | .sM lv=>lv≤3
 | .sF lv i=>lv≤3∧i<2^lv∧2*(lv:Int)+1≤W 0∧gone W lv i
 | .sG lv i v _=>lv≤3∧i<2^lv∧2*(lv:Int)+1≤W 0∧gone W lv i∧v<FZ
 | .sH lv i up _=>lv≤3∧i<2^lv∧2*(lv:Int)+1≤W 0∧gone W lv i∧FZ≤W (2^lv+i)∧(up=true→W (2^(lv+1)+i)≠0)
 | .sL lv i up _=>lv≤3∧i<2^lv∧2*(lv:Int)+1≤W 0∧gone W lv i∧FZ≤W (2^lv+i)∧(up=true→W (2^(lv+1)+i)≠0)
 | .sV lv=>lv≤3∧2*(lv:Int)+1≤W 0∧gone W lv (2^lv)
where
 gone (W:Nat→Int) (lv i:Nat):Prop:=∀j,j<i→FZ≤W (2^lv+j)∧W (2^(lv+1)+j)≠0∧W (2^(lv+1)+(j+2^lv))≠0
end Dir
end
namespace Dir
theorem aF{α:Type}(f:Nat→α)(i:Nat)(x:α):upd f i x i=x:=by simp[upd]
theorem a6{α:Type}(f:Nat→α){i j:Nat}(x:α)(h:j≠i):upd f i x j=f j:=by simp[upd,h]
theorem qJ{lv l0 i:Nat}(hi:i<2^lv)(h:lv<l0):2^lv+i<2^l0:=by
 have:2^(lv+1)≤2^l0:=Q16 (by omega) h
 rw[Nat.pow_succ]at this;omega
theorem gG{lv l0 i i0:Nat}(hi:i<2^lv)(hi0:i0<2^l0)(h:2^lv+i=2^l0+i0):lv=l0∧i=i0:=by
 rcases Nat.lt_trichotomy lv l0 with h1|h1|h1
 ·have:=qJ hi h1;omega
 ·subst h1;omega
 ·have:=qJ hi0 h1;omega
theorem pow_pos2(n:Nat):0<2^n:=Nat.pow_pos (by omega)
theorem sh_32{lv i:Nat}(hl:lv≤4)(hi:i<2^lv):1≤2^lv+i∧2^lv+i<32:=by
 have h1:=qJ (l0:=5) hi (by omega)
 have:=pow_pos2 lv
 omega
theorem plc_sh(lv:Nat)(s:Int):∃i,i<2^lv∧plc lv s=2^lv+i:=by
 refine⟨(s%2^lv).toNat,?_,rfl⟩
 have hp:(0:Int)<2^lv:=by exact_mod_cast pow_pos2 lv
 have h1:=Int.emod_nonneg s (by omega:(2^lv:Int)≠0)
 have h2:=Int.emod_lt_of_pos s hp
 have e:((2^lv:Nat):Int)=2^lv:=by norm_cast
 omega
theorem ii(lv:Nat)(s:Int):2^lv+(plc (lv+1) s-2^(lv+1))%2^lv=plc lv s:=by
 unfold plc
 congr 1
 rw[Nat.add_sub_cancel_left]
 have hp:(0:Int)<2^lv:=by exact_mod_cast pow_pos2 lv
 have e:((2^lv:Nat):Int)=2^lv:=by norm_cast
 have e2:(2^(lv+1):Int)=2^lv*2:=by rw[Int.pow_succ]
 have h1:=Int.emod_nonneg s (by omega:(2^lv:Int)≠0)
 have h2:=Int.emod_nonneg s (by omega:(2^(lv+1):Int)≠0)
 have h3:(s%2^(lv+1))%2^lv=s%2^lv:=Int.emod_emod_of_dvd s ⟨2,e2⟩
 have h4:(((s%2^(lv+1)).toNat%2^lv:Nat):Int)=s%2^lv:=by
  rw[Int.natCast_emod,Int.toNat_of_nonneg h2,e,h3]
 omega
theorem okW.low{D:Int}{lv:Nat}{x low low' B B':Int}(h:okW D lv x low B)(hl:FZ≤low→FZ≤low')(hB:B≤B'):okW D lv x low' B':=by
 unfold okW at h⊢;omega
theorem Iw.sh{W:Nat→Int}{B:Int}(h:Iw W B){lv i:Nat}(hl:lv≤4)(hi:i<2^lv):okW (W 0) lv (W (2^lv+i)) (lZ W lv i) B:=h.w lv i hl hi
theorem Iw.mono{W:Nat→Int}{B B':Int}(h:Iw W B)(hB:B≤B'):Iw W B':=⟨h.d,fun lv i hl hi=>(h.w lv i hl hi).low (fun h=>h) hB⟩
theorem Iw.set_sh{W:Nat→Int}{B B':Int}(h:Iw W B){l0 i0:Nat}{x:Int}(hl0:l0≤4)(hi0:i0<2^l0)(hB:B≤B')(hx:okW (W 0) l0 x (lZ W l0 i0) B')(hfz:FZ≤W (2^l0+i0)→FZ≤x):Iw (upd W (2^l0+i0) x) B':=by
 have h00:=sh_32 hl0 hi0
 have e0:upd W (2^l0+i0) x 0=W 0:=a6 _ _ (by omega)
 have hlow:∀j,FZ≤W j→FZ≤upd W (2^l0+i0) x j:=fun j hj=>by
  unfold upd
  by_cases e:j=2^l0+i0
  ·rw[if_pos e];subst e;exact hfz hj
  ·rw[if_neg e];exact hj
 refine⟨by rw[e0];exact h.d,fun lv i hl hi=>?_⟩
 rw[e0]
 by_cases e:2^lv+i=2^l0+i0
 ·obtain⟨rfl,rfl⟩:=gG hi hi0 e
  rw[aF]
  exact hx.low (hlow _) (Int.le_refl _)
 ·rw[a6 _ _ e]
  exact(h.w lv i hl hi).low (hlow _) hB
theorem Iw.set_d{W:Nat→Int}{B d:Int}(h:Iw W B)(hd:0≤d∧d≤8)(hw:∀lv i,lv≤4→i<2^lv→okW (W 0) lv (W (2^lv+i)) (lZ W lv i) B→okW d lv (W (2^lv+i)) (lZ W lv i) B):Iw (upd W 0 d) B:=by
 refine⟨by rw[aF];exact hd,fun lv i hl hi=>?_⟩
 have h1:=sh_32 hl hi
 have h2:upd W 0 d (2^lv+i)=W (2^lv+i):=a6 _ _ (by omega)
 have h3:lZ (upd W 0 d) lv i=lZ W lv i:=a6 _ _ (by have:=pow_pos2 (lv-1);omega)
 rw[h2,h3,aF]
 exact hw lv i hl hi (h.w lv i hl hi)
theorem Iw.begin{W:Nat→Int}{B:Int}(h:Iw W B){k:Nat}(hk:k≤3)(e:W 0=2*k):Iw (upd W 0 (2*k+1)) B:=by
 refine h.set_d (by omega) fun lv i hl hi ho=>?_
 unfold okW at ho⊢;omega
theorem Iw.fin{W:Nat→Int}{B:Int}(h:Iw W B){k:Nat}(hk:k≤3)(e:W 0=2*k+1)(hg:Cw.gone W k (2^k)):Iw (upd W 0 (2*k+2)) B:=by
 refine h.set_d (by omega) fun lv i hl hi ho=>?_
 by_cases e1:lv=k
 ·subst e1
  have:=(hg i hi).1
  unfold okW at ho⊢;omega
 ·by_cases e2:lv=k+1
  ·subst e2
   have hne:W (2^(k+1)+i)≠0:=by
    by_cases hlt:i<2^k
    ·exact(hg i hlt).2.1
    ·have hj:i-2^k<2^k:=by rw[Nat.pow_succ]at hi;omega
     have:=(hg _ hj).2.2
     rwa [Nat.sub_add_cancel (by omega)]at this
   unfold okW at ho⊢;omega
  ·unfold okW at ho⊢;omega
structure Gr(W W':Nat→Int):Prop where
 d:W 0≤W' 0
 fz:∀w,FZ≤W w→FZ≤W' w
 ne:∀w,W w≠0→W' w≠0
theorem Gr.refl(W:Nat→Int):Gr W W:=⟨Int.le_refl _,fun _ h=>h,fun _ h=>h⟩
theorem Gr.gone{W W':Nat→Int}(h:Gr W W'){lv i:Nat}(hg:Cw.gone W lv i):Cw.gone W' lv i:=fun j hj=>let⟨a,b,c⟩:=hg j hj;⟨h.fz _ a,h.ne _ b,h.ne _ c⟩
theorem Gr.cw{P:Ops}{W W':Nat→Int}(h:Gr W W'){s:CS}(hs:Cw P W s):Cw P W' s:=by
 have hd:=h.d
 cases s with
 | none=>trivial
 | k0 c=>trivial
 | kE c w=>exact hs
 | kF c lv w=>obtain⟨a,b,d⟩:=hs;exact⟨a,b,by omega⟩
 | kG c lv w v m=>obtain⟨a,b,d,e⟩:=hs;exact⟨a,b,by omega,e⟩
 | kH c lv w m=>obtain⟨a,b,d,e,f⟩:=hs;exact⟨a,b,d,by omega,h.fz _ f⟩
 | kL c lv w m=>obtain⟨a,b,d,e,f⟩:=hs;exact⟨a,b,d,by omega,h.fz _ f⟩
 | kS c w v m n=>exact hs
 | s0=>trivial
 | sM lv=>exact hs
 | sF lv i=>obtain⟨a,b,d,e⟩:=hs;exact⟨a,b,by omega,h.gone e⟩
 | sG lv i v m=>obtain⟨a,b,d,e,f⟩:=hs;exact⟨a,b,by omega,h.gone e,f⟩
 | sH lv i up m=>obtain⟨a,b,d,e,f,g⟩:=hs;exact⟨a,b,by omega,h.gone e,h.fz _ f,fun hu=>h.ne _ (g hu)⟩
 | sL lv i up m=>obtain⟨a,b,d,e,f,g⟩:=hs;exact⟨a,b,by omega,h.gone e,h.fz _ f,fun hu=>h.ne _ (g hu)⟩
 | sV lv=>obtain⟨a,b,d⟩:=hs;exact⟨a,by omega,h.gone d⟩
theorem Gr.set{W:Nat→Int}{w:Nat}{x:Int}(hd:w=0→W 0≤x)(hf:FZ≤W w→FZ≤x)(hn:W w≠0→x≠0):Gr W (upd W w x):=by
 refine⟨?_,fun j hj=>?_,fun j hj=>?_⟩
 ·unfold upd
  by_cases e:0=w
  ·rw[if_pos e];exact hd e.symm
  ·rw[if_neg e];exact Int.le_refl _
 ·unfold upd
  by_cases e:j=w
  ·rw[if_pos e];subst e;exact hf hj
  ·rw[if_neg e];exact hj
 ·unfold upd
  by_cases e:j=w
  ·rw[if_pos e];subst e;exact hn hj
  ·rw[if_neg e];exact hj
inductive Chg(W W':Nat→Int)(s':CS)(r:Res):Prop
 | no (h:W'=W)
 | d (h1:W'=upd W 0 (W 0+1)) (h2:W 0<8)
 | fz (w:Nat) (h0:1≤w∧w<16) (h1:0<W w∧W w<FZ) (h2:W'=upd W w (W w+FZ))
 | lay (w:Nat) (h0:1≤w∧w<32) (h1:W w=0) (h2:W'=upd W w 1)
 | key (w:Nat) (h0:1≤w∧w<32) (h1:0<W w∧W w<FZ) (h2:W'=upd W w (W w+1)) (h3:s'=.none) (h4:r.done=true)
theorem sh_16{lv i:Nat}(hl:lv≤3)(hi:i<2^lv):1≤2^lv+i∧2^lv+i<16:=by
 have h1:=qJ (l0:=4) hi (by omega)
 have:=pow_pos2 lv
 omega
theorem jL{w:Nat}(h:1≤w∧w<32):∃lv i,lv≤4∧i<2^lv∧w=2^lv+i:=by
 by_cases h1:w<2
 ·exact⟨0,w-1,by omega,by omega,by omega⟩
 by_cases h2:w<4
 ·exact⟨1,w-2,by omega,by omega,by omega⟩
 by_cases h3:w<8
 ·exact⟨2,w-4,by omega,by omega,by omega⟩
 by_cases h4:w<16
 ·exact⟨3,w-8,by omega,by omega,by omega⟩
 ·exact⟨4,w-16,by omega,by omega,by omega⟩
theorem fX{W:Nat→Int}{B:Int}(h:Iw W B){lv i:Nat}(hl:lv≤3)(hi:i<2^lv)(hd:2*(lv:Int)+1≤W 0){v:Int}(hv:v<FZ)(e:W (2^lv+i)=v) :
  (0<v)∧W 0=2*lv+1∧Iw (upd W (2^lv+i) (v+FZ)) B:=by
 have ho:=h.sh (by omega:lv≤4) hi
 rw[e]at ho
 have h1:0<v∧W 0=2*lv+1:=by unfold okW at ho;omega
 refine⟨h1.1,h1.2,h.set_sh (by omega) hi (Int.le_refl _) ?_ (by rw[e];omega)⟩
 unfold okW at ho⊢;omega
theorem sf{W:Nat→Int}{B:Int}(h:Iw W B)(hB:1≤B){lv i:Nat}(h1:1≤lv)(hl:lv≤4)(hi:i<2^lv)(hd:2*(lv:Int)-1≤W 0)(hlow:FZ≤lZ W lv i)(e:W (2^lv+i)=0) :
  Iw (upd W (2^lv+i) 1) B:=by
 have ho:=h.sh hl hi
 rw[e]at ho
 have hF:FZ=4611686018427387904:=rfl
 refine h.set_sh hl hi (Int.le_refl _) ?_ (by rw[e];omega)
 unfold okW at ho⊢;omega
theorem live_ok{W:Nat→Int}{B:Int}(h:Iw W B){w:Nat}(hw:1≤w∧w<32)(hB:B+1<FZ)(hv:0<W w∧W w<FZ):Iw (upd W w (W w+1)) (B+1):=by
 obtain⟨lv,i,hl,hi,rfl⟩:=jL hw
 have ho:=h.sh hl hi
 refine h.set_sh hl hi (by omega) ?_ (by omega)
 unfold okW at ho⊢;omega
end Dir
namespace Dir
structure eK(P:Ops)(W:Nat→Int)(B:Int)(M':Mc)(s':CS)(r:Res):Prop where
 iw:Iw M'.W (B+1)
 cw:Cw P M'.W s'
 gr:Gr W M'.W
 chg:Chg W M'.W s' r
theorem eK.same{P:Ops}{M:Mc}{B:Int}{s':CS}{r:Res}(h:Iw M.W B)(hc:Cw P M.W s'):eK P M.W B M s' r:=⟨h.mono (by omega),hc,.refl _,.no rfl⟩
theorem gO{P:Ops}{W:Nat→Int}{c:Kc}{w:Nat}{v:Int}{h:List Ent}(hw:1≤w∧w<32)(hv:0≤v):Cw P W (entered P c w v h).1:=by
 unfold entered
 split
 ·trivial
 ·unfold found
  split
  ·trivial
  ·exact⟨hw.1,hw.2,by omega,by omega⟩
theorem move_cw{P:Ops}{W:Nat→Int}{lv i:Nat}(hl:lv≤3)(hi:i<2^lv)(hd:2*(lv:Int)+1≤W 0)(hg:Cw.gone W lv (i+1)):Cw P W (move lv (i+1)):=by
 unfold move
 split
 ·rename_i e;rw[e]at hg;exact⟨hl,hd,hg⟩
 ·exact⟨hl,by omega,hd,hg⟩
theorem nG{W:Nat→Int}{lv i:Nat}(h:Cw.gone W lv i)(h1:FZ≤W (2^lv+i))(h2:W (2^(lv+1)+i)≠0)(h3:W (2^(lv+1)+(i+2^lv))≠0):Cw.gone W lv (i+1):=fun j hj=>by
 by_cases e:j=i
 ·subst e;exact⟨h1,h2,h3⟩
 ·exact h j (by omega)
theorem upW_sh{lv i:Nat}{up:Bool}(hi:i<2^lv):∃j,j<2^(lv+1)∧upW lv i up=2^(lv+1)+j∧j%2^lv=i:=by
 have hp:=Nat.pow_succ 2 lv
 unfold upW
 cases up with
 | true=>exact⟨i+2^lv,by omega,rfl,by rw[Nat.add_mod_right,Nat.mod_eq_of_lt hi]⟩
 | false=>exact⟨i,by omega,rfl,Nat.mod_eq_of_lt hi⟩
theorem on_cw{P:Ops}{W:Nat→Int}{lv i:Nat}{up:Bool}{h:List Ent}(hl:lv≤3)(hi:i<2^lv)(hd:2*(lv:Int)+1≤W 0)(hg:Cw.gone W lv i)(hf:FZ≤W (2^lv+i))
  (hu:up=true→W (2^(lv+1)+i)≠0) (hn:W (upW lv i up)≠0):Cw P W (on lv i up h):=by
 unfold on
 cases up with
 | true =>
  refine move_cw hl hi hd (nG hg hf (hu rfl) ?_)
  simpa[upW]using hn
 | false=>exact⟨hl,hi,hd,hg,hf,fun _=>by simpa[upW]using hn⟩
theorem step_ok{P:Ops}(hP:∀c h r,P.fnd c h=.inl r→r.done=true){M:Mc}{B:Int}(h:Iw M.W B)(hB:1≤B∧B+1<FZ){s:CS}(hs:Cw P M.W s) :
  eK P M.W B (step P M s).1 (step P M s).2.1 (step P M s).2.2:=by
 have hF:FZ=4611686018427387904:=rfl
 have hd:=h.d
 cases s with
 | none=>exact .same h trivial
 | k0 c =>
  have hk:(M.W 0/2).toNat≤4:=by omega
  obtain⟨i,h1,h2⟩:=plc_sh (M.W 0/2).toNat (P.sum c.key)
  have:=sh_32 hk h1
  refine .same h ?_
  show Cw P M.W (if _ then _ else _)
  split
  ·rw[h2];exact this
  ·exact⟨by omega,rfl,by omega⟩
 | kE c w =>
  obtain⟨lv,i,hl,hi,rfl⟩:=jL hs
  have:=h.sh hl hi
  exact .same h (gO hs (by unfold okW at this;omega))
 | kF c lv w =>
  obtain⟨a,b,d⟩:=hs
  refine .same h ?_
  show Cw P M.W (if _ then _ else _)
  split
  ·exact⟨by omega,by omega,rfl,by omega,by rw[Nat.add_sub_cancel,← b];assumption⟩
  ·exact⟨a,b,d,by omega⟩
 | kG c lv w v m =>
  obtain⟨a,b,d,e⟩:=hs
  obtain⟨i,h1,h2⟩:=plc_sh lv (P.sum c.key)
  show eK P M.W B (if _ then _ else _:Mc×CS×Res).1 _ _
  by_cases hm:M.W w=v
  ·have hb:=b
   rw[h2]at hb
   subst hb
   obtain⟨g1,g2,g3⟩:=fX h a h1 d e hm
   have g4:Gr M.W (upd M.W (2^lv+i) (v+FZ)):=.set (fun e0=>by have:=sh_16 a h1;omega) (fun _=>by omega) (fun _=>by omega)
   simp only[step,if_pos hm]
   have hd2:=g4.d
   refine⟨g3.mono (by omega),⟨by omega,by omega,rfl,?_,?_⟩,g4,.fz _ (sh_16 a h1) (by omega) (by rw[hm];rfl)⟩
   ·show _≤upd M.W _ _ 0;omega
   ·rw[Nat.add_sub_cancel,h2];show FZ≤upd M.W _ _ _;rw[aF];omega
  ·simp only[step,if_neg hm]
   exact .same h ⟨a,b,d⟩
 | kH c lv w m =>
  obtain⟨a,b,d,e,f⟩:=hs
  obtain⟨i,h1,h2⟩:=plc_sh lv (P.sum c.key)
  have hw:=sh_32 b h1
  rw[← h2,← d]at hw
  have ho:=h.sh b h1
  rw[← h2,← d]at ho
  show eK P M.W B (if _ then _ else _:Mc×CS×Res).1 _ _
  by_cases hm:M.W w=0
  ·simp only[step,if_pos hm];exact .same h ⟨a,b,d,e,f⟩
  ·simp only[step,if_neg hm];exact .same h (gO hw (by unfold okW at ho;omega))
 | kL c lv w m =>
  obtain⟨a,b,d,e,f⟩:=hs
  obtain⟨i,h1,h2⟩:=plc_sh lv (P.sum c.key)
  have hw:=sh_32 b h1
  have hlow:FZ≤lZ M.W lv i:=by
   have h3:=ii (lv-1) (P.sum c.key)
   rw[Nat.sub_add_cancel a,h2,Nat.add_sub_cancel_left]at h3
   unfold lZ;rw[h3];exact f
  rw[h2]at d
  subst d
  by_cases hm:M.W (2^lv+i)=0
  ·simp only[step,if_pos hm]
   refine⟨(sf h hB.1 a b h1 e hlow hm).mono (by omega),hw,.set (fun e0=>by omega) (fun _=>by omega) (fun _=>by omega),.lay _ hw hm rfl⟩
  ·simp only[step,if_neg hm];exact .same h hw
 | kS c w v m n =>
  obtain⟨a,b,d,e⟩:=hs
  by_cases hm:M.W w=v
  ·simp only[step,if_pos hm]
   subst hm
   exact⟨live_ok h ⟨a,b⟩ hB.2 ⟨d,e⟩,trivial,.set (fun e0=>by omega) (fun _=>by omega) (fun _=>by omega),.key _ ⟨a,b⟩ ⟨d,e⟩ rfl rfl rfl⟩
  ·simp only[step,if_neg hm];exact .same h trivial
 | s0 =>
  show eK P M.W B (if _ then _ else _:Mc×CS×Res).1 _ _
  by_cases h1:M.W 0%2=1
  ·simp only[step,if_pos h1]
   exact .same h ⟨by omega,pow_pos2 _,by omega,fun j hj=>by omega⟩
  ·by_cases h2:M.W 0/2=4
   ·simp only[step,if_neg h1,if_pos h2];exact .same h trivial
   ·simp only[step,if_neg h1,if_neg h2]
    refine .same h ?_
    show _≤_
    omega
 | sM lv =>
  by_cases hm:M.W 0=2*lv
  ·simp only[step,if_pos hm]
   have hl:lv≤3:=hs
   have g:=h.begin hl hm
   have h2:(M.set 0 (2*lv+1) []).W 0=2*lv+1:=by simp[Mc.set,upd]
   refine⟨g.mono (by omega),⟨hl,pow_pos2 _,by omega,fun j hj=>by omega⟩,.set (fun _=>by omega) (fun _=>by omega) (fun _=>by omega),.d ?_ (by omega)⟩
   rw[hm];rfl
  ·simp only[step,if_neg hm];exact .same h trivial
 | sF lv i =>
  obtain⟨a,b,d,e⟩:=hs
  refine .same h ?_
  show Cw P M.W (if _ then _ else _)
  split
  ·exact⟨a,b,d,e,by assumption,fun hf=>by simp at hf⟩
  ·exact⟨a,b,d,e,by omega⟩
 | sG lv i v m =>
  obtain⟨a,b,d,e,f⟩:=hs
  by_cases hm:M.W (2^lv+i)=v
  ·obtain⟨g1,g2,g3⟩:=fX h a b d f hm
   have g4:Gr M.W (upd M.W (2^lv+i) (v+FZ)):=.set (fun e0=>by have:=sh_16 a b;omega) (fun _=>by omega) (fun _=>by omega)
   simp only[step,if_pos hm]
   have hd2:=g4.d
   exact⟨g3.mono (by omega),⟨a,b,by show _≤upd M.W _ _ 0;omega,g4.gone e,by show FZ≤upd M.W _ _ _;rw[aF];omega,fun hf=>by simp at hf⟩,g4,.fz _ (sh_16 a b) (by omega) (by rw[hm];rfl)⟩
  ·simp only[step,if_neg hm];exact .same h ⟨a,b,d,e⟩
 | sH lv i up m =>
  obtain⟨a,b,d,e,f,g⟩:=hs
  refine .same h ?_
  show Cw P M.W (if _ then _ else _)
  split
  ·exact⟨a,b,d,e,f,g⟩
  ·exact on_cw a b d e f g (by assumption)
 | sL lv i up m =>
  obtain⟨a,b,d,e,f,g⟩:=hs
  obtain⟨j,h1,h2,h3⟩:=upW_sh (up:=up) b
  have hw:=sh_32 (by omega:lv+1≤4) h1
  by_cases hm:M.W (upW lv i up)=0
  ·simp only[step,if_pos hm]
   have hlow:FZ≤lZ M.W (lv+1) j:=by unfold lZ;rw[Nat.add_sub_cancel,h3];exact f
   have g4:Gr M.W (upd M.W (upW lv i up) 1):=.set (fun e0=>by omega) (fun _=>by omega) (fun _=>by omega)
   have hd2:=g4.d
   refine⟨?_,on_cw a b (by show _≤upd M.W _ _ 0;omega) (g4.gone e) (g4.fz _ f) (fun hu=>g4.ne _ (g hu)) (by show upd M.W _ _ _≠0;rw[aF];omega),g4,.lay _ (by omega) hm rfl⟩
   have:=sf h hB.1 (by omega:1≤lv+1) (by omega) h1 (by omega) hlow (by rw[← h2];exact hm)
   rw[← h2]at this
   exact this.mono (by omega)
  ·simp only[step,if_neg hm];exact .same h (on_cw a b d e f g hm)
 | sV lv =>
  obtain⟨a,b,d⟩:=hs
  by_cases hm:M.W 0=2*lv+1
  ·simp only[step,if_pos hm]
   refine⟨(h.fin a hm d).mono (by omega),trivial,.set (fun _=>by omega) (fun _=>by omega) (fun _=>by omega),.d ?_ (by omega)⟩
   rw[hm];show upd M.W 0 _=upd M.W 0 _;congr 1
  ·simp only[step,if_neg hm];exact .same h trivial
end Dir
namespace Dir
def sumN(n:Nat)(f:Nat→Nat):Nat :=
 match n with
 | 0=>0
 | n+1=>sumN n f+f n
def remW(x:Int)(w:Nat):Nat:=if w=0 then(8-x).toNat else if w<16 then(if x=0 then 2 else if x<FZ then 1 else 0)else if x=0 then 1 else 0
def rem(W:Nat→Int):Nat:=sumN 32 fun w=>remW (W w) w
def TH(x:Int):Nat:=if x=0 then 4 else if x<FZ then 2 else 8
def TF(x y:Int):Nat:=TH y+if x<FZ then 2 else 1
def TE(x:Int):Nat:=if x≠0∧x<FZ then 2 else 8
def U(lv i:Nat):Nat:=6*(2^lv-i)+1
def T(P:Ops)(W:Nat→Int):CS→Nat
 | .none=>53
 | .k0 _=>if W 0%2=0 then 3 else 7
 | .kE _ w=>TE (W w)
 | .kF c lv w=>TF (W w) (W (plc (lv+1) (P.sum c.key)))
 | .kG c lv w v _=>if W w=v then 1+TH (W (plc (lv+1) (P.sum c.key)))else 1+TF (W w) (W (plc (lv+1) (P.sum c.key)))
 | .kH _ _ w _=>TH (W w)
 | .kL _ _ w _=>1+if W w=0 then 2 else TE (W w)
 | .kS _ w v _ _=>if W w=v then 1 else 8
 | .s0=>52
 | .sM lv=>if W 0=2*lv then 51 else 53
 | .sF lv i=>U lv i
 | .sG lv i v _=>if W (2^lv+i)=v then U lv i-1 else U lv i+1
 | .sH lv i up _=>U lv i-(if up then 4 else 2)
 | .sL lv i up _=>U lv i-(if up then 5 else 3)
 | .sV _=>1
end Dir
namespace Dir
def left(P:Ops)(W:Nat→Int)(cs:Nat→CS):Nat:=sumN 8 (fun j=>T P W (cs j))+56*rem W
structure Inv(P:Ops)(M:Mc)(cs:Nat→CS)(B:Int):Prop where
 iw:Iw M.W B
 b:1≤B
 cw:∀j,Cw P M.W (cs j)
theorem Inv.step{P:Ops}(hP:∀c h r,P.fnd c h=.inl r→r.done=true){M:Mc}{cs:Nat→CS}{B:Int}(h:Inv P M cs B)(hB:B+1<FZ)(i:Nat):Inv P (step P M (cs i)).1 (upd cs i (Dir.step P M (cs i)).2.1) (B+1):=by
 have h1:=step_ok hP h.iw ⟨h.b,hB⟩ (h.cw i)
 refine⟨h1.iw,by have:=h.b;omega,fun j=>?_⟩
 by_cases e:j=i
 ·subst e;rw[aF];exact h1.cw
 ·rw[a6 _ _ e];exact h1.gr.cw (h.cw j)
def M0:Mc:=⟨fun w=>if w=1 then 1 else 0,fun _=>[]⟩
theorem Inv.zero(P:Ops):Inv P M0 (fun _=>.none) 1:=by
 refine⟨⟨by simp[M0],fun lv i hl hi=>?_⟩,by omega,fun j=>trivial⟩
 have hF:FZ=4611686018427387904:=rfl
 have h0:M0.W 0=0:=rfl
 rw[h0]
 by_cases e:lv=0
 ·subst e
  obtain rfl:i=0:=by omega
  show okW 0 0 1 _ 1
  unfold okW;omega
 ·have:M0.W (2^lv+i)=0:=by
   have:2^1≤2^lv:=Q16 (by omega) (by omega)
   simp only[M0];rw[if_neg (by omega)]
  rw[this];unfold okW;omega
end Dir
theorem lN(k:IntKind)(hk:k.bits=64)(x:Int)(n:Nat)(hn:n≤30):bits .and k x (2^n-1)=x%2^n:=by
 have hp:(0:Int)<2^n:=Int.pow_pos (by decide)
 have hle:(2:Nat)^n≤2^30:=Q16 (by decide) hn
 have hpe:((2^n:Nat):Int)=2^n:=by simp
 have e1:(BitVec.ofInt k.bits ((2:Int)^n-1)).toNat=2^n-1:=by
  rw[BitVec.toNat_ofInt,hk]
  have:((2:Int)^n-1)%((2^64:Nat):Int)=2^n-1:=Int.emod_eq_of_lt (by omega) (by omega)
  rw[this];omega
 have e2:((BitVec.ofInt k.bits x&&&BitVec.ofInt k.bits ((2:Int)^n-1)).toNat:Int)=x%2^n:=by
  rw[BitVec.toNat_and,e1,Nat.and_two_pow_sub_one_eq_mod,BitVec.toNat_ofInt,hk]
  have h0:0≤x%((2^64:Nat):Int):=Int.emod_nonneg _ (by decide)
  rw[Int.natCast_emod,Int.toNat_of_nonneg h0,hpe]
  refine Int.emod_emod_of_dvd x ?_
  obtain⟨d,hd⟩:∃d,64=n+d:=⟨64-n,by omega⟩
  rw[hd]
  exact⟨2^d,by rw[← Int.pow_add];norm_cast⟩
 have h1:=Int.emod_nonneg x (by omega:(2^n:Int)≠0)
 have h2:=Int.emod_lt_of_pos x hp
 unfold bits
 simp only
 rw[e2]
 have hw:∀v:Int,0≤v→v<2^30→k.wrap v=v:=by
  intro v h3 h4
  cases k<;>first|(exact IntWalk.i64_in _ (by omega))|(exact IntWalk.u64_in _ (by omega))|(simp[IntKind.bits]at hk)|(unfold IntKind.wrap;simp[IntKind.bits,IntKind.signed];omega)
 exact hw _ h1 (by omega)
theorem oN(s:Int)(n:Nat)(hn:n≤30):IntKind.i64.wrap s%2^n=s%2^n:=by
 have hw:∃q:Int,IntKind.i64.wrap s=s+2^64*q:=by
  have hdef:=Int.emod_def s (2^64)
  show ∃q:Int,(if(IntKind.i64.signed&&decide (s%2^64≥2^63))=true then s%2^64-2^64 else s%2^64)=_
  split
  ·exact⟨-(s/2^64)-1,by rw[hdef,Int.mul_sub,Int.mul_neg];omega⟩
  ·exact⟨-(s/2^64),by rw[hdef,Int.mul_neg];omega⟩
 obtain⟨q,hq⟩:=hw
 rw[hq]
 obtain⟨d,hd⟩:∃d,64=n+d:=⟨64-n,by omega⟩
 rw[hd,Int.pow_add,Int.mul_assoc,Int.add_mul_emod_self_left]
def aq(e:Dir.Ent):List D:=[al 1 (aA .u8) e.key,.val (.int .i64 e.val)]
theorem bk(n:Int):Pure TC 26 [.i .i64 n] (.b (decide (0≤n)&&decide (n<64))):=by
 refine Pure.mk' Tryz.func26 rfl rfl zN ?_
 (repeat' (first|((first|refine Wp.any ab rfl ?_|(with_reducible first|refine Go.mk ?_|apply am.of));conv=>whnf)|((refine au (fun hc=>?_) (fun hc=>?_))<;>(try simp only[wz9]at hc)<;>(try (exfalso;omega))<;>(conv=>whnf))))
 all_goals exact .b (by simp;omega)
theorem cr(who word words:Int):Pure TC 114 [.i .i64 who,.i .i64 word,.i .i64 words] (.i .i64 (if(0≤who∧who<64)∧0≤word∧word<words then 0 else 1)):=by
 refine Pure.mk' Tryz.func114 rfl rfl zN ?_
 (repeat' (first|((first|refine Wp.any ab rfl ?_|(with_reducible first|refine Go.mk ?_|apply am.of));conv=>whnf)|((refine au (fun hc=>?_) (fun hc=>?_))<;>(try simp only[wz9]at hc)<;>(try (exfalso;omega))<;>(conv=>whnf))))
 all_goals first|exact .i (by rw[if_pos (by omega)])|exact .i (by rw[if_neg (by omega)])
theorem m7(lv:Nat)(hl:lv≤4)(s:Int):IntKind.i64.wrap (IntKind.i64.wrap (1*2^min ((lv:Nat):Int).toNat IntKind.i64.bits)+bits .and .i64 (IntKind.i64.wrap s) (IntKind.i64.wrap (IntKind.i64.wrap (1*2^min ((lv:Nat):Int).toNat IntKind.i64.bits)-1)))=Dir.plc lv s:=by
 have e1:IntKind.i64.wrap (1*2^min ((lv:Nat):Int).toNat IntKind.i64.bits)=2^lv∧IntKind.i64.wrap (2^lv-1)=2^lv-1∧(2:Int)^lv≤16∧(0:Int)<2^lv:=by
  have hlv:lv=0∨lv=1∨lv=2∨lv=3∨lv=4:=by omega
  rcases hlv with rfl|rfl|rfl|rfl|rfl<;>decide
 obtain⟨e1,e2,e3,e4⟩:=e1
 rw[e1,e2,lN .i64 rfl _ lv (by omega),oN s lv (by omega)]
 have h1:=Int.emod_nonneg s (by omega:(2^lv:Int)≠0)
 have h2:=Int.emod_lt_of_pos s e4
 rw[IntWalk.i64_in _ (by omega)]
 unfold Dir.plc
 have:((2^lv:Nat):Int)=2^lv:=by simp
 omega
theorem bc(lv:Nat)(hl:lv≤4)(s:Int):Pure TC 52 [.i .i64 lv,.i .u64 s] (.i .i64 (Dir.plc lv s)):=by
 refine Pure.mk' Tryz.func52 rfl rfl zN ?_
 (repeat' (first|((first|refine Wp.any ab rfl ?_|(with_reducible first|refine Go.mk ?_|apply am.of|refine And.intro zC ?_|refine Ov.mk ?_));conv=>whnf)))
 exact .i (m7 lv hl s)
def lU(h:Int):List Int→Int
 | []=>h
 | x::r=>lU (IntKind.u64.wrap (bits .xor .u64 h (IntKind.u64.wrap x)*1099511628211)) r
def ay(key:List Int):Int:=lU 14695981039346656037 key
theorem mG(h:Int)(x:Int):∀l:List Int,lU h (l++[x])=IntKind.u64.wrap (bits .xor .u64 (lU h l) (IntKind.u64.wrap x)*1099511628211):=by
 intro l
 induction l generalizing h with
 | nil=>rfl
 | cons y r ih=>exact ih _
theorem iR(h:Int){p:List Int}{k:Nat}(hk:k<p.length):lU h (p.take (k+1))=IntKind.u64.wrap (bits .xor .u64 (lU h (p.take k)) (IntKind.u64.wrap (p.getD (k:Int).toNat default))*1099511628211):=by
 rw[List.take_succ_eq_append_getElem hk,mG,Q13,Q1,Q0 hk];rfl
theorem ke(h:Int)(p:List Int):Pure TC 96 [.i .u64 h,.d (al 1 (aA .u8) p)] (.i .u64 (lU h p)):=by
 refine Pure.lens (.mk Tryz.func96 rfl rfl) fun hlen=>?_
 have ha:=hlen p.length (by simp[bw,al])
 clear hlen
 refine Pure.mk' Tryz.func96 rfl rfl zN ?_
 (repeat' (first|((first|refine Wp.any ab rfl ?_|(with_reducible first|refine Go.mk ?_|apply am.of));conv=>whnf)))
 refine Wp.loopP (ι:=Nat) (fun k=>k≤p.length) (fun k=>⟨⟨Tryz.f96.ntmps,0⟩,0,[(0,.i .u64 (lU h (p.take k))),(7,.d (al 1 (aA .u8) p)),(8,.i .i64 p.length),(9,.i .i64 k)],[]⟩) (fun k=>p.length-k) 0 (Nat.zero_le _) ?_ ?_
 ·(refine Le.by [] rfl rfl rfl rfl ?_ ?_<;>(conv=>whnf)<;>(repeat' (first|exact trivial|exact ac.rfl rfl|((with_reducible refine And.intro ?_ ?_)<;>(conv=>whnf)))))
 ·rintro k h1
  (repeat' (first|((first|refine Wp.any ab rfl ?_|(with_reducible first|refine Go.mk ?_|apply am.of|refine Ov.ok zO ?_|refine And.intro zC ?_|refine Ov.mk ?_));conv=>whnf)|((refine au (fun hc=>?_) (fun hc=>?_))<;>(try simp only[wz9]at hc)<;>(try (exfalso;omega))<;>(conv=>whnf))))
  ·refine⟨k+1,by dsimp only;omega,by dsimp only;omega,?_⟩
   dsimp only
   rw[iR h (by omega)]
   (refine Le.by [] rfl rfl rfl rfl ?_ ?_<;>(conv=>whnf)<;>(repeat' (first|exact trivial|exact ac.rfl rfl|((with_reducible refine And.intro ?_ ?_)<;>(conv=>whnf)))))
  ·obtain rfl:k=p.length:=by omega
   rw[List.take_length];exact .i rfl
theorem it(p:List Int):Pure TC 59 [.d (al 1 (aA .u8) p)] (.i .u64 (ay p)):=by
 refine Pure.mk' Tryz.func59 rfl rfl zN ?_
 (repeat' (first|((first|refine Wp.any ab rfl ?_|(with_reducible first|refine Go.mk ?_|apply am.of|refine aa.pure (ke 14695981039346656037 p) rfl rfl ?_));conv=>whnf)))
 exact .i (by unfold ay;rfl)
theorem mQ(lv:Nat)(hl:lv≤4)(s:Int):IntKind.i64.wrap (bits .and .u64 s (IntKind.u64.wrap (IntKind.u64.wrap (1*2^min ((lv:Nat):Int).toNat IntKind.u64.bits)-1)))=s%2^lv:=by
 have e1:IntKind.u64.wrap (1*2^min ((lv:Nat):Int).toNat IntKind.u64.bits)=2^lv∧IntKind.u64.wrap (2^lv-1)=2^lv-1∧(2:Int)^lv≤16∧(0:Int)<2^lv:=by
  have hlv:lv=0∨lv=1∨lv=2∨lv=3∨lv=4:=by omega
  rcases hlv with rfl|rfl|rfl|rfl|rfl<;>decide
 obtain⟨e1,e2,e3,e4⟩:=e1
 rw[e1,e2,lN .u64 rfl _ lv (by omega)]
 have h1:=Int.emod_nonneg s (by omega:(2^lv:Int)≠0)
 have h2:=Int.emod_lt_of_pos s e4
 exact IntWalk.i64_in _ (by omega)
theorem l9(p:List Int)(lv:Nat)(hl:lv≤4):Pure TC 53 [.d (al 1 (aA .u8) p),.i .i64 lv] (.tup [.i .i64 (ay p%2^lv),.i .i64 0]):=by
 refine Pure.mk' Tryz.func53 rfl rfl zN ?_
 (repeat' (first|((first|refine Wp.any ab rfl ?_|(with_reducible first|refine Go.mk ?_|apply am.of)|refine zV ?_|(with_reducible first|refine And.intro zC ?_|refine ai.pure (it _) rfl rfl ?_|refine Ov.mk ?_));conv=>whnf)|((refine au (fun hc=>?_) (fun hc=>?_))<;>(try simp only[wz9]at hc)<;>(try (exfalso;omega))<;>(conv=>whnf))))
 all_goals try (exfalso;omega)
 exact .tup (.cons (.i (mQ lv hl _)) (.cons (.rfl _) .nil))
theorem lQ:(Tryz.prog.info? 71).map (fun i=>(i.zero,i.size,i.bytes))=some (some (.agg #[.slice none 0 0,.int .i64 0]),2,32):=by kernel_rfl
theorem rL(w:World):(sizeOf 71).run Tryz.prog w=.ok 2 w:=by kernel_rfl
theorem mq(B:Nat)(v:Value)(n i vb cv:Nat)(vcur:Array Value)(xs vs:List Value)(w:World)(hin:i≤n)(hown:w.ownsRow B 71 2 v n xs)(hB:B≤w.heap.size)(hn:n≤16777216)
  (hvl:vs.length=2) (hvb:w.heap[vb]?=some (.cells vcur 71 (0,0))) (hvc:∀(j:Nat) (u:Value),vs[j]?=some u→vcur[j]?=some u) (hne:v.ownBlock≠some vb) (hv1:∀u∈vs,u.oneCell'=true) (hx1:∀u∈xs,u.oneCell'=true) :
  Calls Tryz.prog 64 #[v,.int .i64 i,.slice (some ⟨vb,0,none⟩) 1 cv] w fun e w' =>
   ∃v',e=.returned v'∧w'.ownsRow B 71 2 v' (n+1) (xs.take (i*2)++vs++xs.drop (i*2))∧w.grownBy w' v.ownBlock∧∀k,v'.ownBlock=some k→v.ownBlock=some k∨w.heap.size≤k:=by
 have hv2:=hown.2
 obtain⟨i0,hi0,hz0,hz1,hz2⟩:=info_parts lQ
 have hxl:=hown.1
 have hvcell:∀j u,vs[j]?=some u→w.cell? ⟨vb,j,none⟩=some u:=fun j u hj=>by simp[World.cell?,hvb];exact hvc j u hj
 have hvlt:vb<w.heap.size:=(Q17 hvb).1
 have append_end:∀(W:World),W=w→n=i→Calls Tryz.prog 64 #[v,.int .i64 i,.slice (some ⟨vb,0,none⟩) 1 cv] w fun e w' =>
   ∃v',e=.returned v'∧w'.ownsRow B 71 2 v' (n+1) (xs++vs)∧w.grownBy w' v.ownBlock∧∀k,v'.ownBlock=some k→v.ownBlock=some k∨w.heap.size≤k:=by
  intro W _ hni
  subst hni
  have Hown:=Lib.hid hown
  have hva:∀j u,vs[j]?=some u→w.cell? ((⟨vb,0,none⟩:Addr).add j)=some u:=fun j u hj=>by
   have:=hvcell j u hj
   unfold Addr.add;split
   ·rename_i h;subst h;exact this
   ·simpa using this
  have Hva:=Lib.hid hva;have Hl:=Lib.hid hvl;have Hne:=Lib.hid hne
  clear hva hvcell hvb hvc hvl hne hxl
  rcases hv2 with⟨rfl,rfl⟩|⟨g,cap,cur,rfl,hBg,hg,hnc,hcm,hcs,htk⟩
  ·clear hown
   go_enter Tryz.func64,Tryz.ntmps64
   go_wp2_with (first|(at_builtin;refine cE _ rfl _ _ 65 rfl B 71 i0 (.agg #[.slice none 0 0,.int .i64 0]) 2 32 Tryz.underlying65 hi0 hz0 hz1 hz2 rfl (by decide) _ _ _ rfl Hown.out ⟨vb,0,none⟩ 1 _ vs rfl (by rw[Hl.out]) Hva.out hv1 (by unfold maxLen;omega) (by omega) hB ?_;intro v' w1 hown1 hg1 hloc1))
   go_ret
   exact⟨_,rfl,hown1,hg1,hloc1⟩
  ·unfold maxLen at hcm
   have Hg:=Lib.hid hg;clear hg
   have Hcs:=Lib.hid hcs;have Htk:=Lib.hid htk;clear hcs htk hown
   go_enter Tryz.func64,Tryz.ntmps64
   go_wp2_with (first|(at_builtin;refine cE _ rfl _ _ 65 rfl B 71 i0 (.agg #[.slice none 0 0,.int .i64 0]) 2 32 Tryz.underlying65 hi0 hz0 hz1 hz2 rfl (by decide) _ _ _ rfl Hown.out ⟨vb,0,none⟩ 1 _ vs rfl (by rw[Hl.out]) Hva.out hv1 (by unfold maxLen;omega) (by omega) hB ?_;intro v' w1 hown1 hg1 hloc1))
   all_goals(go_ret;exact⟨_,rfl,hown1,hg1,hloc1⟩)
 by_cases hi:n=i
 ·have h:=append_end w rfl hi
  rw[Q21 (by rw[hxl,hi];exact Q4 _),List.drop_of_length_le (by rw[hxl,hi];exact Q4 _),List.append_nil]
  exact h
 ·clear append_end
  have hlt:i<n:=by omega
  rcases hv2 with⟨rfl,rfl⟩|⟨g,cap,cur,rfl,hBg,hg,hnc,hcm,hcs,htk⟩
  ·omega
  ·unfold maxLen at hcm
   have hd0:((i:Int)==n)=false:=by simp;omega
   have hcu:∀j,j<cap*2→∃u,cur[j]?=some u:=fun j hj=>⟨cur[j]'(by omega),by rw[Array.getElem?_eq_getElem (by omega)]⟩
   by_cases hroom:n+1≤cap
   ·have hov:∀lb cb,(callFunc 99 #[.slice (some ⟨vb,0,none⟩) 1 cv,.slice (some ⟨g,(i+1)*2,none⟩) lb cb]).run Tryz.prog w=.ok (.value (.bool false)) w:=fun lb cb=>by
     rw[run_callFunc_extern Tryz.func99 (by kernel_rfl) (by kernel_rfl) (by kernel_rfl) (e:=Extern.SlicesOverlaps.overlaps #[65,65] #[4]) (by kernel_rfl),
      Lib.run_overlaps_apart w 65 4 71 Tryz.underlying65 2 rL ⟨vb,0,none⟩ ⟨g,(i+1)*2,none⟩ 1 cv lb cb (by intro h;apply hne;simp only at h;rw[h];rfl) 71 71 vcur.size cur.size
       (by simp[World.shape?,hvb]) (by simp[World.shape?,hg]) (by omega) (by simp[World.frozen?,hvb]) (by simp[World.frozen?,hvb])]
     rfl
    go_enter Tryz.func64,Tryz.ntmps64
    go_wp2_with (simp only[hov])
    have hsrc1:∀j u,(xs.drop (i*2))[j]?=some u→w.drew.cell? ((⟨g,i*2,none⟩:Addr).add j)=some u:=fun j u hj=>by
     show w.cell? _=_
     rw[Addr.add_lit,show w.cell? ⟨g,i*2+j,none⟩=cur[i*2+j]? from by simp[World.cell?,hg],← Array.getElem?_toList]
     rw[List.getElem?_drop,← htk,Q15]at hj
     split at hj
     ·simpa using hj
     ·cases hj
    have hw1:IntKind.i64.wrap ((i:Int)+1)=(i:Int)+1:=IntWalk.i64_in _ (by omega)
    have hb1:(0:Int)≤(i:Int)+1:=by omega
    have htn:((i:Int)+1).toNat=i+1:=by omega
    have hb2:¬(cap=i+1):=by omega
    have hb3:(i:Int)≤(n:Int)+1:=by omega
    have hb4:¬(cap=i):=by omega
    have hmul:i*2+2≤n*2:=by omega
    have hdl:(xs.drop (i*2)).length=(n-i)*2:=by rw[List.length_drop,hxl];omega
    have L:=rb cur.toList xs vs (i*2) (n*2) 2 (cap*2) (by simpa using hcs) htk hvl (by omega) (by omega)
    obtain⟨C1,hC1⟩:∃C1:Array Value,C1=(cur.toList.take ((i+1)*2)++xs.drop (i*2)++cur.toList.drop ((i+1)*2+(xs.drop (i*2)).length)).toArray:=⟨_,rfl⟩
    obtain⟨C2,hC2⟩:∃C2:Array Value,C2=(C1.toList.take (i*2)++vs++C1.toList.drop (i*2+vs.length)).toArray:=⟨_,rfl⟩
    have hC1s:C1.size=cap*2:=by rw[hC1];simp;omega
    have HC1:=Lib.hid hC1;have HC2:=Lib.hid hC2
    have hcp2:∀ty dc,(Builtin.copy_ #[65,65] ty #[.slice (some ⟨g,i*2,none⟩) (n+1-i) dc,.slice (some ⟨vb,0,none⟩) 1 cv]).run Tryz.prog (w.drew.setRow g C1)=.ok (goInt ((1:Nat):Int)) ((w.drew.setRow g C1).setRow g C2):=by
     intro ty dc
     have hm:Nat.min 1 (n+1-i)=1:=by simp only[Nat.min_def];split<;>omega
     have hgn:vb≠g:=by intro h;apply hne;rw[h];rfl
     have:=dL (P:=Tryz.prog) (w.drew.setRow g C1) 65 65 ty 71 i0 g (i*2) (n+1-i) dc ⟨vb,0,none⟩ 1 cv C1 71 vs Tryz.underlying65 hi0 (setRow_heap _ g _ _ _ _ hg) (by rw[hvl,hm,hz1])
      (fun j u hj=>by rw[Addr.add_lit,cell_setRow_other _ _ _ _ hgn];simpa using hvcell j u hj) (by rw[hvl,hC1s];omega) hv1
     rw[hm]at this
     rw[this,hC2];try simp only[Nat.mul_one]
    have Hcp2:=Lib.hid hcp2;clear hcp2
    have hcp1:∀ty dc sc,(Builtin.copy_ #[65,65] ty #[.slice (some ⟨g,(i+1)*2,none⟩) (n-i) dc,.slice (some ⟨g,i*2,none⟩) (n+1-i) sc]).run Tryz.prog w.drew=.ok (goInt ((n-i:Nat):Int)) (w.drew.setRow g C1):=by
     intro ty dc sc
     have hm:Nat.min (n+1-i) (n-i)=n-i:=by simp only[Nat.min_def];split<;>omega
     have:=dL (P:=Tryz.prog) w.drew 65 65 ty 71 i0 g ((i+1)*2) (n-i) dc ⟨g,i*2,none⟩ (n+1-i) sc cur 71 (xs.drop (i*2)) Tryz.underlying65 hi0 hg (by rw[hdl,hm,hz1]) hsrc1 (by rw[hdl];omega) (fun u hu=>hx1 u (List.mem_of_mem_drop hu))
     rw[hm]at this;rw[this,hC1]
    have Hcp1:=Lib.hid hcp1;clear hcp1 hC1 hC2
    go_region_law (refine dK rfl _ _ 65 65 rfl _ _ (by simp[Act.eval,Act.put]) (by simp[Act.eval,Act.put]) (Hcp1.out _ (cap-(i+1)) (cap-i)) ?_)
    go_wp2_with (refine cJ _ rfl _ _ 65 65 rfl _ _ rfl rfl (Hcp2.out _ (cap-i)) ?_)
    go_ret
    have e1:(i+1)*2=i*2+2:=by omega
    have h1:=HC1.out;have h2:=HC2.out
    rw[e1]at h1
    rw[h1]at h2
    simp only[List.toList_toArray]at h2
    obtain⟨L1,L2⟩:=L
    refine⟨_,rfl,⟨?_,Or.inr ⟨g,cap,C2,rfl,hBg,setRow_heap _ g _ _ _ _ (setRow_heap _ g _ _ _ _ hg),hroom,by unfold maxLen;omega,?_,?_⟩⟩,?_⟩
    ·simp only[Q9,Q10,List.length_drop,hxl,hvl];omega
    ·rw[h2];simpa using L1
    ·rw[h2,show(n+1)*2=n*2+2 from by omega];simpa using L2
    ·exact⟨aX (aX db (cg _) (fun x hx=>by cases hx;exact Or.inl rfl)) (cg _) (fun x hx=>by cases hx;exact Or.inl rfl),fun k hk=>Or.inl hk⟩
   ·have hcap:cap=n:=by omega
    have hk1:0<n+1-i:=by omega
    have holds:(Builtin.firstCells i0.size i (.slice (some ⟨g,0,none⟩) i cap)).run Tryz.prog w.drew=.ok (xs.take (i*2)).toArray w.drew:=by
     have:=run_firstCells_some (P:=Tryz.prog) w.drew i0.size i ⟨g,0,none⟩ i cap (xs.take (i*2)) (by rw[Q10,hz1];omega) (fun j u hj=>by
      show w.cell? _=_
      rw[Addr.add_lit,show w.cell? ⟨g,0+j,none⟩=cur[0+j]? from by simp[World.cell?,hg],← Array.getElem?_toList]
      rw[← htk,Q15,Q15]at hj
      split at hj
      ·split at hj
       ·simpa using hj
       ·cases hj
      ·cases hj)
     exact this
    obtain⟨gc,hgc⟩:∃gc,gc=grownCap w (i+(n+1-i)) cap 71:=⟨_,rfl⟩
    have hgc1:n+1≤gc:=by have:=grownCap_ge w (i+(n+1-i)) cap 71;omega
    have hgc2:gc≤9223372036854775807:=by have:=grownCap_le_maxLen w (i+(n+1-i)) cap 71 (by unfold maxLen;omega);unfold maxLen at this;omega
    obtain⟨Zs,hZs⟩:∃Zs:List Value,Zs=(Builtin.zeroCells (.agg #[.slice none 0 0,.int .i64 0]:Value).cells (n+1-i)).toList++(Builtin.zeroCells (.agg #[.slice none 0 0,.int .i64 0]:Value).cells (gc-(n+1))).toList:=⟨_,rfl⟩
    have hzc:(.agg #[.slice none 0 0,.int .i64 0]:Value).cells.size=2:=rfl
    have hZl:Zs.length=(gc-i)*2:=by rw[hZs];simp only[Q9,Array.length_toList,size_zeroCells,hzc];omega
    obtain⟨W1,hW1⟩:∃W1,W1=w.drew.alloc (.cells (xs.take (i*2)++Zs).toArray 71):=⟨_,rfl⟩
    have happ:∀ty,(Builtin.append_ #[65,3] ty #[.slice (some ⟨g,0,none⟩) i cap,.int .i64 ((n:Int)+1-(i:Int))]).run Tryz.prog w=.ok (.slice (some ⟨w.heap.size,0,none⟩) (n+1) gc) W1:=by
     intro ty
     have:=Lib.run_append_grow_zeros (P:=Tryz.prog) w 65 3 ty 71 i0 (.agg #[.slice none 0 0,.int .i64 0]) .i64 .i64 Tryz.underlying65 Tryz.underlying3 hi0 hz0 (some ⟨g,0,none⟩) i cap (xs.take (i*2)) holds (n+1-i) hk1 (by rw[hz1];decide) (by omega) (by omega) (by rw[hz2];omega) (growslice_fits (by omega) (by rw[hz2];omega))
     rw[show((n:Int)+1-(i:Int))=((n+1-i:Nat):Int)from by omega,this,hW1,← hgc,hZs,show i+(n+1-i)=n+1 from by omega]
     congr 3
     apply Array.ext'
     simp[List.append_assoc]
    have hW1a:W1.heap[w.heap.size]?=some (.cells (xs.take (i*2)++Zs).toArray 71 (0,0)):=by rw[hW1];exact aK w.drew _
    have hW1b:∀k,k<w.heap.size→W1.heap[k]?=w.heap[k]?:=fun k hk=>by rw[hW1];exact heap_alloc_old w.drew _ hk
    have hW1g:w.grownBy W1 none:=by rw[hW1];exact aX db (World.grownBy_alloc _ _ none) (fun x hx=>by cases hx)
    have hglt:g<w.heap.size:=(Q17 hg).1
    obtain⟨A1,hA1⟩:∃A1:Array Value,A1=((xs.take (i*2)++Zs).take (i*2)++vs++(xs.take (i*2)++Zs).drop (i*2+vs.length)).toArray:=⟨_,rfl⟩
    obtain⟨W2,hW2⟩:∃W2,W2=W1.setRow w.heap.size A1:=⟨_,rfl⟩
    have hcpA:∀ty dc,(Builtin.copy_ #[65,65] ty #[.slice (some ⟨w.heap.size,i*2,none⟩) (n+1-i) dc,.slice (some ⟨vb,0,none⟩) 1 cv]).run Tryz.prog W1=.ok (goInt ((1:Nat):Int)) W2:=by
     intro ty dc
     have hm:Nat.min 1 (n+1-i)=1:=by simp only[Nat.min_def];split<;>omega
     have:=dL (P:=Tryz.prog) W1 65 65 ty 71 i0 w.heap.size (i*2) (n+1-i) dc ⟨vb,0,none⟩ 1 cv _ 71 vs Tryz.underlying65 hi0 hW1a (by rw[hvl,hm,hz1])
      (fun j u hj=>by rw[Addr.add_lit,World.cell?_of_block (hW1b vb hvlt)];simpa using hvcell j u hj) (by rw[hvl];simp only[List.size_toArray,Q9,Q10,hZl,hxl];omega) hv1
     rw[hm]at this
     rw[this,hW2,hA1]
    have hA1s:A1.size=gc*2:=by rw[hA1];simp only[List.size_toArray,Q9,Q10,List.length_drop,hZl,hxl,hvl];omega
    have hW2a:W2.heap[w.heap.size]?=some (.cells A1 71 (0,0)):=by rw[hW2];exact setRow_heap _ _ _ _ _ _ hW1a
    have hW2b:∀k,k<w.heap.size→W2.heap[k]?=w.heap[k]?:=fun k hk=>by rw[hW2,setRow_other _ _ _ _ (by omega)];exact hW1b k hk
    have hdl:(xs.drop (i*2)).length=(n-i)*2:=by rw[List.length_drop,hxl];omega
    obtain⟨A2,hA2⟩:∃A2:Array Value,A2=(A1.toList.take ((i+1)*2)++xs.drop (i*2)++A1.toList.drop ((i+1)*2+(xs.drop (i*2)).length)).toArray:=⟨_,rfl⟩
    obtain⟨W3,hW3⟩:∃W3,W3=W2.drew.setRow w.heap.size A2:=⟨_,rfl⟩
    have hcpB:∀ty dc sc,(Builtin.copy_ #[65,65] ty #[.slice (some ⟨w.heap.size,(i+1)*2,none⟩) (n-i) dc,.slice (some ⟨g,i*2,none⟩) (n-i) sc]).run Tryz.prog W2.drew=.ok (goInt ((n-i:Nat):Int)) W3:=by
     intro ty dc sc
     have hm:Nat.min (n-i) (n-i)=n-i:=Nat.min_self _
     have:=dL (P:=Tryz.prog) W2.drew 65 65 ty 71 i0 w.heap.size ((i+1)*2) (n-i) dc ⟨g,i*2,none⟩ (n-i) sc A1 71 (xs.drop (i*2)) Tryz.underlying65 hi0 hW2a (by rw[hdl,hm,hz1])
      (fun j u hj=>by
       show W2.cell? _=_
       rw[Addr.add_lit,World.cell?_of_block (hW2b g hglt),show w.cell? ⟨g,i*2+j,none⟩=cur[i*2+j]? from by simp[World.cell?,hg],← Array.getElem?_toList]
       rw[List.getElem?_drop,← htk,Q15]at hj
       split at hj
       ·simpa using hj
       ·cases hj) (by rw[hdl,hA1s];omega) (fun u hu=>hx1 u (List.mem_of_mem_drop hu))
     rw[hm]at this
     rw[this,hW3,hA2]
    have L:=ins_new xs vs Zs (i*2) (n*2) 2 (by rw[hxl]) hvl (by omega) (by rw[hZl];omega)
    have hW3a:W3.heap[w.heap.size]?=some (.cells A2 71 (0,0)):=by rw[hW3];exact setRow_heap _ _ _ _ _ _ hW2a
    have hW3g:w.grownBy W3 (some g):=by
     rw[hW3,hW2]
     exact aX (aX (aX (r:=some g) (⟨hW1g.os,hW1g.tape,hW1g.output,hW1g.size,fun k hk _=>hW1b k hk⟩) (cg _) (fun x hx=>by cases hx;exact Or.inr (Q4 _))) db (s:=none) (fun x hx=>by cases hx)) (cg _) (fun x hx=>by cases hx;exact Or.inr (Q4 _))
    have HA1:=Lib.hid hA1;have HA2:=Lib.hid hA2;have Happ:=Lib.hid happ;have HcpA:=Lib.hid hcpA;have HcpB:=Lib.hid hcpB;have HL:=Lib.hid L;have HW3a:=Lib.hid hW3a;have HW3g:=Lib.hid hW3g;have Hxl:=Lib.hid hxl;have Hvl:=Lib.hid hvl;have HZl:=Lib.hid hZl
    clear hA1 hA2 happ hcpA hcpB L hW3a hW3g hW1 hW2 hW3 hZs hgc holds hW1a hW1b hW1g hA1s hW2a hW2b hdl hzc hZl hxl hvl hown htk hcs hcu hvb hvc hvcell hx1 hv1 hne hg
    have hw1:IntKind.i64.wrap ((i:Int)+1)=(i:Int)+1:=IntWalk.i64_in _ (by omega)
    have hb1:(0:Int)≤(i:Int)+1:=by omega
    have htn:((i:Int)+1).toNat=i+1:=by omega
    have hb2:¬(gc=i+1):=by omega
    have hb3:(i:Int)≤(n:Int)+1:=by omega
    have hb4:¬(gc=i):=by omega
    have hb5:¬(cap=i):=by omega
    clear hcap
    go_enter Tryz.func64,Tryz.ntmps64
    go_wp2_with (first|(at_builtin;refine Lib.wpList_append_run _ rfl _ _ 65 3 rfl _ _ rfl rfl _ _ (Happ.out _) ?_)|(refine cJ _ rfl _ _ 65 65 rfl _ _ rfl rfl (HcpA.out _ (gc-i)) ?_))
    go_region_law (refine dK rfl _ _ 65 65 rfl _ _ (by simp[Act.eval,Act.put]) (by simp[Act.eval,Act.put]) (HcpB.out _ (gc-(i+1)) (cap-i)) ?_)
    go_wp2
    go_ret
    have e1:(i+1)*2=i*2+2:=by omega
    have h1:A1=((xs.take (i*2)++Zs).take (i*2)++vs++(xs.take (i*2)++Zs).drop (i*2+vs.length)).toArray:=by have:=HA1.out;simpa only[Nat.mul_one]using this
    have h2:=HA2.out
    rw[e1,h1]at h2
    simp only[List.toList_toArray]at h2
    obtain⟨L1,L2⟩:=HL.out
    refine⟨_,rfl,⟨?_,Or.inr ⟨w.heap.size,gc,A2,rfl,hB,HW3a.out,hgc1,by unfold maxLen;omega,?_,?_⟩⟩,HW3g.out,fun k hk=>by cases hk;exact Or.inr (Q4 _)⟩
    ·simp only[Q9,Q10,List.length_drop,Hxl.out,Hvl.out];omega
    ·rw[h2];simp only[List.size_toArray];rw[L1,HZl.out];omega
    ·rw[h2,show(n+1)*2=n*2+2 from by omega];simpa using L2
theorem mr(B:Nat)(v:Value)(n i:Nat)(xs:List Value)(w:World)(hin:i<n)(hown:w.ownsRow B 71 2 v n xs)(hn:n≤16777216)(hx1:∀u∈xs,u.oneCell'=true) :
  Calls Tryz.prog 63 #[v,.int .i64 i,.int .i64 ((i:Int)+1)] w fun e w' =>
   ∃v',e=.returned v'∧w'.ownsRow B 71 2 v' (n-1) (xs.take (i*2)++xs.drop (i*2+2))∧w.grownBy w' v.ownBlock∧∃cap,v'=.slice (v.ownBlock.map fun k=>⟨k,0,none⟩) (n-1) cap∧0<cap:=by
 have hv2:=hown.2
 obtain⟨i0,hi0,hz0,hz1,hz2⟩:=info_parts lQ
 have hxl:=hown.1
 rcases hv2 with⟨rfl,rfl⟩|⟨g,cap,cur,rfl,hBg,hg,hnc,hcm,hcs,htk⟩
 ·omega
 ·unfold maxLen at hcm
  have hd0:((i:Int)==(i:Int)+1)=false:=by simp;omega
  obtain⟨Zs,hZs⟩:∃Zs:List Value,Zs=(Builtin.zeroCells (.agg #[.slice none 0 0,.int .i64 0]:Value).cells 1).toList:=⟨_,rfl⟩
  have hzc:(.agg #[.slice none 0 0,.int .i64 0]:Value).cells.size=2:=rfl
  have hZl:Zs.length=2:=by rw[hZs];simp only[Array.length_toList,size_zeroCells,hzc]
  have hdl:(xs.drop (i*2+2)).length=(n-(i+1))*2:=by rw[List.length_drop,hxl];omega
  have L:=rD cur.toList xs Zs (i*2) (n*2) 2 (cap*2) (by simpa using hcs) htk hZl (by omega) (by omega)
  obtain⟨C1,hC1⟩:∃C1:Array Value,C1=(cur.toList.take (i*2)++xs.drop (i*2+2)++cur.toList.drop (i*2+(xs.drop (i*2+2)).length)).toArray:=⟨_,rfl⟩
  have hC1s:C1.size=cap*2:=by rw[hC1];simp only[List.size_toArray,Q9,Q10,List.length_drop,Array.length_toList,hdl,hxl];omega
  obtain⟨W1,hW1⟩:∃W1,W1=w.drew.setRow g C1:=⟨_,rfl⟩
  have happ:∀ty (a:Addr) c,(n-(i+1)≠0→a=⟨g,(i+1)*2,none⟩)→(Builtin.append_ #[65,65] ty #[.slice (some ⟨g,0,none⟩) i cap,.slice (some a) (n-(i+1)) c]).run Tryz.prog w.drew=.ok (.slice (some ⟨g,0,none⟩) (n-1) cap) W1:=by
   intro ty a c ha
   have:=run_append_room (P:=Tryz.prog) w.drew 65 ty 71 i0 Tryz.underlying65 hi0 g i cap cur hg a (n-(i+1)) c (xs.drop (i*2+2)) (by rw[hdl,hz1]) (fun j u hj=>by
     have hjl:=(Q3 hj).1
     rw[hdl]at hjl
     rw[ha (by omega)]
     show w.cell? _=_
     rw[Addr.add_lit,show w.cell? ⟨g,(i+1)*2+j,none⟩=cur[(i+1)*2+j]? from by simp[World.cell?,hg],← Array.getElem?_toList]
     rw[List.getElem?_drop,← htk,Q15]at hj
     split at hj
     ·rw[← hj];congr 1;omega
     ·cases hj) (fun u hu=>hx1 u (List.mem_of_mem_drop hu)) (by omega) (by rw[hdl,hz1,hcs];omega)
   rw[this,hW1,hC1,hz1,show i+(n-(i+1))=n-1 from by omega]
  obtain⟨C2,hC2⟩:∃C2:Array Value,C2=(C1.toList.take ((n-1)*2)++Zs++C1.toList.drop ((n-1)*2+2)).toArray:=⟨_,rfl⟩
  obtain⟨W2,hW2⟩:∃W2,W2=W1.setRow g C2:=⟨_,rfl⟩
  have hclr:∀ty c,(Builtin.clear_ #[65] ty #[.slice (some ⟨g,(n-1)*2,none⟩) (n-(n-1)) c]).run Tryz.prog W1=.ok (.tuple #[]) W2:=by
   intro ty c
   have hW1g:W1.heap[g]?=some (.cells C1 71 (0,0)):=by rw[hW1];exact setRow_heap _ _ _ _ _ _ hg
   have:=gI (P:=Tryz.prog) W1 65 ty 71 i0 (.agg #[.slice none 0 0,.int .i64 0]) g ((n-1)*2) 1 c C1 71 Tryz.underlying65 hi0 hz0 (by rw[hz1];rfl) (by decide) hW1g (by rw[hz1,hC1s];omega)
   rw[show n-(n-1)=1 from by omega,this,hW2,hC2,hZs,hz1];try simp only[Nat.mul_one,Nat.one_mul]
  have hgr:w.grownBy W2 (some g):=by
   rw[hW2,hW1]
   exact aX (aX db (cg _) (fun x hx=>by cases hx;exact Or.inl rfl)) (cg _) (fun x hx=>by cases hx;exact Or.inl rfl)
  have hW2a:W2.heap[g]?=some (.cells C2 71 (0,0)):=by rw[hW2];exact setRow_heap _ _ _ _ _ _ (by rw[hW1];exact setRow_heap _ _ _ _ _ _ hg)
  have fin:W2.ownsRow B 71 2 (.slice (some ⟨g,0,none⟩) (n-1) cap) (n-1) (xs.take (i*2)++xs.drop (i*2+2)):=by
   rw[hC1]at hC2
   simp only[List.toList_toArray]at hC2
   rw[show(n-1)*2=n*2-2 from by omega]at hC2
   obtain⟨L1,L2⟩:=L
   refine⟨?_,Or.inr ⟨g,cap,C2,rfl,hBg,hW2a,by omega,by unfold maxLen;omega,?_,?_⟩⟩
   ·rw[Q9,hdl,Q10,hxl];omega
   ·rw[hC2];simpa using L1
   ·rw[hC2,show(n-1)*2=n*2-2 from by omega];simpa using L2
  have Happ:=Lib.hid happ;have Hclr:=Lib.hid hclr;have Hgr:=Lib.hid hgr;have Hfin:=Lib.hid fin
  clear happ hclr hgr fin hW1 hW2 hC1 hC2 hW2a L hZs hZl hdl hzc hC1s hxl hx1 hown htk hcs hg
  have hw1:IntKind.i64.wrap ((i:Int)+1)=(i:Int)+1:=IntWalk.i64_in _ (by omega)
  have hb1:(0:Int)≤(i:Int)+1:=by omega
  have htn:((i:Int)+1).toNat=i+1:=by omega
  have hb3:(i:Int)+1≤(n:Int):=by omega
  have hb4:¬(cap=n-1):=by omega
  have hb6:¬(n=i):=by omega
  have hb7:¬(cap=i):=by omega
  have hb8:((n-1:Nat):Int)≤(n:Int):=by omega
  have hb9:(n:Int)≤(cap:Int):=by omega
  have hb10:(i:Int)≤(cap:Int):=by omega
  have hb11:(i:Int)+1≤(cap:Int):=by omega
  have hb12:(i:Int)<(n:Int):=by omega
  by_cases hb2:cap=i+1
  ·have Happ2:=fun ty c=>Happ.out ty ⟨g,0,none⟩ c (fun h=>absurd h (by omega))
   have hn0:n-(i+1)=0:=by omega
   rw[hn0]at Happ2
   have HA:=Lib.hid Happ2;clear Happ Happ2 hn0
   subst hb2
   have hb13:(i:Int)≤(i:Int)+1:=by omega
   go_enter Tryz.func63,Tryz.ntmps63
   go_wp2_with fail
   go_region_law (refine cL rfl _ _ 65 65 rfl _ _ (by simp[Act.eval,Act.put]) (by simp[Act.eval,Act.put]) (HA.out _ 0) ?_)
   go_wp2_with (refine cD _ rfl _ 65 rfl _ rfl (Hclr.out _ (i+1-(n-1))) ?_)
   go_ret
   exact⟨_,rfl,Hfin.out,Hgr.out,_,rfl,by omega⟩
  ·have Happ2:=fun ty c=>Happ.out ty ⟨g,(i+1)*2,none⟩ c (fun _=>rfl)
   have HA:=Lib.hid Happ2;clear Happ Happ2
   go_enter Tryz.func63,Tryz.ntmps63
   go_wp2_with fail
   go_region_law (refine cL rfl _ _ 65 65 rfl _ _ (by simp[Act.eval,Act.put]) (by simp[Act.eval,Act.put]) (HA.out _ (cap-(i+1))) ?_)
   go_wp2_with (refine cD _ rfl _ 65 rfl _ rfl (Hclr.out _ (cap-(n-1))) ?_)
   go_ret
   exact⟨_,rfl,Hfin.out,Hgr.out,_,rfl,by omega⟩
theorem a8(zs:List Dir.Ent)(c:Dir.Ent):∀k,k<zs.length+1→bK zs.length (fun i=>aq (zs.getD i default)) (fun i=>bZ (aq c) 2 (0+i)) k=aq ((zs++[c]).getD k default):=fun k hk=>by
 simp only[bK]
 by_cases e:k<zs.length
 ·rw[if_pos e,Q1,Q1,Q11 e]
 ·rw[if_neg e]
  obtain rfl:k=zs.length:=by omega
  have:(zs++[c]).getD zs.length default=c:=by simp
  rw[Nat.sub_self,this];rfl
theorem getE{xs:List Dir.Ent}{k:Nat}(h:k<xs.length):xs.getD (k:Int).toNat default=xs[k]:=by
 rw[Q13,Q1,Q0 h];rfl
def inSh(lv sh:Nat)(e:Dir.Ent):Bool:=decide (ay e.key%2^lv=(sh:Int))
def bM(xs:List Dir.Ent)(lv sh:Nat):List Dir.Ent:=xs.filter (inSh lv sh)
theorem fi{xs:List Dir.Ent}{lv sh j:Nat}(h:j<xs.length):bM (xs.take (j+1)) lv sh=if ay (xs.getD (j:Int).toNat default).key%2^lv=(sh:Int)then bM (xs.take j) lv sh++[xs.getD (j:Int).toNat default]else bM (xs.take j) lv sh:=by
 rw[getE h]
 unfold bM
 rw[List.take_succ_eq_append_getElem h,List.filter_append]
 split
 ·rename_i e;rw[List.filter_cons_of_pos (by simpa[inSh]using e)];simp
 ·rename_i e;rw[List.filter_cons_of_neg (by simpa[inSh]using e)];simp
theorem gi(xs:List Dir.Ent)(lv sh:Nat)(hlv:lv≤4)(hl:xs.length≤16777216):Pure TC 25 [.d (al 2 aq xs),.i .i64 lv,.i .i64 sh] (.d (al 2 aq (bM xs lv sh))):=by
 refine Pure.mk' Tryz.func25 rfl rfl zN ?_
 (repeat' (first|((first|refine Wp.any ab rfl ?_|(with_reducible first|refine Go.mk ?_|apply am.of));conv=>whnf)))
 refine Wp.le (Le.virt 7 71 2 (fun i=>aq (([]:List Dir.Ent).getD i default)) (by decide) rfl) ?_
 refine Wp.loopP (ι:=Nat) (fun j=>j≤xs.length) (fun j=>⟨⟨Tryz.f25.ntmps,0⟩,1,[(1,.i .i64 lv),(2,.i .i64 sh),(7,.sl 0 2 0 (bM (xs.take j) lv sh).length),(12,.d (al 2 aq xs)),(13,.i .i64 xs.length),(14,.i .i64 j)],[(0,some (aI 71 2 aq (bM (xs.take j) lv sh)))]⟩) (fun j=>xs.length-j) 0 (Nat.zero_le _) ?_ ?_
 ·(refine Le.by [0] rfl rfl rfl rfl ?_ ?_<;>(conv=>whnf)<;>(repeat' (first|exact trivial|exact ac.rfl rfl|exact ac.sl rfl|exact⟨rfl,rfl,rfl⟩|exact fun i hi=>rfl|((with_reducible refine And.intro ?_ ?_)<;>(conv=>whnf)))))
 ·rintro j h1
  have hfl:(bM (xs.take j) lv sh).length≤16777216:=by
   have q1:=List.length_filter_le (inSh lv sh) (xs.take j)
   rw[Q10]at q1
   unfold bM;omega
  (repeat' (first|((first|refine Wp.any ab rfl ?_|(with_reducible first|refine Go.mk ?_|apply am.of|refine Ov.ok zO ?_|refine And.intro zC ?_));conv=>whnf)|((with_reducible refine And.intro ?hb ?_);(case hb=>exact zz1);(conv=>whnf))|((with_reducible refine aa.pure (l9 _ lv hlv) rfl rfl ?_);conv=>whnf)|((refine au (fun hc=>?_) (fun hc=>?_))<;>(try simp only[wz9]at hc)<;>(try (exfalso;omega))<;>(conv=>whnf))))
  ·refine⟨j+1,by dsimp only;omega,by dsimp only;omega,?_⟩
   dsimp only
   rw[fi (by omega),if_pos hc]
   (refine Le.by [3] rfl rfl rfl rfl ?_ ?_<;>(conv=>whnf)<;>(repeat' (first|exact trivial|exact ac.rfl rfl|((with_reducible refine And.intro ?_ ?_)<;>(conv=>whnf)))))
   ·rw[Q9];exact ac.sl rfl
   ·rfl
   ·simp
   ·exact a8 _ _
  ·refine⟨j+1,by dsimp only;omega,by dsimp only;omega,?_⟩
   dsimp only
   rw[fi (by omega),if_neg hc]
   (refine Le.by [0] rfl rfl rfl rfl ?_ ?_<;>(conv=>whnf)<;>(repeat' (first|exact trivial|exact ac.rfl rfl|exact ac.sl rfl|exact⟨rfl,rfl,rfl⟩|exact fun i hi=>rfl|((with_reducible refine And.intro ?_ ?_)<;>(conv=>whnf)))))
  ·obtain rfl:j=xs.length:=by omega
   rw[List.take_length]
   exact SV.Le.sl fun j hj=>by simp only[Q19]
def aV(xs:List Dir.Ent)(key:List Int):Nat:=bs (fun k=>decide (aE (xs.getD k default).key key<0)) xs.length
def dr(xs:List Dir.Ent)(key:List Int):Bool:=decide (aV xs key<xs.length)&&decide (aE (xs.getD (aV xs key) default).key key=0)
theorem find_1(e:Dir.Ent)(key:List Int)(h1:IsB e.key)(h2:IsB key):Pure TC 98 [.agg [.d (al 1 (aA .u8) e.key),.i .i64 e.val],.d (al 1 (aA .u8) key)] (.i .i64 (aE e.key key)):=by
 refine Pure.mk' Tryz.func98 rfl rfl zN ?_
 (repeat' (first|((first|refine Wp.any ab rfl ?_|(with_reducible first|refine Go.mk ?_|apply am.of|refine aa.pure (ma _ _ h1 h2) rfl rfl ?_));conv=>whnf)))
 exact .i rfl
theorem lY(xs:List Dir.Ent)(key:List Int)(hlen:xs.length≤4611686018427387903)(hx:∀k,IsB (xs.getD k default).key)(ht:IsB key) :
  Pure TC 97 [.d (al 2 aq xs),.d (al 1 (aA .u8) key),.d (.fn (.func 98) [])] (.tup [.i .i64 (aV xs key),.b (dr xs key)]):=by
 refine Pure.mk' Tryz.func97 rfl rfl zN ?_
 (repeat' (first|((first|refine Wp.any ab rfl ?_|(with_reducible first|refine Go.mk ?_|apply am.of));conv=>whnf)))
 refine Wp.loopP (ι:=Nat×Nat×Nat) (fun k=>k.1≤k.2.1∧k.2.1≤xs.length∧k.2.1-k.1<k.2.2∧bsF (fun k=>decide (aE (xs.getD k default).key key<0)) k.2.2 k.1 k.2.1=aV xs key) (fun k=>⟨⟨Tryz.f97.ntmps,0⟩,0,[(0,.d (al 2 aq xs)),(1,.d (al 1 (aA .u8) key)),(2,.d (.fn (.func 98) [])),(8,.i .i64 xs.length),(9,.i .i64 k.1),(10,.i .i64 k.2.1)],[]⟩) (fun k=>k.2.1-k.1) (0,xs.length,xs.length+1) ⟨by simp,by simp,by simp,rfl⟩ ?_ ?_
 ·(refine Le.by [] rfl rfl rfl rfl ?_ ?_<;>(conv=>whnf)<;>(repeat' (first|exact trivial|exact ac.rfl rfl|((with_reducible refine And.intro ?_ ?_)<;>(conv=>whnf)))))
 ·rintro⟨i,j,q⟩ ⟨h1,h2,h3,h4⟩
  dsimp only at h1 h2 h3 h4⊢
  (repeat' (first|((first|refine Wp.any ab rfl ?_|(with_reducible first|refine Go.mk ?_|apply am.of|refine Ov.ok zO ?_));conv=>whnf)|(with_reducible refine Ov.sh1 (by with_unfolding_all exact rfl) ?_)|((with_reducible first|refine And.intro zC ?_|refine aa.pure (find_1 (xs.getD _ default) key (hx _) ht) rfl rfl ?_);conv=>whnf)|((refine au (fun hc=>?_) (fun hc=>?_))<;>(try simp only[wz9]at hc)<;>(try (exfalso;omega))<;>(conv=>whnf))))
  ·rw[show(((i:Int)+j)/2).toNat=(i+j)/2 by omega]at hc
   have hh:decide (aE (xs.getD ((i+j)/2) default).key key<0)=true:=by simpa using hc
   refine⟨((i+j)/2+1,j,q-1),⟨by dsimp only;omega,h2,by dsimp only;omega,?_⟩,by dsimp only;omega,?_⟩
   ·rw[← h4]
    obtain⟨q,rfl⟩:∃r,q=r+1:=⟨q-1,by omega⟩
    rw[bsF,if_pos (by omega),if_pos hh];rfl
   ·(refine Le.by [] rfl rfl rfl rfl ?_ ?_<;>(conv=>whnf)<;>(repeat' (first|exact trivial|exact ac.rfl rfl|((with_reducible refine And.intro ?_ ?_)<;>(conv=>whnf)))))
  ·rw[show(((i:Int)+j)/2).toNat=(i+j)/2 by omega]at hc
   have hh:¬decide (aE (xs.getD ((i+j)/2) default).key key<0)=true:=by simpa using hc
   refine⟨(i,(i+j)/2,q-1),⟨by dsimp only;omega,by dsimp only;omega,by dsimp only;omega,?_⟩,by dsimp only;omega,?_⟩
   ·rw[← h4]
    obtain⟨q,rfl⟩:∃r,q=r+1:=⟨q-1,by omega⟩
    rw[bsF,if_pos (by omega),if_neg hh];rfl
   ·(refine Le.by [] rfl rfl rfl rfl ?_ ?_<;>(conv=>whnf)<;>(repeat' (first|exact trivial|exact ac.rfl rfl|((with_reducible refine And.intro ?_ ?_)<;>(conv=>whnf)))))
  all_goals rw[bsF_end (by omega)]at h4
  all_goals subst h4
  ·rw[Q13]
   exact .of_eq (by rw[show dr xs key=(aE (xs.getD (aV xs key) default).key key==0)by
    unfold dr;rw[decide_eq_true (by omega),Bool.true_and];rfl])
  ·exact .of_eq (by rw[show dr xs key=false by unfold dr;rw[decide_eq_false (by omega),Bool.false_and]])
theorem rz(xs:List Dir.Ent)(key:List Int)(hlen:xs.length≤4611686018427387903)(hx:∀k,IsB (xs.getD k default).key)(ht:IsB key) :
  Pure TC 61 [.d (al 2 aq xs),.d (al 1 (aA .u8) key)] (.tup [.i .i64 (aV xs key),.b (dr xs key)]):=by
 refine Pure.mk' Tryz.func61 rfl rfl zN ?_
 (repeat' (first|((first|refine Wp.any ab rfl ?_|(with_reducible first|refine Go.mk ?_|apply am.of|refine aa.pure (lY xs key hlen hx ht) rfl rfl ?_));conv=>whnf)))
 exact .of_eq rfl
theorem jq(xs:List Dir.Ent)(hn:xs.length≤16777216):Fun TC 62 0 [.d (al 2 aq xs)] [] 1 (.sl 0 2 0 xs.length) [(0,some (aI 71 2 aq xs))]:=by
 refine Fun.mk' Tryz.func62 rfl rfl zN (by decide) ?_
 (repeat' (first|((first|refine Wp.any ab rfl ?_|(with_reducible first|refine Go.mk ?_|apply am.of|refine And.intro zC ?_));conv=>whnf)|((with_reducible refine And.intro ?hb ?_);(case hb=>exact zz1);(conv=>whnf))|((with_reducible refine bq ?_ (fun hn0=>?_))<;>(conv=>whnf))))
 ·refine af.of [1] rfl (by simp) rfl ?_ ?_
  ·exact .of_eq (congrArg (SV.sl _ _ _) (Q19 _))
  ·refine⟨⟨⟨rfl,rfl,Q19 _⟩,fun i hi=>?_⟩,trivial⟩
   simp[bK]
 ·obtain rfl:=List.eq_nil_of_length_eq_zero hn0
  refine af.virt 71 2 (fun i=>aq (([]:List Dir.Ent).getD i default)) (by decide) (by decide) ?_
  refine af.of [0] rfl (by simp) rfl ?_ ?_
  ·exact .of_eq rfl
  ·exact⟨⟨⟨rfl,rfl,rfl⟩,fun i hi=>rfl⟩,trivial⟩
theorem mf(xs:List Dir.Ent)(i:Nat)(x:Dir.Ent)(hi:i≤xs.length)(hn:xs.length≤16777215) :
  Fun TC 64 2 [.sl 0 2 0 xs.length,.i .i64 i,.sl 1 2 0 1] [(0,some (aI 71 2 aq xs)),(1,some (aI 71 2 aq [x]))] 3 (.sl 2 2 0 (cH xs i x).length) [(0,none),(1,none),(2,some (aI 71 2 aq (cH xs i x)))]:=by
 by_cases hlt:i<xs.length
 ·refine insFun (C:=TC) (z:=2) (enc:=aq) zN (.mk Tryz.func64 rfl rfl) (fun x=>rfl) xs i x hlt ?_
  intro v vb cv vcur F vs w h1 h2 h3 h4 h5 h6 h7
  exact mq 0 v xs.length i vb cv vcur F vs w hi h1 (Nat.zero_le _) (by omega) h2 h3 h4 h5 h6 h7
 ·obtain rfl:i=xs.length:=by omega
  refine Fun.mk' Tryz.func64 rfl rfl zN (by decide) ?_
  (repeat' (first|((first|refine Wp.any ab rfl ?_|(with_reducible first|refine Go.mk ?_|apply am.of|refine Ov.ok zO ?_|refine And.intro zC ?_));conv=>whnf)|((with_reducible refine And.intro ?hb ?_);(case hb=>exact zz1);(conv=>whnf))|((refine au (fun hc=>?_) (fun hc=>?_))<;>(try simp only[wz9]at hc)<;>(try (exfalso;omega))<;>(conv=>whnf))))
  all_goals try exact absurd trivial hc
  refine af.of [0,1,2] rfl (fun i hi=>by have:i=0∨i=1:=(by omega);rcases this with h|h<;>subst h<;>rfl) rfl ?_ ?_
  ·exact .of_eq (congrArg (SV.sl _ _ _) (bz xs _ x (by omega)).symm)
  ·refine⟨⟨⟨rfl,rfl,(bz xs _ x (by omega)).symm⟩,fun i hi=>?_⟩,trivial⟩
   dsimp only
   rw[c9 xs _ x (by omega)]
   simp only[bK]
   by_cases h:i<xs.length
   ·rw[if_pos h,if_pos h]
   ·rw[if_neg h,if_neg h,if_pos (by omega),show i-xs.length=0 by omega];rfl
theorem mg(xs:List Dir.Ent)(i:Nat)(hi:i<xs.length)(hn:xs.length≤16777215) :
  Fun TC 63 1 [.sl 0 2 0 xs.length,.i .i64 i,.i .i64 ((i:Int)+1)] [(0,some (aI 71 2 aq xs))] 2 (.sl 1 2 0 (cj xs i).length) [(0,none),(1,some (aI 71 2 aq (cj xs i)))]:=by
 refine delFun (C:=TC) (z:=2) (enc:=aq) zN (.mk Tryz.func63 rfl rfl) (fun x=>rfl) xs i hi (by unfold maxLen;omega) ?_
 intro v F w h1 h2
 exact mr 0 v xs.length i F w hi h1 (by omega) h2
def cd(lw ll nw nl:Nat)(clk cnt:Int):Blk:=.cells [.sl lw 1 0 nw,.i .i64 clk,.i .i64 cnt,.sl ll 6 0 nl]
def bP(nw:Nat)(W:Nat→Int):Blk:=.row 52 1 nw fun i=>aA .u64 (W i)
def b9(nl:Nat)(f:Nat→List D):Blk:=.row 179 6 nl f
def eY(who kind word old new:Int)(done:Bool):List D:=[.val (.int .i64 who),.val (.int .u8 kind),.val (.int .i64 word),.val (.int .u64 old),.val (.int .u64 new),.val (.bool done)]
def a7(nl:Nat):Nat:=if nl+1≤128 then nl+1 else 64
def dA(nl:Nat)(f:Nat→List D)(a:List D):Nat→List D:=if nl+1≤128 then bK nl f fun _=>a else fun i=>bK nl f (fun _=>a) (nl+1-64+i)
theorem qS{nl:Nat}(h:nl≤128):a7 nl≤128:=by unfold a7;split<;>omega
theorem oD(n o m:Nat)(f:Nat→List D)(hn:n≤1000)(ho:o+m≤n)(hm:0<m):Fun TC 128 1 [.sl 0 6 o m] [(0,some (b9 n f))] 2 (.sl 1 6 0 m) [(0,some (b9 n f)),(1,some (b9 m fun i=>f (o+i)))]:=by
 refine Fun.mk' Tryz.func128 rfl rfl zN (by decide) ?_
 (repeat' (first|((first|refine Wp.any ab rfl ?_|(with_reducible first|refine Go.mk ?_|apply am.of|refine And.intro zC ?_));conv=>whnf)|((with_reducible refine And.intro ?hb ?_);(case hb=>exact zz1);(conv=>whnf))|((with_reducible refine dp (by omega) ?_);(conv=>whnf))))
 all_goals try exact absurd trivial hc
 refine af.of [0,2] rfl (fun i hi=>by have:i=0:=(by omega);subst this;rfl) rfl ?_ ?_
 ·exact .of_eq (congrArg (SV.sl _ _ _) (Q19 _))
 ·refine⟨⟨⟨rfl,rfl,rfl⟩,fun i hi=>rfl⟩,⟨⟨rfl,rfl,Q19 _⟩,fun i hi=>?_⟩,trivial⟩
  simp[bK]
theorem fP(nw nl:Nat)(W:Nat→Int)(f:Nat→List D)(clk cnt who kind word old new:Int)(done:Bool)(hl:nl≤128)(hc0:0≤cnt)(hc1:cnt≤4611686018427387903) :
  Fun TC 116 3 [.ptr 0 0,.agg [.i .i64 who,.i .u8 kind,.i .i64 word,.i .u64 old,.i .u64 new,.b done]] [(0,some (cd 1 2 nw nl clk cnt)),(1,some (bP nw W)),(2,some (b9 nl f))]
   4 (.tup []) [(0,some (cd 1 3 nw (a7 nl) clk (cnt+1))),(1,some (bP nw W)),(2,none),(3,some (b9 (a7 nl) (dA nl f (eY who kind word old new done))))]:=by
 refine Fun.mk' Tryz.func116 rfl rfl zN (by decide) ?_
 (repeat' (first|((first|refine Wp.any ab rfl ?_|(with_reducible first|refine Go.mk ?_|apply am.of));conv=>whnf)|with_reducible exact rfl|((first|with_reducible refine Ov.ok zO ?_|refine zV ?_|with_reducible refine And.intro zC ?_);conv=>whnf)|((refine bO.b rfl rfl rfl rfl rfl rfl rfl rfl ?hb ?ho ?_);(case hb=>exact zB);(case ho=>omega);(conv=>whnf))|(with_reducible refine Or.inl ?_)|((refine ai.new (oD (nl+1) (0+(((nl+1:Nat):Int)-64).toNat) (nl+1-(((nl+1:Nat):Int)-64).toNat) (bK nl f fun i=>bZ (eY who kind word old new done) 6 (0+i)) (by omega) (by omega) (by omega)) [11] [11] rfl rfl rfl rfl rfl rfl ?ha ?hh ?hs ?_);(case ha=>exact zA);(case hh=>exact zH);(case hs=>exact zK);(conv=>whnf))|((refine au (fun hc=>?_) (fun hc=>?_))<;>(try simp only[wz9]at hc)<;>(try (exfalso;omega))<;>(conv=>whnf))))
 ·have hN:a7 nl=nl+1-(((nl+1:Nat):Int)-64).toNat:=by unfold a7;rw[if_neg (by omega)];omega
  rw[hN]
  refine af.sealB [0,1,2,27] rfl rfl rfl (ak.tup trivial) ?_
  conv=>whnf
  (repeat' (first|exact zE|((refine And.intro ?_ ?_)<;>(conv=>whnf))))
  intro i hi
  refine bX.of ?_
  unfold dA
  rw[if_neg (by omega)]
  show bK nl f _ (0+(((nl+1:Nat):Int)-64).toNat+i)=bK nl f _ (nl+1-64+i)
  rw[show 0+(((nl+1:Nat):Int)-64).toNat+i=nl+1-64+i by omega]
  unfold bK
  by_cases h:nl+1-64+i<nl
  ·rw[if_pos h,if_pos h]
  ·rw[if_neg h,if_neg h,show nl+1-64+i-nl=0 by omega];rfl
 ·have hN:a7 nl=nl+1:=by unfold a7;rw[if_pos (by omega)]
  rw[hN]
  refine af.sealB [0,1,2,11] rfl rfl rfl (ak.tup trivial) ?_
  conv=>whnf
  (repeat' (first|exact zE|((refine And.intro ?_ ?_)<;>(conv=>whnf))))
  intro i hi
  refine bX.of ?_
  unfold dA
  rw[if_pos (by omega)]
  unfold bK
  by_cases h:i<nl
  ·rw[if_pos h,if_pos h]
  ·rw[if_neg h,if_neg h,show i-nl=0 by omega];rfl
theorem ite_row{i q:Nat}{k:IntKind}{x y:Int}:(if i=q then[D.val (.int k x)]else aA k y)=aA k (if i=q then x else y):=by split<;>rfl
theorem wat(w:Nat):0+((w:Nat):Int).toNat=w:=by omega
theorem nk(nw nl:Nat)(W:Nat→Int)(f:Nat→List D)(clk cnt who:Int)(word:Nat)(hl:nl≤128)(hc0:0≤cnt)(hc1:cnt≤4611686018427387903)(hw0:0≤who)(hw1:who<64)(hw:word<nw) :
  Fun TC 84 3 [.ptr 0 0,.i .i64 who,.i .i64 word] [(0,some (cd 1 2 nw nl clk cnt)),(1,some (bP nw W)),(2,some (b9 nl f))]
   4 (.tup [.i .u64 (W word),.i .i64 0]) [(0,some (cd 1 3 nw (a7 nl) clk (cnt+1))),(1,some (bP nw W)),(2,none),(3,some (b9 (a7 nl) (dA nl f (eY who 1 word (W word) 0 true))))]:=by
 refine Fun.mk' Tryz.func84 rfl rfl zN (by decide) ?_
 (repeat' (first|((first|refine Wp.any ab rfl ?_|(with_reducible first|refine Go.mk ?_|apply am.of|refine And.intro zC ?_));conv=>whnf)|(with_reducible refine aa.inline Tryz.func115 rfl rfl rfl (zzb rfl) ?_)|((with_reducible refine aa.pure (cr _ _ _) rfl rfl ?_);conv=>whnf)|((refine aa.fn (fP nw nl W f clk cnt who 1 word (W (0+((word:Nat):Int).toNat)) 0 true hl hc0 hc1) [0,1,2] rfl rfl rfl rfl rfl ?ha ?hh ?_);(case ha=>exact zA);(case hh=>exact zH);(conv=>whnf))|((refine au (fun hc=>?_) (fun hc=>?_))<;>(try simp only[wz9]at hc)<;>(try (exfalso;omega))<;>(conv=>whnf))))
 simp only[wat]
 (refine af.sealB [0,1,2,3] rfl rfl rfl ?_ ?_);(focus((conv=>whnf);(repeat' (first|exact zE))));(focus((conv=>whnf);(repeat' (first|exact zE|((refine And.intro ?_ ?_)<;>(conv=>whnf))))))
theorem ni(nw nl:Nat)(W:Nat→Int)(f:Nat→List D)(clk cnt who old new:Int)(word:Nat)(hl:nl≤128)(hc0:0≤cnt)(hc1:cnt≤4611686018427387903)(hw0:0≤who)(hw1:who<64)(hw:word<nw) :
  Fun TC 83 3 [.ptr 0 0,.i .i64 who,.i .i64 word,.i .u64 old,.i .u64 new] [(0,some (cd 1 2 nw nl clk cnt)),(1,some (bP nw W)),(2,some (b9 nl f))]
   4 (.tup [.b (decide (W word=old)),.i .i64 0]) [(0,some (cd 1 3 nw (a7 nl) clk (cnt+1))),(1,some (bP nw (if W word=old then Dir.upd W word new else W))),(2,none),(3,some (b9 (a7 nl) (dA nl f (eY who 2 word old new (decide (W word=old))))))]:=by
 refine Fun.mk' Tryz.func83 rfl rfl zN (by decide) ?_
 (repeat' (first|((first|refine Wp.any ab rfl ?_|(with_reducible first|refine Go.mk ?_|apply am.of|refine And.intro zC ?_));conv=>whnf)|(with_reducible refine aa.inline Tryz.func115 rfl rfl rfl (zzb rfl) ?_)|((with_reducible refine aa.pure (cr _ _ _) rfl rfl ?_);conv=>whnf)|((refine aa.fn (fP nw nl (fun j=>if j=0+((word:Nat):Int).toNat then new else W j) f clk cnt who 2 word old new (W (0+((word:Nat):Int).toNat)==old) hl hc0 hc1) [0,1,2] rfl rfl rfl rfl rfl ?ha ?hh ?_);(case ha=>exact zA);(case hh=>exact zz6);(conv=>whnf))|((refine aa.fn (fP nw nl W f clk cnt who 2 word old new (W (0+((word:Nat):Int).toNat)==old) hl hc0 hc1) [0,1,2] rfl rfl rfl rfl rfl ?ha ?hh ?_);(case ha=>exact zA);(case hh=>exact zz6);(conv=>whnf))|((refine au (fun hc=>?_) (fun hc=>?_))<;>(try simp only[wz9]at hc)<;>(try (exfalso;omega))<;>(conv=>whnf))))
 all_goals simp only[wat]at hc⊢
 all_goals rw[show(W word==old)=decide (W word=old)from rfl]
 ·rw[if_pos hc]
  (refine af.sealB [0,1,2,3] rfl rfl rfl ?_ ?_);(focus((conv=>whnf);(repeat' (first|exact zE))));(focus((conv=>whnf);(repeat' (first|exact zE|((refine And.intro ?_ ?_)<;>(conv=>whnf))))))
 ·rw[if_neg hc]
  (refine af.sealB [0,1,2,3] rfl rfl rfl ?_ ?_);(focus((conv=>whnf);(repeat' (first|exact zE))));(focus((conv=>whnf);(repeat' (first|exact zE|((refine And.intro ?_ ?_)<;>(conv=>whnf))))))
def eX(m h:Nat):SV:=.iref [.ptr m 0,.sl h 1 0 32] 0
def dn(Hd:Nat→List Dir.Ent):Blk:=.row 65 1 32 fun i=>[al 2 aq (Hd i)]
theorem q9{i q:Nat}{x:List Dir.Ent}{Hd:Nat→List Dir.Ent}:(if i=q then[al 2 aq x]else[al 2 aq (Hd i)])=[al 2 aq (Dir.upd Hd q x i)]:=by unfold Dir.upd;split<;>rfl
theorem be(nl:Nat)(W:Nat→Int)(Hd:Nat→List Dir.Ent)(f:Nat→List D)(clk cnt who:Int)(word:Nat)(hl:nl≤128)(hc0:0≤cnt)(hc1:cnt≤4611686018427387903)(hw0:0≤who)(hw1:who<64)(hw:word<32) :
  Fun TC 55 4 [eX 0 2,.i .i64 who,.i .i64 word] [(0,some (cd 1 3 32 nl clk cnt)),(1,some (bP 32 W)),(2,some (dn Hd)),(3,some (b9 nl f))]
   5 (.tup [.i .u64 (W word),.d (al 2 aq (Hd word))]) [(0,some (cd 1 4 32 (a7 nl) clk (cnt+1))),(1,some (bP 32 W)),(2,some (dn Hd)),(3,none),(4,some (b9 (a7 nl) (dA nl f (eY who 1 word (W word) 0 true))))]:=by
 refine Fun.mk' Tryz.func55 rfl rfl zN (by decide) ?_
 (repeat' (first|((first|refine Wp.any ab rfl ?_|(with_reducible first|refine Go.mk ?_|apply am.of)|refine zV ?_|with_reducible refine And.intro zC ?_);conv=>whnf)|((refine aa.fn (nk 32 nl W f clk cnt who word hl hc0 hc1 hw0 hw1 hw) [0,1,3] rfl rfl rfl rfl rfl ?ha ?hh ?_);(case ha=>exact zA);(case hh=>exact zH);(conv=>whnf))))
 simp only[wat]
 (refine af.sealB [0,1,2,3,4] rfl rfl rfl ?_ ?_);(focus((conv=>whnf);(repeat' (first|exact zE))));(focus((conv=>whnf);(repeat' (first|exact zE|((refine And.intro ?_ ?_)<;>(conv=>whnf))))))
theorem aZ(nl:Nat)(W:Nat→Int)(Hd:Nat→List Dir.Ent)(f:Nat→List D)(clk cnt who old new:Int)(word:Nat)(h:List Dir.Ent)(hl:nl≤128)(hc0:0≤cnt)(hc1:cnt≤4611686018427387903)(hw0:0≤who)(hw1:who<64)(hw:word<32) :
  Fun TC 51 4 [eX 0 2,.i .i64 who,.i .i64 word,.i .u64 old,.i .u64 new,.d (al 2 aq h)] [(0,some (cd 1 3 32 nl clk cnt)),(1,some (bP 32 W)),(2,some (dn Hd)),(3,some (b9 nl f))]
   5 (.b (decide (W word=old))) [(0,some (cd 1 4 32 (a7 nl) clk (cnt+1))),(1,some (bP 32 (if W word=old then Dir.upd W word new else W))),(2,some (dn (if W word=old then Dir.upd Hd word h else Hd))),(3,none),(4,some (b9 (a7 nl) (dA nl f (eY who 2 word old new (decide (W word=old))))))]:=by
 refine Fun.mk' Tryz.func51 rfl rfl zN (by decide) ?_
 (repeat' (first|((first|refine Wp.any ab rfl ?_|(with_reducible first|refine Go.mk ?_|apply am.of|refine And.intro zC ?_));conv=>whnf)|((refine aa.fn (ni 32 nl W f clk cnt who old new word hl hc0 hc1 hw0 hw1 hw) [0,1,3] rfl rfl rfl rfl rfl ?ha ?hh ?_);(case ha=>exact zA);(case hh=>exact zH);(conv=>whnf))|((refine au (fun hc=>?_) (fun hc=>?_))<;>(try simp only[wz9]at hc)<;>(try (exfalso;omega))<;>(conv=>whnf))))
 ·try simp only[wat]
  rw[if_pos hc,if_pos hc]
  (refine af.sealB [0,1,2,3,4] rfl rfl rfl ?_ ?_);(focus((conv=>whnf);(repeat' (first|exact zE))));(focus((conv=>whnf);(repeat' (first|exact zE|((refine And.intro ?_ ?_)<;>(conv=>whnf))))))
  exact fun i hi=>bX.of q9
 ·try simp only[wat]
  rw[if_neg hc,if_neg hc]
  (refine af.sealB [0,1,2,3,4] rfl rfl rfl ?_ ?_);(focus((conv=>whnf);(repeat' (first|exact zE))));(focus((conv=>whnf);(repeat' (first|exact zE|((refine And.intro ?_ ?_)<;>(conv=>whnf))))))
theorem bN(nl:Nat)(W:Nat→Int)(Hd:Nat→List Dir.Ent)(f:Nat→List D)(clk cnt:Int)(word:Nat)(hw:word<32) :
  Fun TC 77 4 [eX 0 2,.i .i64 word] [(0,some (cd 1 3 32 nl clk cnt)),(1,some (bP 32 W)),(2,some (dn Hd)),(3,some (b9 nl f))]
   4 (.tup [.i .u64 (W word),.d (al 2 aq (Hd word))]) [(0,some (cd 1 3 32 nl clk cnt)),(1,some (bP 32 W)),(2,some (dn Hd)),(3,some (b9 nl f))]:=by
 refine Fun.mk' Tryz.func77 rfl rfl zN (by decide) ?_
 (repeat' (first|((first|refine Wp.any ab rfl ?_|(with_reducible first|refine Go.mk ?_|apply am.of)|refine zV ?_|with_reducible refine And.intro zC ?_);conv=>whnf)|(with_reducible refine aa.inline Tryz.func102 rfl rfl rfl (zzb rfl) ?_)|(with_reducible refine aa.inline Tryz.func115 rfl rfl rfl (zzb rfl) ?_)|((with_reducible refine aa.pure (cr _ _ _) rfl rfl ?_);conv=>whnf)|((refine au (fun hc=>?_) (fun hc=>?_))<;>(try simp only[wz9]at hc)<;>(try (exfalso;omega))<;>(conv=>whnf))))
 simp only[wat]
 (refine af.sealB [0,1,2,3] rfl rfl rfl ?_ ?_);(focus((conv=>whnf);(repeat' (first|exact zE))));(focus((conv=>whnf);(repeat' (first|exact zE|((refine And.intro ?_ ?_)<;>(conv=>whnf))))))
abbrev bx(x:SV):SV:=.iref [x] 0
def ap:SV:=.iref [eX 1 3,.d (.fn (.func 25) [])] 0
def mu:SV:=.iref [.b false,.i .i64 0,.i .i64 0] 0
def kr:SV:=.d (.fn (.func 29) [])
def thnK(who:Int)(c:Dir.Kc):SV:=.fn (.func 60) [bx (.d (al 1 (aA .u8) c.key)),bx (.i .i64 c.val),bx (.i .u8 c.op),bx (.ptr 0 0),bx (.i .i64 who)]
def tfK(who:Int)(c:Dir.Kc)(lv:Nat):SV:=.fn (.func 93) [bx ap,bx (.i .i64 who),bx (.i .i64 lv),bx (.i .u64 (ay c.key)),bx (thnK who c),mu]
def thK(who:Int)(c:Dir.Kc):SV:=.fn (.func 94) [bx ap,bx (.i .i64 who),bx (.i .u64 (ay c.key)),bx (thnK who c),mu]
def tfS(who:Int)(lv i:Nat):SV:=.fn (.func 87) [bx ap,bx (.i .i64 who),bx (.i .i64 lv),bx (.i .i64 i),bx kr,mu]
def thS(who:Int)(lv i:Nat)(up:Bool)(h:List Dir.Ent):SV :=
 if up then .fn (.func 90) [bx ap,bx (.i .i64 who),bx (.i .i64 lv),bx (.i .i64 i),bx kr,mu]
 else .fn (.func 89) [bx ap,bx (.i .i64 who),bx (.i .i64 lv),bx (.i .i64 i),bx (.d (al 2 aq h)),bx kr,mu]
def kg(who:Int)(w:Nat)(t:SV):SV:=.fn (.func 117) [bx ap,bx (.i .i64 who),bx (.i .i64 w),bx t]
def nH(who:Int)(w:Nat)(v:Int)(h:List Dir.Ent)(t:SV):SV:=.fn (.func 118) [bx ap,bx (.i .i64 who),bx (.i .i64 w),bx (.i .u64 v),bx (.d (al 2 aq h)),bx t,mu]
def halfS(who:Int)(lv w:Nat)(h:List Dir.Ent)(t:SV):SV:=.fn (.func 119) [bx ap,bx (.i .i64 who),bx (.i .i64 w),bx t,bx (.d (al 2 aq h)),bx (.i .i64 lv)]
def layS(who:Int)(lv w:Nat)(h:List Dir.Ent)(t:SV):SV:=.fn (.func 120) [bx ap,bx (.i .i64 who),bx (.i .i64 w),bx (.d (al 2 aq h)),bx (.i .i64 lv),bx t,bx .any]
def oJ:SV:=.d (.val .nilFunc)
def cl(who:Int):Dir.CS→SV
 | .none=>oJ
 | .k0 c=>.fn (.func 91) [bx ap,bx (.i .i64 who),bx (.i .u64 (ay c.key)),bx (thnK who c)]
 | .kE c w=>.fn (.func 121) [bx ap,bx (.i .i64 who),bx (.i .i64 w),bx (.i .u64 (ay c.key)),bx (thnK who c)]
 | .kF c lv w=>kg who w (tfK who c lv)
 | .kG c lv w v h=>nH who w v h (tfK who c lv)
 | .kH c lv w h=>halfS who lv w h (thK who c)
 | .kL c lv w h=>layS who lv w h (thK who c)
 | .kS c w v m n=>.fn (.func 65) [bx (.ptr 0 0),bx (.i .i64 who),bx (.i .i64 w),bx (.i .u64 v),bx (.d (al 2 aq m)),bx (.i .u8 c.op),bx (.d (al 1 (aA .u8) c.key)),bx (.i .i64 c.val),bx (.i .i64 n)]
 | .s0=>.fn (.func 54) [bx ap,bx (.i .i64 who),bx kr]
 | .sM lv=>.fn (.func 57) [bx ap,bx (.i .i64 who),bx (.i .u64 (2*lv)),bx kr,mu,bx (.i .i64 lv)]
 | .sF lv i=>kg who (2^lv+i) (tfS who lv i)
 | .sG lv i v h=>nH who (2^lv+i) v h (tfS who lv i)
 | .sH lv i up h=>halfS who (lv+1) (Dir.upW lv i up) h (thS who lv i up h)
 | .sL lv i up h=>layS who (lv+1) (Dir.upW lv i up) h (thS who lv i up h)
 | .sV lv=>.fn (.func 85) [bx ap,bx (.i .i64 who),bx (.i .i64 lv),bx kr]
theorem eE(who:Int)(s:Dir.CS):SV.Lt 5 (cl who s):=by
 cases s with
 | sH lv i up h=>cases up<;>exact .of rfl
 | sL lv i up h=>cases up<;>exact .of rfl
 | _=>exact .of rfl
def dG(c:Dir.Kc)(h:List Dir.Ent):Dir.Res ⊕ (List Dir.Ent×Int) :=
 if c.op≠2∧dr h c.key=false then .inl ⟨true,7,0⟩
 else if c.op=1 then .inl ⟨true,0,(h.getD (aV h c.key) default).val⟩
 else if c.op=3 then .inr (cj h (aV h c.key),(h.getD (aV h c.key) default).val)
 else if dr h c.key then .inr (h.set (aV h c.key) ⟨(h.getD (aV h c.key) default).key,if c.op=2 then c.val else(h.getD (aV h c.key) default).val⟩,if c.op=2 then c.val else(h.getD (aV h c.key) default).val)
 else .inr (cH h (aV h c.key) ⟨c.key,c.val⟩,c.val)
def ae:Dir.Ops:=⟨ay,bM,dG⟩
theorem dC(lv:Nat)(hl:lv≤3)(s:Int):Pure TC 52 [.i .i64 ((lv:Int)+1),.i .u64 s] (.i .i64 (Dir.plc (lv+1) s)):=bc (lv+1) (by omega) s
theorem aW{lv:Nat}{s:Int}(h0:0≤s)(h1:s<2^lv):Dir.plc lv s=2^lv+s.toNat:=by unfold Dir.plc;rw[Int.emod_eq_of_lt h0 h1]
theorem jN{lv i:Nat}(hi:i<2^lv)(up:Bool):Dir.plc (lv+1) (if up then(i:Int)+2^lv else i)=Dir.upW lv i up:=by
 have e:((2^lv:Nat):Int)=2^lv:=by simp
 have e2:(2:Int)^(lv+1)=2^lv*2:=Int.pow_succ 2 lv
 have h:(i:Int)<2^lv:=by omega
 unfold Dir.upW
 cases up
 ·rw[if_neg (by decide),if_neg (by decide),aW (by omega) (by omega),Q13]
 ·rw[if_pos rfl,if_pos rfl,aW (by omega) (by omega)]
  congr 1
def findS(who s:Int)(t:SV):SV:=.fn (.func 91) [bx ap,bx (.i .i64 who),bx (.i .u64 s),bx t]
def enterS(who s:Int)(w:Nat)(t:SV):SV:=.fn (.func 121) [bx ap,bx (.i .i64 who),bx (.i .i64 w),bx (.i .u64 s),bx t]
theorem fg(who s:Int)(F:Fn)(cs:List SV)(hF:SV.Lt 120 (.fn F cs)):Fun TC 58 120 [ap,.i .i64 who,.i .u64 s,.fn F cs] [] 120 (findS who s (.fn F cs)) []:=by
 refine Fun.mk' Tryz.func58 rfl rfl zN (by decide) ?_
 (repeat' (first|((first|refine Wp.any ab rfl ?_|(with_reducible first|refine Go.mk ?_|apply am.of));conv=>whnf)))
 (refine af.sealM ?_);(conv=>whnf);(repeat' (first|exact zB9|((refine ak.ptrN rfl rfl ?_);(conv=>whnf))|((refine ak.fn ?_);(conv=>whnf))|((refine And.intro ?_ ?_)<;>(conv=>whnf))))
theorem jp(who s:Int)(w:Nat)(F:Fn)(cs:List SV)(hF:SV.Lt 120 (.fn F cs)):Fun TC 92 120 [ap,.i .i64 who,.i .u64 s,.i .i64 w,.fn F cs] [] 120 (enterS who s w (.fn F cs)) []:=by
 refine Fun.mk' Tryz.func92 rfl rfl zN (by decide) ?_
 (repeat' (first|((first|refine Wp.any ab rfl ?_|(with_reducible first|refine Go.mk ?_|apply am.of));conv=>whnf)))
 (refine af.sealM ?_);(conv=>whnf);(repeat' (first|exact zB9|((refine ak.ptrN rfl rfl ?_);(conv=>whnf))|((refine ak.fn ?_);(conv=>whnf))|((refine And.intro ?_ ?_)<;>(conv=>whnf))))
theorem dd(who:Int)(w:Nat)(F:Fn)(cs:List SV)(hF:SV.Lt 120 (.fn F cs)):Fun TC 86 120 [ap,.i .i64 who,.i .i64 w,.fn F cs] [] 120 (kg who w (.fn F cs)) []:=by
 refine Fun.mk' Tryz.func86 rfl rfl zN (by decide) ?_
 (repeat' (first|((first|refine Wp.any ab rfl ?_|(with_reducible first|refine Go.mk ?_|apply am.of));conv=>whnf)))
 (refine af.sealM ?_);(conv=>whnf);(repeat' (first|exact zB9|((refine ak.ptrN rfl rfl ?_);(conv=>whnf))|((refine ak.fn ?_);(conv=>whnf))|((refine And.intro ?_ ?_)<;>(conv=>whnf))))
theorem fe(who:Int)(lv:Nat)(hl:lv≤3)(s:Int)(h:List Dir.Ent)(F:Fn)(cs:List SV)(hF:SV.Lt 120 (.fn F cs)):Fun TC 88 120 [ap,.i .i64 who,.i .i64 ((lv:Int)+1),.i .u64 s,.d (al 2 aq h),.fn F cs] [] 120 (halfS who (lv+1) (Dir.plc (lv+1) s) h (.fn F cs)) []:=by
 refine Fun.mk' Tryz.func88 rfl rfl zN (by decide) ?_
 (repeat' (first|((first|refine Wp.any ab rfl ?_|(with_reducible first|refine Go.mk ?_|apply am.of|refine aa.pure (dC lv hl _) rfl rfl ?_));conv=>whnf)))
 (refine af.sealM ?_);(conv=>whnf);(repeat' (first|exact zB9|((refine ak.ptrN rfl rfl ?_);(conv=>whnf))|((refine ak.fn ?_);(conv=>whnf))|((refine And.intro ?_ ?_)<;>(conv=>whnf))))
theorem jQ(who:Int):Fun TC 28 120 [ap,.i .i64 who,kr] [] 120 (cl who .s0) []:=by
 refine Fun.mk' Tryz.func28 rfl rfl zN (by decide) ?_
 (repeat' (first|((first|refine Wp.any ab rfl ?_|(with_reducible first|refine Go.mk ?_|apply am.of));conv=>whnf)))
 (refine af.sealM ?_);(conv=>whnf);(repeat' (first|exact zB9|((refine ak.ptrN rfl rfl ?_);(conv=>whnf))|((refine ak.fn ?_);(conv=>whnf))|((refine And.intro ?_ ?_)<;>(conv=>whnf))))
theorem bQ{lv:Nat}(hl:lv≤4):IntKind.i64.wrap (1*2^min ((lv:Nat):Int).toNat IntKind.i64.bits)=2^lv:=by
 have hlv:lv=0∨lv=1∨lv=2∨lv=3∨lv=4:=by omega
 rcases hlv with rfl|rfl|rfl|rfl|rfl<;>decide
theorem sd(who:Int)(lv i:Nat)(hl:lv≤3)(hi:i≤2^lv):Fun TC 56 60 [ap,.i .i64 who,.i .i64 lv,.i .i64 i,kr] [] 60 (cl who (Dir.move lv i)) []:=by
 have e1:=bQ (show lv≤4 by omega)
 have e2:((2^lv:Nat):Int)=2^lv:=by simp
 have hb:(2:Nat)^lv≤2^3:=Q16 (by omega) hl
 refine Fun.mk' Tryz.func56 rfl rfl zN (by decide) ?_
 (repeat' (first|((first|refine Wp.any ab rfl ?_|(with_reducible first|refine Go.mk ?_|apply am.of|refine Ov.ok zO ?_)|refine zV ?_|(with_reducible first|refine And.intro zC ?_|refine ai.pure (bc lv (by omega) _) rfl rfl ?_|refine ai.funM (dd _ _ _ _ (by exact SV.Lt.of rfl)) rfl rfl ?_));conv=>whnf)|((refine au (fun hc=>?_) (fun hc=>?_))<;>(try simp only[wz9,e1]at hc)<;>(try (exfalso;omega))<;>(conv=>whnf))))
 ·rw[show Dir.move lv i=.sV lv by unfold Dir.move;rw[if_pos (by omega)]]
  (refine af.sealM ?_);(conv=>whnf);(repeat' (first|exact zB9|((refine ak.ptrN rfl rfl ?_);(conv=>whnf))|((refine ak.fn ?_);(conv=>whnf))|((refine And.intro ?_ ?_)<;>(conv=>whnf))))
 ·rw[show Dir.move lv i=.sF lv i by unfold Dir.move;rw[if_neg (by omega)]]
  rw[show Dir.plc lv (i:Int)=2^lv+i by rw[aW (by omega) (by omega)];rfl]
  (refine af.sealM ?_);(conv=>whnf);(repeat' (first|exact zB9|((refine ak.ptrN rfl rfl ?_);(conv=>whnf))|((refine ak.fn ?_);(conv=>whnf))|((refine ak.iref ?_);(conv=>whnf))|((refine And.intro ?_ ?_)<;>(conv=>whnf))))
def di(r:Dir.Res):SV:=.agg [.b r.done,.i .i64 r.e,.i .i64 r.n]
theorem jW(xs:List Dir.Ent)(key:List Int):aV xs key≤xs.length:=by
 have h:∀(lt:Nat→Bool) (q i j:Nat),i≤j→i≤bsF lt q i j∧bsF lt q i j≤j:=by
  intro lt q
  induction q with
  | zero=>intro i j h;simp[bsF];exact h
  | succ q ih =>
   intro i j h
   unfold bsF
   by_cases h1:i<j
   ·rw[if_pos h1]
    split
    ·have:=ih ((i+j)/2+1) j (by omega);omega
    ·have:=ih i ((i+j)/2) (by omega);omega
   ·rw[if_neg h1];omega
 exact(h _ _ 0 _ (Nat.zero_le _)).2
theorem cM{h:List Dir.Ent}{p:Nat}{e:Dir.Ent}{X:List D}(hX:X=aq e):SV.Le (.d (.sl 2 h.length fun i=>if 0+i=0+((p:Nat):Int).toNat then X else(fun i=>aq (h.getD i default)) (0+i))) (.d (al 2 aq (h.set p e))):=by
 have hl:h.length=(h.set p e).length:=by simp
 have key:∀n,n=(h.set p e).length→SV.Le (.d (.sl 2 n fun i=>if 0+i=0+((p:Nat):Int).toNat then X else(fun i=>aq (h.getD i default)) (0+i))) (.d (al 2 aq (h.set p e))):=by
  rintro n rfl
  refine SV.Le.sl fun i hi=>?_
  rw[List.length_set]at hi
  simp only[Q19,Q13]
  rw[Q1,Q1,List.getElem?_set]
  by_cases h1:i=p
  ·subst h1;rw[if_pos rfl,if_pos rfl,if_pos hi];exact hX
  ·rw[if_neg h1,if_neg (fun e=>h1 e.symm)]
 exact key _ hl
theorem hasE_lt{xs:List Dir.Ent}{key:List Int}(h:dr xs key=true):aV xs key<xs.length:=by simp[dr]at h;exact h.1
theorem nJ(who:Int)(c:Dir.Kc)(w:Nat)(v:Int)(h:List Dir.Ent)(hl:h.length≤16000000)(hb:∀k,IsB (h.getD k default).key)(hk:IsB c.key) :
  Fun TC 60 60 [.i .i64 w,.i .u64 v,.d (al 2 aq h),bx (.d (al 1 (aA .u8) c.key)),bx (.i .i64 c.val),bx (.i .u8 c.op),bx (.ptr 0 0),bx (.i .i64 who)] []
   60 (.tup [cl who (Dir.found ae c w v h).1,di (Dir.found ae c w v h).2]) []:=by
 have hp:=jW h c.key
 have hh:=fun e=>hasE_lt (xs:=h) (key:=c.key) e
 have hf:=rz h c.key (by omega) hb hk
 cases hz:dr h c.key with
 | false =>
  rw[hz]at hf
  refine Fun.mk' Tryz.func60 rfl rfl zN (by decide) ?_
  (repeat' (first|((first|refine Wp.any ab rfl ?_|(with_reducible first|refine Go.mk ?_|apply am.of|refine aa.pure (hf) rfl rfl ?_));conv=>whnf)|((refine aa.fn (jq h (by omega)) [] rfl rfl rfl rfl rfl ?ha ?hh ?_);(case ha=>exact zA);(case hh=>exact zH);(conv=>whnf))|((refine aa.fn (mf h (aV h c.key) ⟨c.key,c.val⟩ hp (by omega)) [64,66] rfl rfl rfl rfl rfl ?ha ?hh ?_);(case ha=>exact zA);(case hh=>exact zH);(conv=>whnf))|((refine au (fun hc=>?_) (fun hc=>?_))<;>(try simp only[wz9]at hc)<;>(try (exfalso;omega))<;>(conv=>whnf))))
  ·rw[show Dir.found ae c w v h=(.none,⟨true,7,0⟩)by simp[Dir.found,ae,dG, *]]
   (refine af.sealM ?_);(conv=>whnf);(repeat' (first|exact zB9))
  ·rw[show Dir.found ae c w v h=(.kS c w v (cH h (aV h c.key) ⟨c.key,c.val⟩) c.val,Dir.r0)by simp[Dir.found,ae,dG, *]]
   (refine af.sealM ?_);(conv=>whnf);(repeat' (first|exact zB9|((refine ak.ptrN rfl rfl ?_);(conv=>whnf))|(refine ak.le (ak.sl (aY zN) rfl (by first|omega|simp)) ?_)|((refine ak.fn ?_);(conv=>whnf))|((refine ak.tup ?_);(conv=>whnf))|((refine And.intro ?_ ?_)<;>(conv=>whnf))))
   all_goals first|exact SV.Le.sl fun i hi=>by rw[Q19]|exact cM (by rw[wat,Q13];rfl)|exact cM (by rw[wat];rfl)
 | true =>
  have hh:=hh hz
  rw[hz]at hf
  refine Fun.mk' Tryz.func60 rfl rfl zN (by decide) ?_
  (repeat' (first|((first|refine Wp.any ab rfl ?_|(with_reducible first|refine Go.mk ?_|apply am.of|refine Ov.ok zO ?_)|refine zV ?_|(with_reducible first|refine And.intro zC ?_|refine aa.pure (hf) rfl rfl ?_));conv=>whnf)|((refine aa.fn (jq h (by omega)) [] rfl rfl rfl rfl rfl ?ha ?hh ?_);(case ha=>exact zA);(case hh=>exact zH);(conv=>whnf))|((refine aa.fn (mg h (aV h c.key) hh (by omega)) [64] rfl rfl rfl rfl rfl ?ha ?hh ?_);(case ha=>exact zA);(case hh=>exact zH);(conv=>whnf))|((refine au (fun hc=>?_) (fun hc=>?_))<;>(try simp only[wz9]at hc)<;>(try (exfalso;omega))<;>(conv=>whnf))))
  ·rename_i hc0
   rw[show Dir.found ae c w v h=(.none,⟨true,0,(h.getD (aV h c.key) default).val⟩)by simp[Dir.found,ae,dG, *]]
   (refine af.sealM ?_);(conv=>whnf);(repeat' (first|exact zB9))
   try exact SV.Le.of_eq (by rw[Q13])
  ·rename_i hc0 hc1
   rw[show Dir.found ae c w v h=(.kS c w v (cj h (aV h c.key)) (h.getD (aV h c.key) default).val,Dir.r0)by simp[Dir.found,ae,dG, *]]
   (refine af.sealM ?_);(conv=>whnf);(repeat' (first|exact zB9|((refine ak.ptrN rfl rfl ?_);(conv=>whnf))|(refine ak.le (ak.sl (aY zN) rfl (by first|omega|simp)) ?_)|((refine ak.fn ?_);(conv=>whnf))|((refine ak.tup ?_);(conv=>whnf))|((refine And.intro ?_ ?_)<;>(conv=>whnf))))
   all_goals first|exact SV.Le.sl fun i hi=>by rw[Q19]|exact cM (by rw[wat,Q13];rfl)|exact cM (by rw[wat];rfl)
  ·rename_i hc0 hc1
   rw[show Dir.found ae c w v h=(.kS c w v (h.set (aV h c.key) ⟨(h.getD (aV h c.key) default).key,(h.getD (aV h c.key) default).val⟩) (h.getD (aV h c.key) default).val,Dir.r0)by simp[Dir.found,ae,dG, *]]
   (refine af.sealM ?_);(conv=>whnf);(repeat' (first|exact zB9|((refine ak.ptrN rfl rfl ?_);(conv=>whnf))|(refine ak.le (ak.sl (aY zN) rfl (by first|omega|simp)) ?_)|((refine ak.fn ?_);(conv=>whnf))|((refine ak.tup ?_);(conv=>whnf))|((refine And.intro ?_ ?_)<;>(conv=>whnf))))
   all_goals first|exact SV.Le.sl fun i hi=>by rw[Q19]|exact cM (by rw[wat,Q13];rfl)|exact cM (by rw[wat];rfl)
  ·rw[show Dir.found ae c w v h=(.kS c w v (h.set (aV h c.key) ⟨(h.getD (aV h c.key) default).key,c.val⟩) c.val,Dir.r0)by simp[Dir.found,ae,dG, *]]
   (refine af.sealM ?_);(conv=>whnf);(repeat' (first|exact zB9|((refine ak.ptrN rfl rfl ?_);(conv=>whnf))|(refine ak.le (ak.sl (aY zN) rfl (by first|omega|simp)) ?_)|((refine ak.fn ?_);(conv=>whnf))|((refine ak.tup ?_);(conv=>whnf))|((refine And.intro ?_ ?_)<;>(conv=>whnf))))
   all_goals first|exact SV.Le.sl fun i hi=>by rw[Q19]|exact cM (by rw[wat,Q13];rfl)|exact cM (by rw[wat];rfl)
end Go.Proofs.YtejiekfnaddanaaGreat
