/- Lemmas of Ce3, Rc1, Ce4, Ce5, Ce6, Ce6b, Ce7, Ce8, Ce8b, Ce9, Cf0, Sm1, Sx29, Sm2, Ct1, Cr1. No condition. -/
import Derived.Test.YtlkccdlgnpkjpaaGreatMO19
set_option linter.unusedVariables false
set_option linter.unusedSimpArgs false
set_option linter.unusedSectionVars false
set_option maxHeartbeats 80000000
set_option maxRecDepth 100000
namespace Go.Proofs.YtlkccdlgnpkjpaaGreat
open Go.RowKit
section
theorem bT{ps:List Pol}{room:Int}{S:Nat→Core.Wk}{b b':Nat}{L:List Nat}{π:Nat→Nat}(hb:4≤b')(h4:∀l,l<4→l<L.length∧L.getD l 0=π l)(hq:∀q,q<9→b'+q<L.length∧L.getD (b'+q) 0=π (b+q)) :
  ∀j,j<67→ae L (SV.ren π (av ps room (gOf (aa ps room) b S) j)) (av ps room (gOf (aa ps room) b' S) j)∧SV.Lt (b'+9) (av ps room (gOf (aa ps room) b' S) j):=fun j _=>by
 have hl:∀x,SV.Lt 4 x→ae L (SV.ren π x) x:=fun x hx=>by
  have:=ae.renX (π1:=π) (π2:=fun l=>l) (L:=L) hx h4
  rwa [SV.ren_same (π:=fun l=>l) (m:=4) (fun _ _=>rfl) hx]at this
 rcases j with _|_|_|j
 ·exact⟨hl _ (.of rfl),.of rfl⟩
 ·exact⟨hl _ (.of rfl),.of rfl⟩
 ·exact⟨hl _ (.of rfl),(show SV.Lt 4 ar from .of rfl).mono (by omega)⟩
 ·refine⟨?_,mY hb S j⟩
  show ae L (SV.ren π (SV.ren (at4 (b+aX j)) (cl (aa ps room) j (S j).x (S j).s))) (SV.ren (at4 (b'+aX j)) (cl (aa ps room) j (S j).x (S j).s))
  rw[SV.ren_ren]
  refine ae.renX (ez _ _ _ _) fun l hl=>?_
  by_cases e:l=4
  ·subst e;exact hq _ (eL j)
  ·rw[eF (by omega),eF (by omega)];exact h4 l (by omega)
theorem cF{ps:List Pol}{room:Int}{S:Nat→Core.Wk}{b b':Nat}{L:List Nat}(hB:4≤b)(hb:4≤b')(h4:∀l,l<4→l<L.length∧L.getD l 0=l)(hq:∀q,q<9→b'+q<L.length∧L.getD (b'+q) 0=b+q) :
  ∀j,j<67→ae L (av ps room (gOf (aa ps room) b S) j) (av ps room (gOf (aa ps room) b' S) j)∧SV.Lt (b'+9) (av ps room (gOf (aa ps room) b' S) j):=fun j hj=>by
 have:=bT (ps:=ps) (room:=room) (S:=S) (b:=b) (π:=fun l=>l) hb h4 hq j hj
 have hlt:SV.Lt (b+9) (av ps room (gOf (aa ps room) b S) j):=by
  rcases j with _|_|_|j
  ·exact .of rfl
  ·exact .of rfl
  ·exact(show SV.Lt 4 ar from .of rfl).mono (by omega)
  ·exact mY hB S j
 rwa [SV.ren_same (π:=fun l=>l) (fun _ _=>rfl) hlt]at this
theorem gz{xs:Nat→XB}{i n:Nat}(H:∀i j,SV.Lt 1 ((xs i).f j)){L:List Nat}:∀j,j<n→ae (0::L) ((xs i).f j) ((xs i).f j)∧SV.Lt 1 ((xs i).f j):=eY (H i)
theorem dI{xs:Nat→XB}{i n:Nat}{π:Nat→Nat}(H:∀i j,SV.Lt 1 ((xs i).f j))(hπ:π 0=0){L:List Nat}:∀j,j<n→ae (0::L) (SV.ren π ((xs i).f j)) ((xs i).f j)∧SV.Lt 1 ((xs i).f j):=cn (H i) hπ
theorem oF{St':St}{xs:Nat→XB}{i n:Nat}{π:Nat→Nat}(H:∀i j,SV.Lt 1 ((xs i).f j))(hπ:π 0=0){L:List Nat}:∀j,j<n→aj St' (0::L) (SV.ren π ((xs i).f j)) ((xs i).f j)∧SV.Lt 1 ((xs i).f j):=ax (H i) hπ
variable{ps:List Pol}{room:Int}{k:Nat}{M:Core.Mc}{S:Nat→Core.Wk}{xs:Nat→XB}{nl:Nat}{f:Nat→List D}{cnt:Int}
theorem pi(h:eW ps room k M S xs nl cnt)(hk:k≤1000000){w:Nat}(hw:w<8∨w=9)(hn:isC (S w).s=true) :
  ∃xs' f',eW ps room (k+1) (Core.mx (aa ps room) M S w) (Core.nx (aa ps room) M S w) xs' (aC nl) (cnt+1) ∧
  Fun TC 47 14 [.ptr 0 0,.i .i64 w] (ao ps room (gOf (aa ps room) 4 S) M xs nl f cnt)
   24 (.tup [rsS (Core.step (aa ps room) M (S w).x (S w).s).r,.i .i64 0]) (gp ps room (Core.nx (aa ps room) M S w) (Core.mx (aa ps room) M S w) xs' (aC nl) f' (cnt+1)):=by
 obtain⟨a,hF⟩:=tH (f:=f) w (by omega) (h.cok hk w (by omega)) hn (h.okC hk (by omega)) (h.xe w (mR hn))
 exact⟨_,_,h.step hk hw hn,hF⟩
theorem sP(h:eW ps room k M S xs nl cnt)(hk:k≤1000000){w:Nat}(hw:w<8∨w=9)(hn:(S w).s=.none)(op pol:Int)(key:List Int)(n:Int)(hE:l7 ps op pol key n=0)(hkl:key.length≤16777216)(hkx:op≠5→op≠6→Core.Kx ps (aJ op pol key n)) :
  ∃xs',eW ps room k M (Dir.upd S w ⟨aJ op pol key n,Core.first (aJ op pol key n)⟩) xs' nl cnt ∧
  Fun TC 46 14 [.ptr 0 0,.i .i64 w,jc op pol key n] (ao ps room (gOf (aa ps room) 4 S) M xs nl f cnt)
   24 (.i .i64 0) (gp ps room (Dir.upd S w ⟨aJ op pol key n,Core.first (aJ op pol key n)⟩) M xs' nl f cnt) :=
 ⟨_,h.start hw hn hkx,qJ w (by omega) (h.cok hk w (by omega)) hn (fun j hs hne=>nN h.busy hw hs hne) op pol key n hE hkl hkx⟩
theorem dm(h:eW ps room k M S xs nl cnt)(hk:k≤1000000){w:Nat}(hw:w<64) :
  Fun TC 18 14 [.ptr 0 0,.i .i64 w] (ao ps room (gOf (aa ps room) 4 S) M xs nl f cnt) 14 (.b (isC (S w).s)) (ao ps room (gOf (aa ps room) 4 S) M xs nl f cnt) :=
 gI w hw (h.cok hk w hw) rfl
end
theorem tM(n:Int):0≤cA n∧cA n≤4611686018427387903:=by unfold cA;omega
def nF(n:Int):List Int:=if n=0 then[]else if n/4294967296=0 then[n%4294967296]else[n%4294967296,n/4294967296]
theorem jx{z m n:Nat}{f g:Nat→List D}(h:m=n)(hf:∀i,i<n→f i=g i):SV.Le (.d (.sl z m f)) (.d (.sl z n g)):=by subst h;exact SV.Le.sl hf
theorem Pure.leX{C:Cx}{g:Nat}{args args':List SV}{r:SV}(h:Pure C g args' r)(ha:Les args args'):Pure C g args r :=
 ⟨h.ent,fun E w vs hIm hsz hargs=>h.out E w vs hIm (hsz.trans ha.len) fun j hj=>(ha.out j (by rw[ha.len];exact hj) hj).out _ _ _ _ (hargs j (by rw[ha.len];exact hj))⟩
theorem r1_Word(n:Int)(h0:0≤n)(h1:n<18446744073709551616):Pure TC 38 [.i .u64 n] (.d (am 1 (aM .u64) (nF n))):=by
 have hm:n.tmod 4294967296=n%4294967296:=Q6 h0
 have hd:n.tdiv 4294967296=n/4294967296:=Int.tdiv_eq_ediv_of_nonneg h0
 refine Pure.mk' Tryz.func38 rfl rfl zN ?_
 (repeat' (first|((first|refine Wp.any ac rfl ?_|(with_reducible first|refine Go.mk ?_|apply ai.of|refine Ov.ok zO ?_|refine And.intro zC ?_));conv=>whnf)|(with_reducible refine ab.inline Tryz.func66 rfl rfl rfl (zzb rfl) ?_)|((with_reducible refine Wp.loopN 4 ?_);conv=>whnf)|((refine aq (fun hc=>?_) (fun hc=>?_))<;>(try simp only[wz9]at hc)<;>(try (exfalso;omega))<;>(conv=>whnf))))
 ·rw[nF,if_pos (by omega)];exact jx rfl fun i hi=>absurd hi (Nat.not_lt_zero _)
 ·rw[nF,if_neg (by omega),if_pos (by omega),hm]
  exact jx rfl fun i hi=>by
   have:i=0:=by simp at hi;omega
   subst this;rfl
 ·rw[nF,if_neg (by omega),if_neg (by omega),hm,hd]
  exact jx rfl fun i hi=>by
   have:i=0∨i=1:=by simp at hi;omega
   rcases this with rfl|rfl<;>rfl
def f1(a:Int):Nat→List D:=fun _=>[.val (.int .u64 a)]
def f2(a b:Int):Nat→List D
 | 0=>[.val (.int .u64 a)]
 | _+1=>[.val (.int .u64 b)]
theorem r1_Fits(n:Int)(h0:0≤n)(h1:n<18446744073709551616):Pure TC 65 [.d (am 1 (aM .u64) (nF n))] (.tup [.i .u64 n,.b true]):=by
 unfold nF
 split
 ·refine Pure.leX (args':=[.d (.sl 1 0 (f1 0))]) ?_ (.cons (jx rfl fun i hi=>absurd hi (Nat.not_lt_zero _)) .nil)
  refine Pure.mk' Tryz.func65 rfl rfl zN ?_
  (repeat' (first|((first|refine Wp.any ac rfl ?_|(with_reducible first|refine Go.mk ?_|apply ai.of|refine Ov.ok zO ?_|refine Wp.loopN 4 ?_));conv=>whnf)))
  exact .tup (.cons (.i (by omega)) (.cons (.b rfl) .nil))
 ·split
  ·refine Pure.leX (args':=[.d (.sl 1 1 (f1 (n%4294967296)))]) ?_ (.cons (jx rfl fun i hi=>by
    have:i=0:=by omega
    subst this;rfl) .nil)
   refine Pure.mk' Tryz.func65 rfl rfl zN ?_
   (repeat' (first|((first|refine Wp.any ac rfl ?_|(with_reducible first|refine Go.mk ?_|apply ai.of|refine Ov.ok zO ?_|refine And.intro zC ?_|refine Wp.loopN 4 ?_));conv=>whnf)))
   exact .tup (.cons (.i (by omega)) (.cons (.b rfl) .nil))
  ·refine Pure.leX (args':=[.d (.sl 1 2 (f2 (n%4294967296) (n/4294967296)))]) ?_ (.cons (jx rfl fun i hi=>by
    have:i=0∨i=1:=by omega
    rcases this with rfl|rfl<;>rfl) .nil)
   refine Pure.mk' Tryz.func65 rfl rfl zN ?_
   (repeat' (first|((first|refine Wp.any ac rfl ?_|(with_reducible first|refine Go.mk ?_|apply ai.of|refine Ov.ok zO ?_|refine And.intro zC ?_|refine Wp.loopN 4 ?_));conv=>whnf)))
   exact .tup (.cons (.i (by omega)) (.cons (.b rfl) .nil))
theorem r1_Held(n:Int)(h0:0≤n)(h1:n<18446744073709551616):Pure TC 37 [.d (am 1 (aM .u64) (nF n))] (.i .i64 (min n 4611686018427387903)):=by
 refine Pure.mk' Tryz.func37 rfl rfl zN ?_
 (repeat' (first|((first|refine Wp.any ac rfl ?_|(with_reducible first|refine Go.mk ?_|apply ai.of|refine Ov.ok zO ?_|refine ab.pure (r1_Fits n h0 h1) rfl rfl ?_));conv=>whnf)|((refine aq (fun hc=>?_) (fun hc=>?_))<;>(try simp only[wz9]at hc)<;>(try (exfalso;omega))<;>(conv=>whnf))))
 ·exact .i (by omega)
 ·exact .i (by omega)
theorem xQ(n:Int)(h:n≤9223372036854775807):Pure TC 13 [.i .i64 n] (.i .i64 (cA n)):=by
 refine Pure.mk' Tryz.func13 rfl rfl zN ?_
 (repeat' (first|((first|refine Wp.any ac rfl ?_|(with_reducible first|refine Go.mk ?_|apply ai.of|refine Ov.ok zO ?_|refine ab.pure (r1_Word n (by omega) (by omega)) rfl rfl ?_|refine ab.pure (r1_Held n (by omega) (by omega)) rfl rfl ?_));conv=>whnf)|((refine aq (fun hc=>?_) (fun hc=>?_))<;>(try simp only[wz9]at hc)<;>(try (exfalso;omega))<;>(conv=>whnf))))
 ·exact .i (by unfold cA;omega)
 ·exact .i (by unfold cA;omega)
structure Pick where
 kind:Int
 who:Int
 op:Int
 pol:Int
 key:List Int
 n:Int
 t:Int
 deriving Inhabited
@[reducible] def Pick.D(p:Pick):List D:=[.val (.int .u8 p.kind),.val (.int .i64 p.who),.val (.int .u8 p.op),.val (.int .i64 p.pol),am 1 (aM .u8) p.key,.val (.int .i64 p.n),.val (.int .i64 p.t)]
@[reducible] def Pick.S(p:Pick):SV:=.agg [.i .u8 p.kind,.i .i64 p.who,.i .u8 p.op,.i .i64 p.pol,.d (am 1 (aM .u8) p.key),.i .i64 p.n,.i .i64 p.t]
structure Pick.ok(p:Pick):Prop where
 kind:0≤p.kind∧p.kind≤255
 who:-9223372036854775808≤p.who∧p.who≤9223372036854775807
 op:0≤p.op∧p.op≤255
 pol:-9223372036854775808≤p.pol∧p.pol≤9223372036854775807
 key:IsB p.key
 n:-9223372036854775808≤p.n∧p.n≤9223372036854775807
 t:-9223372036854775808≤p.t∧p.t≤9223372036854775807
theorem Pick.at{script:List Pick}(hs:∀a∈script,a.ok)(j:Nat):(script.getD j default).ok:=by
 rw[Q1]
 cases e:script[j]? with
 | none=>exact⟨by decide,by decide,by decide,by decide,fun x hx=>absurd hx (by simp[default,instInhabitedPick.default]),by decide,by decide⟩
 | some a=>exact hs a (List.mem_of_getElem? e)
def ak:List Pol:=[⟨1,10,20,0⟩,⟨2,0,0,2⟩]
theorem nK:cr ak=0:=by decide
theorem oH{room:Int}(h:1≤room∧room≤4096):un ak room=0:=by unfold un;rw[if_neg (by omega)];exact nK
namespace Core
theorem T_pos{x:X}{W:Nat→Int}{s:CS}(hs:Cw x W s)(hn:s≠.none):0<T x W s:=by
 cases s with
 | none=>exact absurd rfl hn
 | k0 f=>have:=uo x f;simp only[T];split<;>omega
 | kE f w=>have:=uo x f;simp only[T,TE];split<;>omega
 | kF f lv w=>have:=uo x f;simp only[T,TF];split<;>omega
 | kG f lv w v l=>simp only[T];split<;>omega
 | kH f lv w l=>have:=uo x f;simp only[T,TH];(repeat' split)<;>omega
 | kL f lv w l=>simp only[T];omega
 | al f=>simp only[T];omega
 | pk c=>simp only[T];omega
 | a0 f=>simp only[T];omega
 | a1 f u=>simp only[T];split<;>omega
 | p0 f c r=>simp only[T];omega
 | p1 f c r u=>simp only[T];split<;>omega
 | pS f c r=>simp only[T];split<;>omega
 | b0 k b=>simp only[T];omega
 | b1 k b u=>simp only[T];split<;>omega
 | e0=>simp only[T];omega
 | eC j sh g w v l=>simp only[T];omega
 | eS j sh g w v m k=>simp only[T];omega
 | s0=>simp only[T];omega
 | sM lv=>simp only[T];split<;>omega
 | sF lv i=>have:=fN hs.2.1;simp only[T];omega
 | sG lv i v l=>have:=fN hs.2.1;simp only[T];split<;>omega
 | sH lv i up l=>have:=fN hs.2.1;simp only[T];split<;>omega
 | sL lv i up l=>have:=fN hs.2.1;simp only[T];split<;>omega
 | sV lv=>simp only[T];omega
end Core
def z6:List SV:=[.i .i64 0,.b false,.i .i64 0,.i .i64 0,.i .i64 0,.i .i64 0]
structure Pl where
 M:Core.Mc
 S:Nat→Core.Wk
 r:Core.Rs
 e:Int
section
variable{ps:List Pol}{room:Int}{w k:Nat}{n:Nat}{rs:Nat→Core.Rs}
theorem ym{s:Core.CS}(h:s=.none):isC s=false:=by rw[h];rfl
end
section
namespace Sim
structure Req where
 op:Int
 pol:Int
 key:List Int
 n:Int
 deriving Inhabited
structure Dn where
 who:Int
 c:Req
 first:Int
 last:Int
 r:Rpl
 deriving Inhabited
structure Wo where
 left:List Req
 c:Req
 first:Int
 deriving Inhabited
structure SS where
 M:Core.Mc
 S:Nat→Core.Wk
 ws:Nat→Wo
 out:List Dn
 k:Nat
@[reducible] def newC(c:Req):Core.Wk:=⟨aJ c.op c.pol c.key c.n,Core.first (aJ c.op c.pol c.key c.n)⟩
section
variable(P:Core.Ops)
@[reducible] def beg(s:SS)(w:Nat)(c:Req)(r:List Req):SS:=⟨s.M,Dir.upd s.S w (newC c),Dir.upd s.ws w ⟨r,c,(s.k:Int)+1⟩,s.out,s.k⟩
@[reducible] def res(s:SS)(w:Nat):Core.Rs:=(Core.step P s.M (s.S w).x (s.S w).s).r
@[reducible] def adv(s:SS)(w:Nat):SS :=
 ⟨Core.mx P s.M s.S w,Core.nx P s.M s.S w,s.ws,if(res P s w).done=true then s.out++[⟨w,(s.ws w).c,(s.ws w).first,(s.k:Int)+1,(res P s w).r⟩]else s.out,s.k+1⟩
def go(s:SS)(w:Nat):SS×Bool :=
 if isC (s.S w).s=true then(adv P s w,true)
 else match(s.ws w).left with
  | []=>(s,false)
  | c::r=>(adv P (beg s w c r) w,true)
@[reducible] def tick(s:SS)(t:Int):SS:=⟨⟨s.M.W,s.M.Hd,min (s.M.clk+t) 4611686018427387903⟩,s.S,s.ws,s.out,s.k⟩
def pick(s:SS)(p:Int×Int):SS:=if p.1=-1 then tick s p.2 else(go P s p.1.toNat).1
def picks(s:SS)(l:List (Int×Int)):SS:=l.foldl (pick P) s
def fin:Nat→SS→Nat→SS
 | 0,s,_=>s
 | f+1,s,w=>if(go P s w).2=true then fin f (go P s w).1 w else s
def mu(s:SS)(w:Nat):Nat:=Core.T (s.S w).x s.M.W (s.S w).s+166*(s.ws w).left.length
def eT(b:Bool):Nat→SS→SS
 | 0,s=>s
 | n+1,s=>if b=true then fin P (mu (eT b n s) n) (eT b n s) n else eT b n s
def pend(S:Nat→Core.Wk):Nat→Nat
 | 0=>0
 | n+1=>pend S n+(if isC (S n).s=true then 1 else 0)
end
def ss0(work:List (List Req)):SS:=⟨Core.M0,S0,fun j=>⟨work.getD j [],⟨0,0,[],0⟩,0⟩,[],0⟩
variable{P:Core.Ops}
theorem r9(s:SS)(a b:List (Int×Int)):picks P s (a++b)=picks P (picks P s a) b:=List.foldl_append ..
structure qW(s t:SS):Prop where
 out:∃l,t.out=s.out++l
 k:s.k≤t.k
theorem qW.refl(s:SS):qW s s:=⟨⟨[],(List.append_nil _).symm⟩,Q4 _⟩
theorem qW.trans{s t u:SS}(a:qW s t)(b:qW t u):qW s u:=by
 obtain⟨⟨l,hl⟩,h1⟩:=a
 obtain⟨⟨m,hm⟩,h2⟩:=b
 exact⟨⟨l++m,by rw[hm,hl,List.append_assoc]⟩,by omega⟩
theorem go_idle{s:SS}{w:Nat}(h:isC (s.S w).s=false)(hl:(s.ws w).left=[]):go P s w=(s,false):=by
 unfold go;rw[if_neg (by rw[h];decide),hl]
theorem zv{s:SS}{w j:Nat}(hj:j≠w):(go P s w).1.S j=s.S j∧(go P s w).1.ws j=s.ws j:=by
 unfold go
 split
 ·exact⟨by show Core.nx P s.M s.S w j=_;unfold Core.nx;rw[Dir.upd_ne _ _ hj],rfl⟩
 ·split
  ·exact⟨rfl,rfl⟩
  ·rename_i c r _
   exact⟨by show Core.nx P s.M (Dir.upd s.S w (newC c)) w j=_;unfold Core.nx;rw[Dir.upd_ne _ _ hj,Dir.upd_ne _ _ hj],Dir.upd_ne _ _ hj⟩
theorem ou{w j:Nat}(hj:j≠w):∀(f:Nat) (s:SS),(fin P f s w).S j=s.S j∧(fin P f s w).ws j=s.ws j
 | 0,s=>⟨rfl,rfl⟩
 | f+1,s=>by
  unfold fin
  split
  ·have h1:=ou hj f (go P s w).1
   have h2:=zv (P:=P) (s:=s) hj
   exact⟨h1.1.trans h2.1,h1.2.trans h2.2⟩
  ·exact⟨rfl,rfl⟩
theorem lS(b:Bool):∀(n:Nat) (s:SS) (j:Nat),n≤j→(eT P b n s).S j=s.S j∧(eT P b n s).ws j=s.ws j
 | 0,s,j,_=>⟨rfl,rfl⟩
 | n+1,s,j,h=>by
  have h1:=lS b n s j (by omega)
  unfold eT
  split
  ·have h2:=ou (P:=P) (w:=n) (j:=j) (by omega) (mu (eT P b n s) n) (eT P b n s)
   exact⟨h2.1.trans h1.1,h2.2.trans h1.2⟩
  ·exact h1
theorem j5{S S':Nat→Core.Wk}:∀{n:Nat},(∀j,j<n→isC (S' j).s=isC (S j).s)→pend S' n=pend S n
 | 0,_=>rfl
 | n+1,h=>by simp only[pend];rw[j5 (n:=n) fun j hj=>h j (by omega),h n (by omega)]
theorem sd(S:Nat→Core.Wk):∀n:Nat,pend S n≤n
 | 0=>Q4 _
 | n+1=>by have:=sd S n;simp only[pend];split<;>omega
end Sim
end
theorem Wp.frz{C:Cx}{c:Code}{nt:NT}{nx:Nat}{fr:List (Nat×SV)}{hp:List (Nat×Option Blk)}{Q:Exit→St→Prop}(t:Nat)(ht:t<nt.n)
  (h:imK ⟨nt,nx,fr,hp⟩ [lk fr t] fun S' ys=>S'.nt=nt∧S'.nx=nx∧Wp C c ⟨nt,nx,(t,ys.headD .any)::S'.fr,S'.hp⟩ Q):Wp C c ⟨nt,nx,fr,hp⟩ Q:=by
 refine⟨fun O E a w hs=>?_⟩
 obtain⟨E',S',ys,⟨e1,e2,g1⟩,g2,g3,g4,g5⟩:=s5 [lk fr t] (us:=[a.tmps.getD t undef]) hs rfl (fun j x v hx hv=>by
  cases j with
  | zero =>
   obtain rfl:lk fr t=x:=Option.some.inj hx
   obtain rfl:a.tmps.getD t undef=v:=Option.some.inj hv
   exact hs.fr t
  | succ j=>simp at hx) h
 obtain⟨nt',nx',fr',hp'⟩:=S'
 dsimp only at e1 e2 g1
 subst e1 e2
 have hy:ys.length=1:=g3
 match ys,hy with
 | [y],_ =>
  have hv:RS E' 0 w y (a.tmps.getD t undef):=g5 0 y _ rfl rfl
  refine g1.out O E' a w ⟨fun m=>?_,g2.nt,g2.df,g2.hp,g2.nx,g2.inj,g2.im,g2.own,g2.kq,g2.lab,g2.nl,g2.imo⟩
  rw[show(([y]:List SV).headD .any)=y from rfl,dl]
  by_cases e:t=m
  ·subst e;rw[if_pos rfl]
   exact RS.mono (E:=E') (fun _ _=>⟨rfl,rfl⟩) (Nat.zero_le _) (fun _ h=>h) (fun _ _=>rfl) hv
  ·rw[if_neg e];exact g2.fr m
theorem Le.rowD{nt:NT}{nx:Nat}{fr:List (Nat×SV)}{hp:List (Nat×Option Blk)}(l:Nat){e z n:Nat}{f:Nat→List D}(g:Nat→List D)(hl:lkh hp l=some (.row e z n f))(hg:∀i,i<n→gy (f i) (g i)) :
  Le ⟨nt,nx,fr,hp⟩ ⟨nt,nx,fr,(l,some (.row e z n g))::hp⟩:=by
 refine⟨fun O E a w hs=>⟨E,hs.rehp fun k b' hb'=>?_⟩⟩
 rw[ah]at hb'
 by_cases e1:l=k
 ·subst e1
  rw[if_pos rfl]at hb';cases hb'
  refine⟨_,hl,fun _ h=>h,fun hb=>?_⟩
  obtain⟨h1,h2,h3,h4,h5⟩:=hb
  refine⟨h1,h2,h3,fun i hi=>by rw[← ((hg i hi).out).1];exact h4 i hi,fun hk=>?_⟩
  obtain⟨vs,g1,g2,g3,g4⟩:=h5 hk
  refine⟨vs,g1,g2,g3,fun i j hi hj=>?_⟩
  have hj':j<(f i).length:=by rw[(hg i hi).out.1];exact hj
  exact((hg i hi).out.2 j hj' hj).out _ _ _ (g4 i j hi hj')
 ·rw[if_neg e1]at hb'
  exact⟨b',hb',fun _ h=>h,fun h=>h⟩
section
namespace Sim
@[reducible] def Req.D(c:Req):List D:=[.val (.int .u8 c.op),.val (.int .i64 c.pol),am 1 (aM .u8) c.key,.val (.int .i64 c.n)]
@[reducible] def aQ(l:List Req):List D:=[am 4 Req.D l]
@[reducible] def cD(p:Int×Int):List D:=[.val (.int .i64 p.1),.val (.int .i64 p.2)]
@[reducible] def cfgS(ps:List Pol)(room:Int)(work:List (List Req))(picks:List (Int×Int))(fin:Bool):SV:=.agg [.d (am 4 Pol.D ps),.i .i64 room,.d (am 1 aQ work),.d (am 2 cD picks),.b fin]
def qX(work:List (List Req))(i:Nat):Nat:=((work.take i).map List.length).sum
theorem rz{work:List (List Req)}{i:Nat}(h:i<work.length):qX work (i+1)=qX work i+(work.getD (i:Int).toNat default).length:=by
 unfold qX
 rw[List.take_succ_eq_append_getElem h,List.map_append,List.sum_append,Q13,Q1,Q0 h]
 simp
theorem rA(work:List (List Req))(i:Nat):qX work i≤qX work work.length:=by
 unfold qX
 rw[List.take_length]
 have h:=congrArg (fun l:List (List Req)=>(l.map List.length).sum) (List.take_append_drop i work)
 simp only[List.map_append,List.sum_append]at h
 omega
structure Ok(ps:List Pol)(room:Int)(work:List (List Req))(picks:List (Int×Int)):Prop where
 new:un ps room=0
 call:∀w∈work,∀c∈w,l7 ps c.op c.pol c.key c.n=0
 pick:∀p∈picks,-1≤p.1∧p.1<work.length∧(p.1=-1→0≤p.2∧p.2≤4611686018427387903)
def qT(work:List (List Req))(picks:List (Int×Int)):Prop:=64<work.length∨4096<qX work work.length∨65536<picks.length
instance(work:List (List Req))(picks:List (Int×Int)):Decidable (qT work picks):=by unfold qT;infer_instance
end Sim
open Sim
theorem cy{α:Type}[Inhabited α]{xs:List α}{k:Nat}(h:k<xs.length):xs.getD (k:Int).toNat default∈xs:=by
 rw[Q13,Q1,Q0 h];exact Q14 h
theorem rN {ps : List Pol} {room:Int} {work:List (List Req)} {picks:List (Int×Int)} (fin:Bool) (h:Sim.Ok ps room work picks) (hs:qX work work.length≤1000000) (hw:work.length≤1000000) (hp:picks.length≤1000000) :
    Pure TC 14 [cfgS ps room work picks fin] (.i .i64 (if qT work picks then 2 else 0)):=by
  have hN:=pM (ps:=ps) (room:=room) h.new
  have hpo:cr ps=0:=by
    have:=h.new
    unfold un at this
    split at this
    ·omega
    ·exact this
  have hP:=dy ps
  rw[hpo]at hP
  refine Pure.mk' Tryz.func14 rfl rfl zN ?_
  (repeat' (first|((first|refine Wp.any ac rfl ?_|(with_reducible first|refine Go.mk ?_|apply ai.of));conv=>whnf)|((refine ab.fn (hN) [] rfl rfl rfl rfl rfl ?ha ?hh ?_);(case ha=>exact zA);(case hh=>exact zH);(conv=>whnf))|((with_reducible refine ab.pure (hP) rfl rfl ?_);conv=>whnf)))
  refine Wp.loopP (ι:=Nat) (fun i=>i≤work.length) (fun i=>⟨⟨Tryz.f14.ntmps,0⟩,2,[(1,.ptr 0 0),(4,.ptr 1 0),(5,.fn (.func 39) [.ptr 1 0]),(6,.i .i64 (qX work i)),(7,.b true),(28,.d (am 1 aQ work)),(29,.i .i64 work.length),(30,.i .i64 i)],
    [(0,some (.cells [.d (am 4 Pol.D ps),.i .i64 room,.d (am 1 aQ work),.d (am 2 cD picks),.b fin])),(1,some (.cells [.i .i64 0]))]⟩) (fun i=>work.length-i) 0 (Nat.zero_le _) ?_ ?_
  ·(refine Le.by [0,15] rfl rfl rfl rfl ?_ ?_<;>(conv=>whnf)<;>(repeat' (first|exact trivial|exact ae.rfl rfl|exact ae.ptr rfl|((with_reducible refine ae.fn ?_);(conv=>whnf))|((with_reducible refine And.intro ?_ ?_)<;>(conv=>whnf)))))
  · rintro i h1
    have hsu:=@rz work i
    have hsl:=rA work i
    by_cases hi:i<work.length
    · have hm:=cy hi
      replace hsu:=hsu hi
      have hsl2:=rA work (i+1)
      have hc1:=h.call _ hm
      (repeat' (first|((first|refine Wp.any ac rfl ?_|(with_reducible first|refine Go.mk ?_|apply ai.of|refine Ov.ok zO ?_|refine And.intro zC ?_));conv=>whnf)|((refine aq (fun hc=>?_) (fun hc=>?_))<;>(try simp only[wz9]at hc)<;>(try (exfalso;omega))<;>(conv=>whnf))))
      refine Wp.loopP (ι:=Nat) (fun j=>j≤(work.getD (i:Int).toNat default).length) (fun j=>⟨⟨Tryz.f14.ntmps,0⟩,2,[(1,.ptr 0 0),(4,.ptr 1 0),(5,.fn (.func 39) [.ptr 1 0]),(6,.i .i64 (qX work (i+1))),(7,.b true),(28,.d (am 1 aQ work)),(29,.i .i64 work.length),(30,.i .i64 i),(38,.d (am 4 Req.D (work.getD (i:Int).toNat default))),(39,.i .i64 (work.getD (i:Int).toNat default).length),(40,.i .i64 j)],
        [(0,some (.cells [.d (am 4 Pol.D ps),.i .i64 room,.d (am 1 aQ work),.d (am 2 cD picks),.b fin])),(1,some (.cells [.i .i64 0]))]⟩) (fun j=>(work.getD (i:Int).toNat default).length-j) 0 (Nat.zero_le _) ?_ ?_
      · rw[hsu]
        (refine Le.by [0,1] rfl rfl rfl rfl ?_ ?_<;>(conv=>whnf)<;>(repeat' (first|exact trivial|exact ae.rfl rfl|exact ae.ptr rfl|((with_reducible refine ae.fn ?_);(conv=>whnf))|((with_reducible refine And.intro ?_ ?_)<;>(conv=>whnf)))))
      · rintro j h2
        by_cases hj:j<(work.getD (i:Int).toNat default).length
        · have hm2:=cy hj
          have hc2:=hc1 _ hm2
          have hC:=aV ps ((work.getD (i:Int).toNat default).getD (j:Int).toNat default).op ((work.getD (i:Int).toNat default).getD (j:Int).toNat default).pol ((work.getD (i:Int).toNat default).getD (j:Int).toNat default).key ((work.getD (i:Int).toNat default).getD (j:Int).toNat default).n
          rw[hc2]at hC
          (repeat' (first|((first|refine Wp.any ac rfl ?_|(with_reducible first|refine Go.mk ?_|apply ai.of|refine Ov.ok zO ?_|refine And.intro zC ?_|refine ab.pure (hC) rfl rfl ?_));conv=>whnf)|(with_reducible refine ab.inline Tryz.func39 rfl rfl rfl (zzb rfl) ?_)|((refine aq (fun hc=>?_) (fun hc=>?_))<;>(try simp only[wz9]at hc)<;>(try (exfalso;omega))<;>(conv=>whnf))))
          refine⟨j+1,by dsimp only;omega,by dsimp only;omega,?_⟩
          dsimp only
          (refine Le.by [0,1] rfl rfl rfl rfl ?_ ?_<;>(conv=>whnf)<;>(repeat' (first|exact trivial|exact ae.rfl rfl|exact ae.ptr rfl|((with_reducible refine ae.fn ?_);(conv=>whnf))|((with_reducible refine And.intro ?_ ?_)<;>(conv=>whnf)))))
        · (repeat' (first|((first|refine Wp.any ac rfl ?_|(with_reducible first|refine Go.mk ?_|apply ai.of|refine Ov.ok zO ?_));conv=>whnf)|((refine aq (fun hc=>?_) (fun hc=>?_))<;>(try simp only[wz9]at hc)<;>(try (exfalso;omega))<;>(conv=>whnf))))
          refine⟨i+1,by dsimp only;omega,by dsimp only;omega,?_⟩
          dsimp only
          (refine Le.by [0,1] rfl rfl rfl rfl ?_ ?_<;>(conv=>whnf)<;>(repeat' (first|exact trivial|exact ae.rfl rfl|exact ae.ptr rfl|((with_reducible refine ae.fn ?_);(conv=>whnf))|((with_reducible refine And.intro ?_ ?_)<;>(conv=>whnf)))))
    · obtain rfl : i=work.length:=by omega
      have hE:(qT work picks∧(if qT work picks then(2:Int)else 0)=2)∨(¬qT work picks∧(if qT work picks then(2:Int)else 0)=0):=by
        by_cases e:qT work picks
        ·exact .inl ⟨e,if_pos e⟩
        ·exact .inr ⟨e,if_neg e⟩
      generalize (if qT work picks then(2:Int)else 0)=E at hE⊢
      unfold qT at hE
      (repeat' (first|((first|refine Wp.any ac rfl ?_|(with_reducible first|refine Go.mk ?_|apply ai.of));conv=>whnf)|(with_reducible refine ab.inline Tryz.func39 rfl rfl rfl (zzb rfl) ?_)|((refine aq (fun hc=>?_) (fun hc=>?_))<;>(try simp only[wz9]at hc)<;>(try (exfalso;omega))<;>(conv=>whnf))))
      all_goals
        refine Wp.loopP (ι:=Nat) (fun j=>j≤picks.length) (fun j=>⟨⟨Tryz.f14.ntmps,0⟩,2,[(1,.ptr 0 0),(4,.ptr 1 0),(5,.fn (.func 39) [.ptr 1 0]),(70,.d (am 2 cD picks)),(71,.i .i64 picks.length),(72,.i .i64 j)],
          [(0,some (.cells [.d (am 4 Pol.D ps),.i .i64 room,.d (am 1 aQ work),.d (am 2 cD picks),.b fin])),(1,some (.cells [.i .i64 E]))]⟩) (fun j=>picks.length-j) 0 (Nat.zero_le _) ?_ ?_
        · have e:E=2∨E=0:=by omega
          rcases e with rfl|rfl<;>first|((refine Le.by [0,1] rfl rfl rfl rfl ?_ ?_<;>(conv=>whnf)<;>(repeat' (first|exact trivial|exact ae.rfl rfl|exact ae.ptr rfl|((with_reducible refine ae.fn ?_);(conv=>whnf))|((with_reducible refine And.intro ?_ ?_)<;>(conv=>whnf)))));done)|(exfalso;omega)
        · rintro j h2
          by_cases hj:j<picks.length
          · obtain⟨p1,p2,p3⟩:=h.pick _ (cy hj)
            (repeat' (first|((first|refine Wp.any ac rfl ?_|(with_reducible first|refine Go.mk ?_|apply ai.of|refine Ov.ok zO ?_|refine And.intro zC ?_|refine ab.pure (cp _) rfl rfl ?_));conv=>whnf)|(with_reducible refine ab.inline Tryz.func39 rfl rfl rfl (zzb rfl) ?_)|((refine aq (fun hc=>?_) (fun hc=>?_))<;>(try simp only[wz9]at hc)<;>(try (exfalso;omega))<;>(conv=>whnf))))
            all_goals first
              | (refine⟨j+1,by dsimp only;omega,by dsimp only;omega,?_⟩
                 dsimp only
                 (refine Le.by [0,1] rfl rfl rfl rfl ?_ ?_<;>(conv=>whnf)<;>(repeat' (first|exact trivial|exact ae.rfl rfl|exact ae.ptr rfl|((with_reducible refine ae.fn ?_);(conv=>whnf))|((with_reducible refine And.intro ?_ ?_)<;>(conv=>whnf)))))
                 done)
              | (exfalso;simp_all [cq];done)
          · (repeat' (first|((first|refine Wp.any ac rfl ?_|(with_reducible first|refine Go.mk ?_|apply ai.of));conv=>whnf)|((refine aq (fun hc=>?_) (fun hc=>?_))<;>(try simp only[wz9]at hc)<;>(try (exfalso;omega))<;>(conv=>whnf))))
            all_goals exact .i rfl
end
section
namespace Core
open Dir (FZ plc upd upW Iw okW dj upd_same upd_ne pow_pos2)
variable{sm:List Int→Int}{P:Ops}
def FrC(P:Ops)(x:X)(f:Fd)(c:Cel)(r:Rpl):Prop :=
 (x.op=1∧(∃t,P.allow (P.pol x.pol) f.cell t x.n=(r,c))∧r.g=true∧x.n≠0) ∨
 (x.op=2∧(f.cell.held.length:Int)≠(P.pol x.pol).permits∧P.acq (P.pol x.pol) f.cell x.ser=(r,c)∧0<x.ser) ∨
 (x.op=3∧P.rel (P.pol x.pol) f.cell x.n=(r,c)∧r.e=0)
def Fo(x:X):Fc→Prop
 | .key=>x.op≠5∧x.op≠6
 | .ev _ _ _=>x.op=5
def FrR(x:X)(r:Rpl):Prop:=(x.op=1∧r.e=0)∨(x.op=2∧(r.e=0→r.serial=x.ser∧0<x.ser))
def FrB(x:X):Bk→Prop
 | .lv r=>FrR x r∧r.e≠10
 | .ev _ _ _=>x.op=5
def Fr(P:Ops)(x:X):CS→Prop
 | .none=>True
 | .k0 f=>Fo x f
 | .kE f _=>Fo x f
 | .kF f _ _=>Fo x f
 | .kG f _ _ _ _=>Fo x f
 | .kH f _ _ _=>Fo x f
 | .kL f _ _ _=>Fo x f
 | .al _=>x.op=1
 | .pk _=>x.op≠1∧x.op≠2∧x.op≠3∧x.op≠5∧x.op≠6
 | .a0 f=>x.op=2∧(f.cell.held.length:Int)≠(P.pol x.pol).permits
 | .a1 f _=>x.op=2∧(f.cell.held.length:Int)≠(P.pol x.pol).permits
 | .p0 f c r=>FrC P x f c r
 | .p1 f c r _=>FrC P x f c r
 | .pS f c r=>FrC P x f c r
 | .b0 _ k=>FrB x k
 | .b1 _ k _=>FrB x k
 | .e0=>x.op=5
 | .eC _ _ _ _ _ _=>x.op=5
 | .eS _ _ _ _ _ _ _=>x.op=5
 | .s0=>x.op=6
 | .sM _=>x.op=6
 | .sF _ _=>x.op=6
 | .sG _ _ _ _=>x.op=6
 | .sH _ _ _ _=>x.op=6
 | .sL _ _ _ _=>x.op=6
 | .sV _=>x.op=6
end Core
end
section
namespace Core
open Dir (FZ plc upd Iw upd_same upd_ne)
open Hm (bh aT)
section
variable(T tau fr to_:Int)(key:List Int)
def rated(x:X)(r:Rpl):Int:=if x.op=1∧x.pol=0∧x.key=key∧r.g=true∧fr≤r.now∧r.now≤to_∧0≤x.n then x.n else 0
def tatO(sm:List Int→Int)(M:Mc):Int:=match own sm M (0::key)with|some c=>c.tat|none=>0
def Bd(R v:Int):Prop:=R=0∨fr+T*R≤v
def RtC(R:Int)(M:Mc)(x:X)(f:Fd)(r:Rpl):Prop:=x.op=1→x.pol=0→x.key=key→M.W f.w=f.v→Bd T fr R (max f.cell.tat r.now)
def RtS(R:Int)(M:Mc)(x:X):CS→Prop
 | .p0 f _ r=>RtC T fr key R M x f r
 | .p1 f _ r _=>RtC T fr key R M x f r
 | .pS f _ r=>RtC T fr key R M x f r
 | _=>True
def pendR(x:X):CS→Int
 | .b0 _ (.lv r)=>rated fr to_ key x r
 | .b1 _ (.lv r) _=>rated fr to_ key x r
 | _=>0
structure RI(sm:List Int→Int)(R:Int)(M:Mc)(S:Nat→Wk):Prop where
 nn:0≤R
 a:Bd T fr R (max (tatO key sm M) M.clk)
 b:∀i,RtS T fr key R M (S i).x (S i).s
 l:R≤(to_-fr+tau)/T+1
end
variable{T tau fr to_:Int}{key:List Int}{sm:List Int→Int}{P:Ops}
theorem Bd.mono{R v w:Int}(h:Bd T fr R v)(e:v≤w):Bd T fr R w:=by
 rcases h with h|h
 ·exact .inl h
 ·exact .inr (by omega)
theorem Kd.own{x:X}{M:Mc}{B:Int}(h:Iw M.W B){f:Fd}(hk:Kd sm P x M f)(ho:qZ f)(hw:M.W f.w=f.v):bh M.W (sm (x.pol::x.key))=f.w∧Core.own sm M (x.pol::x.key)=look f.h (x.pol::x.key):=by
 obtain⟨lv,hl,e⟩:=hk.lv
 rw[hk.k.2]at e
 have h1:=aT h hl (s:=sm (x.pol::x.key)) (by rw[← e,hw];exact ho.2.2)
 rw[← e]at h1
 exact⟨h1,by unfold Core.own;rw[h1,hk.hd hw]⟩
theorem RI.zero(hft:fr≤to_)(h0:0≤tau)(hT:1≤T)(M:Mc):RI T tau fr to_ key sm 0 M (fun _=>⟨default,.none⟩) :=
 ⟨Int.le_refl _,.inl rfl,fun _=>trivial,by have:=Int.ediv_nonneg (show 0≤to_-fr+tau by omega) (show 0≤T by omega);omega⟩
structure RW(T tau fr to_:Int)(key:List Int)(sm:List Int→Int)(n:Nat)(L:Int)(M:Mc)(S:Nat→Wk):Prop where
 ri:RI T tau fr to_ key sm (L+sumI n fun i=>pendR fr to_ key (S i).x (S i).s) M S
theorem RW.zero(hft:fr≤to_)(h0:0≤tau)(hT:1≤T)(n:Nat)(M:Mc):RW T tau fr to_ key sm n 0 M (fun _=>⟨default,.none⟩):=by
 refine⟨?_⟩
 show RI T tau fr to_ key sm (0+sumI n fun _=>0) M _
 rw[sumI_zero]
 exact RI.zero hft h0 hT M
end Core
end
end Go.Proofs.YtlkccdlgnpkjpaaGreat
