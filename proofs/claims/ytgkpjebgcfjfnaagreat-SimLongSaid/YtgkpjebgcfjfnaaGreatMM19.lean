/- Lemmas of Ce3, Rc1, Ce4, Ce5, Ce6, Ce6b, Ce7, Ce8, Ce8b, Ce9, Cf0, Sm1, Sx29, Sm2, Ct1, Cr1. No condition. -/
import Derived.Test.YtgkpjebgcfjfnaaGreatMM18
set_option linter.unusedVariables false
set_option linter.unusedSimpArgs false
set_option linter.unusedSectionVars false
set_option maxHeartbeats 80000000
set_option maxRecDepth 100000
namespace Go.Proofs.YtgkpjebgcfjfnaaGreat
open Go.RowKit
section
theorem bH{ps:List Pol}{room:Int}{S:Nat→Core.Wk}{b b':Nat}{L:List Nat}{π:Nat→Nat}(hb:4≤b')(h4:∀l,l<4→l<L.length∧L.getD l 0=π l)(hq:∀q,q<9→b'+q<L.length∧L.getD (b'+q) 0=π (b+q)) :
  ∀j,j<67→ae L (SV.ren π (au ps room (gOf (aa ps room) b S) j)) (au ps room (gOf (aa ps room) b' S) j)∧SV.Lt (b'+9) (au ps room (gOf (aa ps room) b' S) j):=fun j _=>by
 have hl:∀x,SV.Lt 4 x→ae L (SV.ren π x) x:=fun x hx=>by
  have:=ae.renX (π1:=π) (π2:=fun l=>l) (L:=L) hx h4
  rwa [SV.ren_same (π:=fun l=>l) (m:=4) (fun _ _=>rfl) hx]at this
 rcases j with _|_|_|j
 ·exact⟨hl _ (.of rfl),.of rfl⟩
 ·exact⟨hl _ (.of rfl),.of rfl⟩
 ·exact⟨hl _ (.of rfl),(show SV.Lt 4 ar from .of rfl).mono (by omega)⟩
 ·refine⟨?_,lS hb S j⟩
  show ae L (SV.ren π (SV.ren (at4 (b+aM j)) (cl (aa ps room) j (S j).x (S j).s))) (SV.ren (at4 (b'+aM j)) (cl (aa ps room) j (S j).x (S j).s))
  rw[SV.ren_ren]
  refine ae.renX (dU _ _ _ _) fun l hl=>?_
  by_cases e:l=4
  ·subst e;exact hq _ (d6 j)
  ·rw[dZ (by omega),dZ (by omega)];exact h4 l (by omega)
theorem cm{ps:List Pol}{room:Int}{S:Nat→Core.Wk}{b b':Nat}{L:List Nat}(hB:4≤b)(hb:4≤b')(h4:∀l,l<4→l<L.length∧L.getD l 0=l)(hq:∀q,q<9→b'+q<L.length∧L.getD (b'+q) 0=b+q) :
  ∀j,j<67→ae L (au ps room (gOf (aa ps room) b S) j) (au ps room (gOf (aa ps room) b' S) j)∧SV.Lt (b'+9) (au ps room (gOf (aa ps room) b' S) j):=fun j hj=>by
 have:=bH (ps:=ps) (room:=room) (S:=S) (b:=b) (π:=fun l=>l) hb h4 hq j hj
 have hlt:SV.Lt (b+9) (au ps room (gOf (aa ps room) b S) j):=by
  rcases j with _|_|_|j
  ·exact .of rfl
  ·exact .of rfl
  ·exact(show SV.Lt 4 ar from .of rfl).mono (by omega)
  ·exact lS hB S j
 rwa [SV.ren_same (π:=fun l=>l) (fun _ _=>rfl) hlt]at this
theorem fM{xs:Nat→XB}{i n:Nat}(H:∀i j,SV.Lt 1 ((xs i).f j)){L:List Nat}:∀j,j<n→ae (0::L) ((xs i).f j) ((xs i).f j)∧SV.Lt 1 ((xs i).f j):=eh (H i)
theorem di{xs:Nat→XB}{i n:Nat}{π:Nat→Nat}(H:∀i j,SV.Lt 1 ((xs i).f j))(hπ:π 0=0){L:List Nat}:∀j,j<n→ae (0::L) (SV.ren π ((xs i).f j)) ((xs i).f j)∧SV.Lt 1 ((xs i).f j):=b8 (H i) hπ
theorem np{St':St}{xs:Nat→XB}{i n:Nat}{π:Nat→Nat}(H:∀i j,SV.Lt 1 ((xs i).f j))(hπ:π 0=0){L:List Nat}:∀j,j<n→ai St' (0::L) (SV.ren π ((xs i).f j)) ((xs i).f j)∧SV.Lt 1 ((xs i).f j):=aw (H i) hπ
variable{ps:List Pol}{room:Int}{k:Nat}{M:Core.Mc}{S:Nat→Core.Wk}{xs:Nat→XB}{nl:Nat}{f:Nat→List D}{cnt:Int}
theorem n7(h:ee ps room k M S xs nl cnt)(hk:k≤1000000){w:Nat}(hw:w<8∨w=9)(hn:isC (S w).s=true) :
  ∃xs' f',ee ps room (k+1) (Core.mx (aa ps room) M S w) (Core.nx (aa ps room) M S w) xs' (aC nl) (cnt+1) ∧
  Fun TC 26 14 [.ptr 0 0,.i .i64 w] (ak ps room (gOf (aa ps room) 4 S) M xs nl f cnt)
   24 (.tup [rsS (Core.step (aa ps room) M (S w).x (S w).s).r,.i .i64 0]) (fF ps room (Core.nx (aa ps room) M S w) (Core.mx (aa ps room) M S w) xs' (aC nl) f' (cnt+1)):=by
 obtain⟨a,hF⟩:=r8 (f:=f) w (by omega) (h.cok hk w (by omega)) hn (h.okC hk (by omega)) (h.xe w (n9 hn))
 exact⟨_,_,h.step hk hw hn,hF⟩
theorem rk(h:ee ps room k M S xs nl cnt)(hk:k≤1000000){w:Nat}(hw:w<8∨w=9)(hn:(S w).s=.none)(op pol:Int)(key:List Int)(n:Int)(hE:ni ps op pol key n=0)(hkl:key.length≤16777216)(hkx:op≠5→op≠6→Core.Kx ps (aI op pol key n)) :
  ∃xs',ee ps room k M (Dir.upd S w ⟨aI op pol key n,Core.first (aI op pol key n)⟩) xs' nl cnt ∧
  Fun TC 25 14 [.ptr 0 0,.i .i64 w,iC op pol key n] (ak ps room (gOf (aa ps room) 4 S) M xs nl f cnt)
   24 (.i .i64 0) (fF ps room (Dir.upd S w ⟨aI op pol key n,Core.first (aI op pol key n)⟩) M xs' nl f cnt) :=
 ⟨_,h.start hw hn hkx,pv w (by omega) (h.cok hk w (by omega)) hn (fun j hs hne=>mC h.busy hw hs hne) op pol key n hE hkl hkx⟩
theorem cT(h:ee ps room k M S xs nl cnt)(hk:k≤1000000){w:Nat}(hw:w<64) :
  Fun TC 11 14 [.ptr 0 0,.i .i64 w] (ak ps room (gOf (aa ps room) 4 S) M xs nl f cnt) 14 (.b (isC (S w).s)) (ak ps room (gOf (aa ps room) 4 S) M xs nl f cnt) :=
 fV w hw (h.cok hk w hw) rfl
end
theorem Pure.leX{C:Cx}{g:Nat}{args args':List SV}{r:SV}(h:Pure C g args' r)(ha:Les args args'):Pure C g args r :=
 ⟨h.ent,fun E w vs hIm hsz hargs=>h.out E w vs hIm (hsz.trans ha.len) fun j hj=>(ha.out j (by rw[ha.len];exact hj) hj).out _ _ _ _ (hargs j (by rw[ha.len];exact hj))⟩
def f1(a:Int):Nat→List D:=fun _=>[.val (.int .u64 a)]
def f2(a b:Int):Nat→List D
 | 0=>[.val (.int .u64 a)]
 | _+1=>[.val (.int .u64 b)]
structure Pick where
 kind:Int
 who:Int
 op:Int
 pol:Int
 key:List Int
 n:Int
 t:Int
 deriving Inhabited
@[reducible] def Pick.D(p:Pick):List D:=[.val (.int .u8 p.kind),.val (.int .i64 p.who),.val (.int .u8 p.op),.val (.int .i64 p.pol),ao 1 (bc .u8) p.key,.val (.int .i64 p.n),.val (.int .i64 p.t)]
@[reducible] def Pick.S(p:Pick):SV:=.agg [.i .u8 p.kind,.i .i64 p.who,.i .u8 p.op,.i .i64 p.pol,.d (ao 1 (bc .u8) p.key),.i .i64 p.n,.i .i64 p.t]
structure Pick.ok(p:Pick):Prop where
 kind:0≤p.kind∧p.kind≤255
 who:-9223372036854775808≤p.who∧p.who≤9223372036854775807
 op:0≤p.op∧p.op≤255
 pol:-9223372036854775808≤p.pol∧p.pol≤9223372036854775807
 key:IsB p.key
 n:-9223372036854775808≤p.n∧p.n≤9223372036854775807
 t:-9223372036854775808≤p.t∧p.t≤9223372036854775807
theorem Pick.at{script:List Pick}(hs:∀a∈script,a.ok)(j:Nat):(script.getD j default).ok:=by
 rw[Q1]
 cases e:script[j]? with
 | none=>exact⟨by decide,by decide,by decide,by decide,fun x hx=>absurd hx (by simp[default,instInhabitedPick.default]),by decide,by decide⟩
 | some a=>exact hs a (List.mem_of_getElem? e)
def ax:List Pol:=[⟨1,10,20,0⟩,⟨2,0,0,2⟩]
theorem tab2_ok:cO ax=0:=by decide
namespace Core
theorem T_pos{x:X}{W:Nat→Int}{s:CS}(hs:Cw x W s)(hn:s≠.none):0<T x W s:=by
 cases s with
 | none=>exact absurd rfl hn
 | k0 f=>have:=sU x f;simp only[T];split<;>omega
 | kE f w=>have:=sU x f;simp only[T,TE];split<;>omega
 | kF f lv w=>have:=sU x f;simp only[T,TF];split<;>omega
 | kG f lv w v l=>simp only[T];split<;>omega
 | kH f lv w l=>have:=sU x f;simp only[T,TH];(repeat' split)<;>omega
 | kL f lv w l=>simp only[T];omega
 | al f=>simp only[T];omega
 | pk c=>simp only[T];omega
 | a0 f=>simp only[T];omega
 | a1 f u=>simp only[T];split<;>omega
 | p0 f c r=>simp only[T];omega
 | p1 f c r u=>simp only[T];split<;>omega
 | pS f c r=>simp only[T];split<;>omega
 | b0 k b=>simp only[T];omega
 | b1 k b u=>simp only[T];split<;>omega
 | e0=>simp only[T];omega
 | eC j sh g w v l=>simp only[T];omega
 | eS j sh g w v m k=>simp only[T];omega
 | s0=>simp only[T];omega
 | sM lv=>simp only[T];split<;>omega
 | sF lv i=>have:=fb hs.2.1;simp only[T];omega
 | sG lv i v l=>have:=fb hs.2.1;simp only[T];split<;>omega
 | sH lv i up l=>have:=fb hs.2.1;simp only[T];split<;>omega
 | sL lv i up l=>have:=fb hs.2.1;simp only[T];split<;>omega
 | sV lv=>simp only[T];omega
end Core
def z6:List SV:=[.i .i64 0,.b false,.i .i64 0,.i .i64 0,.i .i64 0,.i .i64 0]
section
namespace Sim
structure Req where
 op:Int
 pol:Int
 key:List Int
 n:Int
 deriving Inhabited
structure Dn where
 who:Int
 c:Req
 first:Int
 last:Int
 r:Rpl
 deriving Inhabited
structure Wo where
 left:List Req
 c:Req
 first:Int
 deriving Inhabited
structure SS where
 M:Core.Mc
 S:Nat→Core.Wk
 ws:Nat→Wo
 out:List Dn
 k:Nat
@[reducible] def newC(c:Req):Core.Wk:=⟨aI c.op c.pol c.key c.n,Core.first (aI c.op c.pol c.key c.n)⟩
section
variable(P:Core.Ops)
@[reducible] def beg(s:SS)(w:Nat)(c:Req)(r:List Req):SS:=⟨s.M,Dir.upd s.S w (newC c),Dir.upd s.ws w ⟨r,c,(s.k:Int)+1⟩,s.out,s.k⟩
@[reducible] def res(s:SS)(w:Nat):Core.Rs:=(Core.step P s.M (s.S w).x (s.S w).s).r
@[reducible] def adv(s:SS)(w:Nat):SS :=
 ⟨Core.mx P s.M s.S w,Core.nx P s.M s.S w,s.ws,if(res P s w).done=true then s.out++[⟨w,(s.ws w).c,(s.ws w).first,(s.k:Int)+1,(res P s w).r⟩]else s.out,s.k+1⟩
def go(s:SS)(w:Nat):SS×Bool :=
 if isC (s.S w).s=true then(adv P s w,true)
 else match(s.ws w).left with
  | []=>(s,false)
  | c::r=>(adv P (beg s w c r) w,true)
@[reducible] def tick(s:SS)(t:Int):SS:=⟨⟨s.M.W,s.M.Hd,min (s.M.clk+t) 4611686018427387903⟩,s.S,s.ws,s.out,s.k⟩
def pick(s:SS)(p:Int×Int):SS:=if p.1=-1 then tick s p.2 else(go P s p.1.toNat).1
def picks(s:SS)(l:List (Int×Int)):SS:=l.foldl (pick P) s
def fin:Nat→SS→Nat→SS
 | 0,s,_=>s
 | f+1,s,w=>if(go P s w).2=true then fin f (go P s w).1 w else s
def mu(s:SS)(w:Nat):Nat:=Core.T (s.S w).x s.M.W (s.S w).s+166*(s.ws w).left.length
def fB(b:Bool):Nat→SS→SS
 | 0,s=>s
 | n+1,s=>if b=true then fin P (mu (fB b n s) n) (fB b n s) n else fB b n s
def pend(S:Nat→Core.Wk):Nat→Nat
 | 0=>0
 | n+1=>pend S n+(if isC (S n).s=true then 1 else 0)
end
def ss0(work:List (List Req)):SS:=⟨Core.M0,S0,fun j=>⟨work.getD j [],⟨0,0,[],0⟩,0⟩,[],0⟩
variable{P:Core.Ops}
theorem qI(s:SS)(a b:List (Int×Int)):picks P s (a++b)=picks P (picks P s a) b:=List.foldl_append ..
structure pJ(s t:SS):Prop where
 out:∃l,t.out=s.out++l
 k:s.k≤t.k
theorem pJ.refl(s:SS):pJ s s:=⟨⟨[],(List.append_nil _).symm⟩,Q4 _⟩
theorem pJ.trans{s t u:SS}(a:pJ s t)(b:pJ t u):pJ s u:=by
 obtain⟨⟨l,hl⟩,h1⟩:=a
 obtain⟨⟨m,hm⟩,h2⟩:=b
 exact⟨⟨l++m,by rw[hm,hl,List.append_assoc]⟩,by omega⟩
theorem rE{s:SS}{w:Nat}(h:isC (s.S w).s=false)(hl:(s.ws w).left=[]):go P s w=(s,false):=by
 unfold go;rw[if_neg (by rw[h];decide),hl]
theorem xE{s:SS}{w j:Nat}(hj:j≠w):(go P s w).1.S j=s.S j∧(go P s w).1.ws j=s.ws j:=by
 unfold go
 split
 ·exact⟨by show Core.nx P s.M s.S w j=_;unfold Core.nx;rw[Dir.upd_ne _ _ hj],rfl⟩
 ·split
  ·exact⟨rfl,rfl⟩
  ·rename_i c r _
   exact⟨by show Core.nx P s.M (Dir.upd s.S w (newC c)) w j=_;unfold Core.nx;rw[Dir.upd_ne _ _ hj,Dir.upd_ne _ _ hj],Dir.upd_ne _ _ hj⟩
theorem m8{w j:Nat}(hj:j≠w):∀(f:Nat) (s:SS),(fin P f s w).S j=s.S j∧(fin P f s w).ws j=s.ws j
 | 0,s=>⟨rfl,rfl⟩
 | f+1,s=>by
  unfold fin
  split
  ·have h1:=m8 hj f (go P s w).1
   have h2:=xE (P:=P) (s:=s) hj
   exact⟨h1.1.trans h2.1,h1.2.trans h2.2⟩
  ·exact⟨rfl,rfl⟩
theorem kJ(b:Bool):∀(n:Nat) (s:SS) (j:Nat),n≤j→(fB P b n s).S j=s.S j∧(fB P b n s).ws j=s.ws j
 | 0,s,j,_=>⟨rfl,rfl⟩
 | n+1,s,j,h=>by
  have h1:=kJ b n s j (by omega)
  unfold fB
  split
  ·have h2:=m8 (P:=P) (w:=n) (j:=j) (by omega) (mu (fB P b n s) n) (fB P b n s)
   exact⟨h2.1.trans h1.1,h2.2.trans h1.2⟩
  ·exact h1
theorem jm{S S':Nat→Core.Wk}:∀{n:Nat},(∀j,j<n→isC (S' j).s=isC (S j).s)→pend S' n=pend S n
 | 0,_=>rfl
 | n+1,h=>by simp only[pend];rw[jm (n:=n) fun j hj=>h j (by omega),h n (by omega)]
theorem qL(S:Nat→Core.Wk):∀n:Nat,pend S n≤n
 | 0=>Q4 _
 | n+1=>by have:=qL S n;simp only[pend];split<;>omega
end Sim
end
theorem Le.rowD{nt:NT}{nx:Nat}{fr:List (Nat×SV)}{hp:List (Nat×Option Blk)}(l:Nat){e z n:Nat}{f:Nat→List D}(g:Nat→List D)(hl:lkh hp l=some (.row e z n f))(hg:∀i,i<n→fL (f i) (g i)) :
  Le ⟨nt,nx,fr,hp⟩ ⟨nt,nx,fr,(l,some (.row e z n g))::hp⟩:=by
 refine⟨fun O E a w hs=>⟨E,hs.rehp fun k b' hb'=>?_⟩⟩
 rw[ah]at hb'
 by_cases e1:l=k
 ·subst e1
  rw[if_pos rfl]at hb';cases hb'
  refine⟨_,hl,fun _ h=>h,fun hb=>?_⟩
  obtain⟨h1,h2,h3,h4,h5⟩:=hb
  refine⟨h1,h2,h3,fun i hi=>by rw[← ((hg i hi).out).1];exact h4 i hi,fun hk=>?_⟩
  obtain⟨vs,g1,g2,g3,g4⟩:=h5 hk
  refine⟨vs,g1,g2,g3,fun i j hi hj=>?_⟩
  have hj':j<(f i).length:=by rw[(hg i hi).out.1];exact hj
  exact((hg i hi).out.2 j hj' hj).out _ _ _ (g4 i j hi hj')
 ·rw[if_neg e1]at hb'
  exact⟨b',hb',fun _ h=>h,fun h=>h⟩
section
namespace Sim
@[reducible] def Req.D(c:Req):List D:=[.val (.int .u8 c.op),.val (.int .i64 c.pol),ao 1 (bc .u8) c.key,.val (.int .i64 c.n)]
@[reducible] def cq(l:List Req):List D:=[ao 4 Req.D l]
@[reducible] def fZ(p:Int×Int):List D:=[.val (.int .i64 p.1),.val (.int .i64 p.2)]
@[reducible] def cfgS(ps:List Pol)(room:Int)(work:List (List Req))(picks:List (Int×Int))(fin:Bool):SV:=.agg [.d (ao 4 Pol.D ps),.i .i64 room,.d (ao 1 cq work),.d (ao 2 fZ picks),.b fin]
def ny(work:List (List Req))(i:Nat):Nat:=((work.take i).map List.length).sum
theorem p9{work:List (List Req)}{i:Nat}(h:i<work.length):ny work (i+1)=ny work i+(work.getD (i:Int).toNat default).length:=by
 unfold ny
 rw[List.take_succ_eq_append_getElem h,List.map_append,List.sum_append,Q13,Q1,Q0 h]
 simp
theorem qa(work:List (List Req))(i:Nat):ny work i≤ny work work.length:=by
 unfold ny
 rw[List.take_length]
 have h:=congrArg (fun l:List (List Req)=>(l.map List.length).sum) (List.take_append_drop i work)
 simp only[List.map_append,List.sum_append]at h
 omega
structure Ok(ps:List Pol)(room:Int)(work:List (List Req))(picks:List (Int×Int)):Prop where
 new:xo ps room=0
 call:∀w∈work,∀c∈w,ni ps c.op c.pol c.key c.n=0
 pick:∀p∈picks,-1≤p.1∧p.1<work.length∧(p.1=-1→0≤p.2∧p.2≤4611686018427387903)
def nj(work:List (List Req))(picks:List (Int×Int)):Prop:=64<work.length∨4096<ny work work.length∨65536<picks.length
instance(work:List (List Req))(picks:List (Int×Int)):Decidable (nj work picks):=by unfold nj;infer_instance
end Sim
open Sim
theorem eH{α:Type}[Inhabited α]{xs:List α}{k:Nat}(h:k<xs.length):xs.getD (k:Int).toNat default∈xs:=by
 rw[Q13,Q1,Q0 h];exact Q14 h
theorem lA {ps : List Pol} {room:Int} {work:List (List Req)} {picks:List (Int×Int)} (fin:Bool) (h:Sim.Ok ps room work picks) (hs:ny work work.length≤1000000) (hw:work.length≤1000000) (hp:picks.length≤1000000) :
    Pure TC 7 [cfgS ps room work picks fin] (.i .i64 (if nj work picks then 2 else 0)):=by
  have hN:=oB (ps:=ps) (room:=room) h.new
  have hpo:cO ps=0:=by
    have:=h.new
    unfold xo at this
    split at this
    ·omega
    ·exact this
  have hP:=da ps
  rw[hpo]at hP
  refine Pure.mk' Tryz.func7 rfl rfl zN ?_
  (repeat' (first|((first|refine Wp.any ac rfl ?_|(with_reducible first|refine Go.mk ?_|apply aj.of));conv=>whnf)|((refine ab.fn (hN) [] rfl rfl rfl rfl rfl ?ha ?hh ?_);(case ha=>exact zA);(case hh=>exact zH);(conv=>whnf))|((with_reducible refine ab.pure (hP) rfl rfl ?_);conv=>whnf)))
  refine Wp.loopP (ι:=Nat) (fun i=>i≤work.length) (fun i=>⟨⟨Tryz.f7.ntmps,0⟩,2,[(1,.ptr 0 0),(4,.ptr 1 0),(5,.fn (.func 15) [.ptr 1 0]),(6,.i .i64 (ny work i)),(7,.b true),(28,.d (ao 1 cq work)),(29,.i .i64 work.length),(30,.i .i64 i)],
    [(0,some (.cells [.d (ao 4 Pol.D ps),.i .i64 room,.d (ao 1 cq work),.d (ao 2 fZ picks),.b fin])),(1,some (.cells [.i .i64 0]))]⟩) (fun i=>work.length-i) 0 (Nat.zero_le _) ?_ ?_
  ·(refine Le.by [0,15] rfl rfl rfl rfl ?_ ?_<;>(conv=>whnf)<;>(repeat' (first|exact trivial|exact ae.rfl rfl|exact ae.ptr rfl|((with_reducible refine ae.fn ?_);(conv=>whnf))|((with_reducible refine And.intro ?_ ?_)<;>(conv=>whnf)))))
  · rintro i h1
    have hsu:=@p9 work i
    have hsl:=qa work i
    by_cases hi:i<work.length
    · have hm:=eH hi
      replace hsu:=hsu hi
      have hsl2:=qa work (i+1)
      have hc1:=h.call _ hm
      (repeat' (first|((first|refine Wp.any ac rfl ?_|(with_reducible first|refine Go.mk ?_|apply aj.of|refine Ov.ok zO ?_|refine And.intro zC ?_));conv=>whnf)|((refine ap (fun hc=>?_) (fun hc=>?_))<;>(try simp only[wz9]at hc)<;>(try (exfalso;omega))<;>(conv=>whnf))))
      refine Wp.loopP (ι:=Nat) (fun j=>j≤(work.getD (i:Int).toNat default).length) (fun j=>⟨⟨Tryz.f7.ntmps,0⟩,2,[(1,.ptr 0 0),(4,.ptr 1 0),(5,.fn (.func 15) [.ptr 1 0]),(6,.i .i64 (ny work (i+1))),(7,.b true),(28,.d (ao 1 cq work)),(29,.i .i64 work.length),(30,.i .i64 i),(38,.d (ao 4 Req.D (work.getD (i:Int).toNat default))),(39,.i .i64 (work.getD (i:Int).toNat default).length),(40,.i .i64 j)],
        [(0,some (.cells [.d (ao 4 Pol.D ps),.i .i64 room,.d (ao 1 cq work),.d (ao 2 fZ picks),.b fin])),(1,some (.cells [.i .i64 0]))]⟩) (fun j=>(work.getD (i:Int).toNat default).length-j) 0 (Nat.zero_le _) ?_ ?_
      · rw[hsu]
        (refine Le.by [0,1] rfl rfl rfl rfl ?_ ?_<;>(conv=>whnf)<;>(repeat' (first|exact trivial|exact ae.rfl rfl|exact ae.ptr rfl|((with_reducible refine ae.fn ?_);(conv=>whnf))|((with_reducible refine And.intro ?_ ?_)<;>(conv=>whnf)))))
      · rintro j h2
        by_cases hj:j<(work.getD (i:Int).toNat default).length
        · have hm2:=eH hj
          have hc2:=hc1 _ hm2
          have hC:=aU ps ((work.getD (i:Int).toNat default).getD (j:Int).toNat default).op ((work.getD (i:Int).toNat default).getD (j:Int).toNat default).pol ((work.getD (i:Int).toNat default).getD (j:Int).toNat default).key ((work.getD (i:Int).toNat default).getD (j:Int).toNat default).n
          rw[hc2]at hC
          (repeat' (first|((first|refine Wp.any ac rfl ?_|(with_reducible first|refine Go.mk ?_|apply aj.of|refine Ov.ok zO ?_|refine And.intro zC ?_|refine ab.pure (hC) rfl rfl ?_));conv=>whnf)|(with_reducible refine ab.inline Tryz.func15 rfl rfl rfl (zzb rfl) ?_)|((refine ap (fun hc=>?_) (fun hc=>?_))<;>(try simp only[wz9]at hc)<;>(try (exfalso;omega))<;>(conv=>whnf))))
          refine⟨j+1,by dsimp only;omega,by dsimp only;omega,?_⟩
          dsimp only
          (refine Le.by [0,1] rfl rfl rfl rfl ?_ ?_<;>(conv=>whnf)<;>(repeat' (first|exact trivial|exact ae.rfl rfl|exact ae.ptr rfl|((with_reducible refine ae.fn ?_);(conv=>whnf))|((with_reducible refine And.intro ?_ ?_)<;>(conv=>whnf)))))
        · (repeat' (first|((first|refine Wp.any ac rfl ?_|(with_reducible first|refine Go.mk ?_|apply aj.of|refine Ov.ok zO ?_));conv=>whnf)|((refine ap (fun hc=>?_) (fun hc=>?_))<;>(try simp only[wz9]at hc)<;>(try (exfalso;omega))<;>(conv=>whnf))))
          refine⟨i+1,by dsimp only;omega,by dsimp only;omega,?_⟩
          dsimp only
          (refine Le.by [0,1] rfl rfl rfl rfl ?_ ?_<;>(conv=>whnf)<;>(repeat' (first|exact trivial|exact ae.rfl rfl|exact ae.ptr rfl|((with_reducible refine ae.fn ?_);(conv=>whnf))|((with_reducible refine And.intro ?_ ?_)<;>(conv=>whnf)))))
    · obtain rfl : i=work.length:=by omega
      have hE:(nj work picks∧(if nj work picks then(2:Int)else 0)=2)∨(¬nj work picks∧(if nj work picks then(2:Int)else 0)=0):=by
        by_cases e:nj work picks
        ·exact .inl ⟨e,if_pos e⟩
        ·exact .inr ⟨e,if_neg e⟩
      generalize (if nj work picks then(2:Int)else 0)=E at hE⊢
      unfold nj at hE
      (repeat' (first|((first|refine Wp.any ac rfl ?_|(with_reducible first|refine Go.mk ?_|apply aj.of));conv=>whnf)|(with_reducible refine ab.inline Tryz.func15 rfl rfl rfl (zzb rfl) ?_)|((refine ap (fun hc=>?_) (fun hc=>?_))<;>(try simp only[wz9]at hc)<;>(try (exfalso;omega))<;>(conv=>whnf))))
      all_goals
        refine Wp.loopP (ι:=Nat) (fun j=>j≤picks.length) (fun j=>⟨⟨Tryz.f7.ntmps,0⟩,2,[(1,.ptr 0 0),(4,.ptr 1 0),(5,.fn (.func 15) [.ptr 1 0]),(70,.d (ao 2 fZ picks)),(71,.i .i64 picks.length),(72,.i .i64 j)],
          [(0,some (.cells [.d (ao 4 Pol.D ps),.i .i64 room,.d (ao 1 cq work),.d (ao 2 fZ picks),.b fin])),(1,some (.cells [.i .i64 E]))]⟩) (fun j=>picks.length-j) 0 (Nat.zero_le _) ?_ ?_
        · have e:E=2∨E=0:=by omega
          rcases e with rfl|rfl<;>first|((refine Le.by [0,1] rfl rfl rfl rfl ?_ ?_<;>(conv=>whnf)<;>(repeat' (first|exact trivial|exact ae.rfl rfl|exact ae.ptr rfl|((with_reducible refine ae.fn ?_);(conv=>whnf))|((with_reducible refine And.intro ?_ ?_)<;>(conv=>whnf)))));done)|(exfalso;omega)
        · rintro j h2
          by_cases hj:j<picks.length
          · obtain⟨p1,p2,p3⟩:=h.pick _ (eH hj)
            (repeat' (first|((first|refine Wp.any ac rfl ?_|(with_reducible first|refine Go.mk ?_|apply aj.of|refine Ov.ok zO ?_|refine And.intro zC ?_|refine ab.pure (cD _) rfl rfl ?_));conv=>whnf)|(with_reducible refine ab.inline Tryz.func15 rfl rfl rfl (zzb rfl) ?_)|((refine ap (fun hc=>?_) (fun hc=>?_))<;>(try simp only[wz9]at hc)<;>(try (exfalso;omega))<;>(conv=>whnf))))
            all_goals first
              | (refine⟨j+1,by dsimp only;omega,by dsimp only;omega,?_⟩
                 dsimp only
                 (refine Le.by [0,1] rfl rfl rfl rfl ?_ ?_<;>(conv=>whnf)<;>(repeat' (first|exact trivial|exact ae.rfl rfl|exact ae.ptr rfl|((with_reducible refine ae.fn ?_);(conv=>whnf))|((with_reducible refine And.intro ?_ ?_)<;>(conv=>whnf)))))
                 done)
              | (exfalso;simp_all [dk];done)
          · (repeat' (first|((first|refine Wp.any ac rfl ?_|(with_reducible first|refine Go.mk ?_|apply aj.of));conv=>whnf)|((refine ap (fun hc=>?_) (fun hc=>?_))<;>(try simp only[wz9]at hc)<;>(try (exfalso;omega))<;>(conv=>whnf))))
            all_goals exact .i rfl
end
section
namespace Core
open Dir (FZ plc upd upW Iw okW de upd_same upd_ne pow_pos2)
variable{sm:List Int→Int}{P:Ops}
def FrC(P:Ops)(x:X)(f:Fd)(c:Cel)(r:Rpl):Prop :=
 (x.op=1∧(∃t,P.allow (P.pol x.pol) f.cell t x.n=(r,c))∧r.g=true∧x.n≠0) ∨
 (x.op=2∧(f.cell.held.length:Int)≠(P.pol x.pol).permits∧P.acq (P.pol x.pol) f.cell x.ser=(r,c)∧0<x.ser) ∨
 (x.op=3∧P.rel (P.pol x.pol) f.cell x.n=(r,c)∧r.e=0)
def Fo(x:X):Fc→Prop
 | .key=>x.op≠5∧x.op≠6
 | .ev _ _ _=>x.op=5
def FrR(x:X)(r:Rpl):Prop:=(x.op=1∧r.e=0)∨(x.op=2∧(r.e=0→r.serial=x.ser∧0<x.ser))
def FrB(x:X):Bk→Prop
 | .lv r=>FrR x r∧r.e≠10
 | .ev _ _ _=>x.op=5
def Fr(P:Ops)(x:X):CS→Prop
 | .none=>True
 | .k0 f=>Fo x f
 | .kE f _=>Fo x f
 | .kF f _ _=>Fo x f
 | .kG f _ _ _ _=>Fo x f
 | .kH f _ _ _=>Fo x f
 | .kL f _ _ _=>Fo x f
 | .al _=>x.op=1
 | .pk _=>x.op≠1∧x.op≠2∧x.op≠3∧x.op≠5∧x.op≠6
 | .a0 f=>x.op=2∧(f.cell.held.length:Int)≠(P.pol x.pol).permits
 | .a1 f _=>x.op=2∧(f.cell.held.length:Int)≠(P.pol x.pol).permits
 | .p0 f c r=>FrC P x f c r
 | .p1 f c r _=>FrC P x f c r
 | .pS f c r=>FrC P x f c r
 | .b0 _ k=>FrB x k
 | .b1 _ k _=>FrB x k
 | .e0=>x.op=5
 | .eC _ _ _ _ _ _=>x.op=5
 | .eS _ _ _ _ _ _ _=>x.op=5
 | .s0=>x.op=6
 | .sM _=>x.op=6
 | .sF _ _=>x.op=6
 | .sG _ _ _ _=>x.op=6
 | .sH _ _ _ _=>x.op=6
 | .sL _ _ _ _=>x.op=6
 | .sV _=>x.op=6
structure OpsRe(P:Ops):Prop where
 allow:∀p c t n,(P.allow p c t n).1.e=0
 acq:∀p c n,(P.acq p c n).1.e≠10
 acqs:∀p c n,(P.acq p c n).1.e=0→(P.acq p c n).1.serial=n
 rel:∀p c n,(P.rel p c n).1.e≠10
 peek:∀p c t,(P.peek p c t).e=0
structure FrP(P:Ops)(x:X)(p:CS×Rs):Prop where
 s:Fr P x p.1
 e:p.2.r.e≠10
end Core
end
section
namespace Core
open Dir (FZ plc upd Iw upd_same upd_ne)
open Hm (aZ cg)
section
variable(T tau fr to_:Int)(key:List Int)
def bp(x:X)(r:Rpl):Int:=if x.op=1∧x.pol=0∧x.key=key∧r.g=true∧fr≤r.now∧r.now≤to_∧0≤x.n then x.n else 0
def my(sm:List Int→Int)(M:Mc):Int:=match own sm M (0::key)with|some c=>c.tat|none=>0
def Bd(R v:Int):Prop:=R=0∨fr+T*R≤v
def RtC(R:Int)(M:Mc)(x:X)(f:Fd)(r:Rpl):Prop:=x.op=1→x.pol=0→x.key=key→M.W f.w=f.v→Bd T fr R (max f.cell.tat r.now)
def RtS(R:Int)(M:Mc)(x:X):CS→Prop
 | .p0 f _ r=>RtC T fr key R M x f r
 | .p1 f _ r _=>RtC T fr key R M x f r
 | .pS f _ r=>RtC T fr key R M x f r
 | _=>True
def aY(x:X):CS→Int
 | .b0 _ (.lv r)=>bp fr to_ key x r
 | .b1 _ (.lv r) _=>bp fr to_ key x r
 | _=>0
def iM(x:X)(r:Rs):Int:=if r.done=true then bp fr to_ key x r.r else 0
def wb(M:Mc)(x:X):CS→Int
 | .pS f _ r=>if M.W f.w=f.v then bp fr to_ key x r else 0
 | _=>0
structure RI(sm:List Int→Int)(R:Int)(M:Mc)(S:Nat→Wk):Prop where
 nn:0≤R
 a:Bd T fr R (max (my key sm M) M.clk)
 b:∀i,RtS T fr key R M (S i).x (S i).s
 l:R≤(to_-fr+tau)/T+1
end
variable{T tau fr to_:Int}{key:List Int}{sm:List Int→Int}{P:Ops}
theorem v5(x:X)(r:Rpl):0≤bp fr to_ key x r:=by unfold bp;split<;>omega
theorem fg{x:X}{r:Rpl}(h:r.g=false):bp fr to_ key x r=0:=by unfold bp;rw[if_neg (by rw[h];simp)]
theorem el{x:X}{r:Rpl}(h:x.op≠1):bp fr to_ key x r=0:=by unfold bp;rw[if_neg (fun e=>h e.1)]
theorem wd(x:X)(s:CS):0≤aY fr to_ key x s:=by
 unfold aY;split<;>first|exact v5 _ _|exact Int.le_refl _
theorem Bd.mono{R v w:Int}(h:Bd T fr R v)(e:v≤w):Bd T fr R w:=by
 rcases h with h|h
 ·exact .inl h
 ·exact .inr (by omega)
theorem gw(x:X)(r:Rpl):aY fr to_ key x (leave x r).1+iM fr to_ key x (leave x r).2=bp fr to_ key x r:=by
 unfold leave;split
 ·show bp fr to_ key x r+0=_;omega
 ·show 0+bp fr to_ key x r=_;omega
theorem gh(y x:X)(f:Fd)(c:Cel)(r:Rpl):aY fr to_ key y (put x f c r)=0:=by unfold put;split<;>rfl
theorem dJ(x:X)(j sh:Nat)(g:Int):aY fr to_ key x (further j sh g).1+iM fr to_ key x (further j sh g).2=0:=by
 unfold further;split
 ·show 0+bp fr to_ key x (gn g)=0
  rw[fg rfl];rfl
 ·rfl
theorem jy(x:X)(f:Fc)(w:Nat)(v:Int)(l:List Cel):aY fr to_ key x (entered P x f w v l).1+iM fr to_ key x (entered P x f w v l).2=0:=by
 unfold entered
 split
 ·rfl
 ·unfold found
  cases f with
  | key =>
   show aY fr to_ key x (foundK P x (fdOf P x w v l)).1+iM fr to_ key x (foundK P x (fdOf P x w v l)).2=0
   unfold foundK
   split
   ·rfl
   ·rename_i h1
    split
    ·split
     ·rw[gw,el h1]
     ·split
      ·show aY fr to_ key x (put x _ _ _)+0=0;rw[gh];rfl
      ·rfl
    ·split
     ·split
      ·show aY fr to_ key x (put x _ _ _)+0=0;rw[gh];rfl
      ·show 0+bp fr to_ key x _=0;rw[el h1];rfl
     ·split
      ·show 0+bp fr to_ key x _=0;rw[el h1];rfl
      ·rfl
  | ev j sh g =>
   dsimp only
   split
   ·exact dJ _ _ _ _
   ·rfl
theorem qd{M:Mc}{x:X}{s:CS}(h:Fr P x s):aY fr to_ key (step P M x s).x (step P M x s).s+iM fr to_ key (step P M x s).x (step P M x s).r=aY fr to_ key x s+wb fr to_ key M x s:=by
  cases s with
  | none=>rfl
  | k0 f=>simp only[step];split<;>rfl
  | kE f w=>exact jy x f _ _ _
  | kF f lv w=>simp only[step];split<;>rfl
  | kG f lv w v m=>simp only[step];split<;>rfl
  | kH f lv w m =>
    simp only[step];split
    ·rfl
    ·exact jy x f _ _ _
  | kL f lv w m=>rfl
  | al f =>
    simp only[step];split
    · rename_i h9
      show aY fr to_ key x (leave x _).1+iM fr to_ key x (leave x _).2=0+0
      rw[gw]
      rcases h9 with h9|h9
      ·rw[fg h9];rfl
      ·unfold bp;split<;>omega
    · show aY fr to_ key x (put x _ _ _)+0=0+0
      rw[gh]
  | pk c =>
    show 0+bp fr to_ key x _=0+0
    rw[el h.1]
  | a0 f =>
    simp only[step];split
    · show aY fr to_ key x (leave x _).1+iM fr to_ key x (leave x _).2=0+0
      rw[gw,fg rfl];rfl
    ·rfl
  | a1 f u =>
    simp only[step];split
    · show aY fr to_ key _ (put x _ _ _)+0=0+0
      rw[gh]
    ·rfl
  | p0 f c r =>
    simp only[step];split
    · show 0+bp fr to_ key x (er 10)=0+0
      rw[fg rfl]
    ·rfl
  | p1 f c r u=>simp only[step];split<;>rfl
  | pS f c r =>
    by_cases hm:M.W f.w=f.v
    · simp only[step,if_pos hm]
      have e:wb fr to_ key M x (.pS f c r)=bp fr to_ key x r:=if_pos hm
      rw[e]
      show aY fr to_ key x (if f.there=true then leave x r else(.none,⟨true,r⟩):CS×Rs).1+iM fr to_ key x (if f.there=true then leave x r else(.none,⟨true,r⟩):CS×Rs).2=0+bp fr to_ key x r
      split
      ·rw[gw];omega
      ·rfl
    · simp only[step,if_neg hm]
      have e:wb fr to_ key M x (.pS f c r)=0:=if_neg hm
      rw[e];rfl
  | b0 n k=>cases k<;>rfl
  | b1 n k u =>
    simp only[step];split
    · cases k with
      | lv r=>show 0+bp fr to_ key x r=bp fr to_ key x r+0;omega
      | ev j sh g=>exact dJ x _ _ _
    ·cases k<;>rfl
  | e0=>rfl
  | eC j sh g w v m =>
    simp only[step];split
    ·exact dJ x _ _ _
    ·rfl
  | eS j sh g w v m n =>
    simp only[step];split
    ·rfl
    ·exact dJ x _ _ _
  | s0 => simp only[step];split
          ·rfl
          · split
            ·show 0+bp fr to_ key x (er 5)=0+0;rw[fg rfl]
            ·rfl
  | sM lv=>simp only[step];split<;>rfl
  | sF lv i=>simp only[step];split<;>rfl
  | sG lv i v m=>simp only[step];split<;>rfl
  | sH lv i up m =>
    simp only[step];split
    ·rfl
    · show aY fr to_ key x (on lv i up m)+0=0+0
      unfold on move;(repeat' split)<;>rfl
  | sL lv i up m =>
    show aY fr to_ key x (on lv i up m)+0=0+0
    unfold on move;(repeat' split)<;>rfl
  | sV lv =>
    show 0+bp fr to_ key x z0=0+0
    rw[fg rfl]
theorem Kd.own{x:X}{M:Mc}{B:Int}(h:Iw M.W B){f:Fd}(hk:Kd sm P x M f)(ho:mo f)(hw:M.W f.w=f.v):aZ M.W (sm (x.pol::x.key))=f.w∧Core.own sm M (x.pol::x.key)=look f.h (x.pol::x.key):=by
 obtain⟨lv,hl,e⟩:=hk.lv
 rw[hk.k.2]at e
 have h1:=cg h hl (s:=sm (x.pol::x.key)) (by rw[← e,hw];exact ho.2.2)
 rw[← e]at h1
 exact⟨h1,by unfold Core.own;rw[h1,hk.hd hw]⟩
theorem Kd.tat(hP:OpsOk sm P){x:X}{M:Mc}{B:Int}(h:Iw M.W B){f:Fd}(hk:Kd sm P x M f)(ho:mo f)(hw:M.W f.w=f.v)(h0:x.pol=0)(h1:x.key=key):f.cell.tat=my key sm M:=by
 have h2:=(hk.own h ho hw).2
 have h3:=(hP.fnd f.h x.pol x.key hk.srt hk.k.1).2
 have h4:f.cell=(P.fnd f.h x.pol x.key).2.2:=by rw[hk.fd];rfl
 unfold my
 rw[h4,h3,← h0,← h1,h2]
 cases look f.h (x.pol::x.key)<;>rfl
theorem j4{R:Int}{M:Mc}{x y:X}{f:Fd}{c:Cel}{r:Rpl}(h:RtC T fr key R M y f r):RtS T fr key R M y (put x f c r):=by unfold put;split<;>exact h
theorem dt(R:Int)(M:Mc)(x y:X)(r:Rpl):RtS T fr key R M y (leave x r).1:=by unfold leave;split<;>trivial
theorem cZ(R:Int)(M:Mc)(y:X)(j sh:Nat)(g:Int):RtS T fr key R M y (further j sh g).1:=by unfold further;split<;>trivial
theorem ix{R:Int}{M:Mc}{x:X}(f:Fc)(w:Nat)(v:Int)(l:List Cel):RtS T fr key R M x (entered P x f w v l).1:=by
 unfold entered
 split
 ·trivial
 ·unfold found
  cases f with
  | key =>
   show RtS T fr key R M x (foundK P x (fdOf P x w v l)).1
   unfold foundK
   split
   ·trivial
   ·rename_i h1
    split
    ·split
     ·exact dt _ _ _ _ _
     ·split
      ·exact j4 fun e=>absurd e h1
      ·trivial
    ·split
     ·split
      ·exact j4 fun e=>absurd e h1
      ·trivial
     ·split<;>trivial
  | ev j sh g =>
   dsimp only
   split
   ·exact cZ _ _ _ _ _ _
   ·trivial
theorem xm(R:Int)(M:Mc)(y:X)(lv i:Nat)(up:Bool)(m:List Cel):RtS T fr key R M y (on lv i up m):=by unfold on move;(repeat' split)<;>trivial
theorem vU(hP:OpsOk sm P)(hnow:∀p c t n,(P.allow p c t n).1.now=t){R:Int}{M:Mc}{B:Int}(h:Iw M.W B){x:X}{s:CS}(hs:Cw x M.W s)(hc:Ch sm P x M s)(hf:Fr P x s)(ha:Bd T fr R (max (my key sm M) M.clk))(hb:RtS T fr key R M x s) :
    RtS T fr key R (step P M x s).M (step P M x s).x (step P M x s).s:=by
  cases s with
  | none=>trivial
  | k0 f=>simp only[step];split<;>trivial
  | kE f w=>exact ix f _ _ _
  | kF f lv w=>simp only[step];split<;>trivial
  | kG f lv w v m=>simp only[step];split<;>trivial
  | kH f lv w m =>
    simp only[step];split
    ·trivial
    ·exact ix f _ _ _
  | kL f lv w m=>trivial
  | al f =>
    simp only[step];split
    ·exact dt _ _ _ _ _
    · refine j4 fun _ h0 h1 hw=>?_
      rw[hnow]
      have:=Kd.tat (key:=key) hP h hc hs.1 hw h0 h1
      rw[this];exact ha
  | pk c=>trivial
  | a0 f =>
    simp only[step];split
    ·exact dt _ _ _ _ _
    ·trivial
  | a1 f u =>
    have h2:x.op=2:=hf.1
    simp only[step];split
    ·exact j4 fun e=>by have e:x.op=1:=e;omega
    ·trivial
  | p0 f c r =>
    simp only[step];split
    ·trivial
    ·exact hb
  | p1 f c r u =>
    have h32:=hs.1.2.1
    simp only[step];split
    · intro e h0 h1 hw
      have hw':upd M.W 32 (u+1) f.w=f.v:=hw
      rw[upd_ne _ _ (by omega)]at hw'
      exact hb e h0 h1 hw'
    ·exact hb
  | pS f c r =>
    simp only[step];split
    · show RtS T fr key R _ x (if f.there=true then leave x r else(.none,⟨true,r⟩):CS×Rs).1
      split
      ·exact dt _ _ _ _ _
      ·trivial
    ·trivial
  | b0 n k=>trivial
  | b1 n k u =>
    simp only[step];split
    · cases k with
      | lv r=>trivial
      | ev j sh g=>exact cZ _ _ _ _ _ _
    ·trivial
  | e0=>trivial
  | eC j sh g w v m =>
    simp only[step];split
    ·exact cZ _ _ _ _ _ _
    ·trivial
  | eS j sh g w v m n =>
    simp only[step];split
    ·trivial
    ·exact cZ _ _ _ _ _ _
  | s0 => simp only[step];split
          ·trivial
          ·split<;>trivial
  | sM lv=>simp only[step];split<;>trivial
  | sF lv i=>simp only[step];split<;>trivial
  | sG lv i v m=>simp only[step];split<;>trivial
  | sH lv i up m =>
    simp only[step];split
    ·trivial
    ·exact xm _ _ _ _ _ _ _
  | sL lv i up m=>exact xm _ _ _ _ _ _ _
  | sV lv=>trivial
theorem iH.rts{R:Int}{M M':Mc}(hm:iH M M'){x:X}{s:CS}(hs:Cw x M.W s)(hc:Ch sm P x M s)(h:RtS T fr key R M x s):RtS T fr key R M' x s:=by
 have g:∀{f:Fd} {r:Rpl},mo f→Kd sm P x M f→RtC T fr key R M x f r→RtC T fr key R M' x f r:=fun ho hk hh e h0 h1 hw=>hh e h0 h1 (by
  have h2:=hk.le
  have h3:=hm.le _ ho.2.1
  omega)
 cases s with
 | p0 f c r=>exact g hs.1 hc.1 h
 | p1 f c r u=>exact g hs.1 hc.1 h
 | pS f c r=>exact g hs.1 hc.1 h
 | _=>trivial
theorem v7{R:Int}{M:Mc}{B:Int}(h:Iw M.W B){x0:X}{f0:Fd}(hk0:Kd sm P x0 M f0)(ho0:mo f0)(hw0:M.W f0.w=f0.v)(a0:x0.pol=0)(a1:x0.key=key){M':Mc}(hm:iH M M')(hW:M'.W f0.w=f0.v+1){x:X}{s:CS}(hs:Cw x M.W s)(hc:Ch sm P x M s):RtS T fr key R M' x s:=by
 have g:∀{f:Fd} {r:Rpl},mo f→Kd sm P x M f→RtC T fr key R M' x f r:=fun {f r} ho hk e h0 h1 hw=>by
  exfalso
  have h2:=hk.le
  have h3:=hm.le _ ho.2.1
  have h4:M.W f.w=f.v:=by omega
  have h5:=(hk.own h ho h4).1
  have h6:=(hk0.own h ho0 hw0).1
  rw[h0,h1]at h5
  rw[a0,a1,h5]at h6
  rw[h6,hW]at hw
  rw[h6,hw0]at h2
  omega
 cases s with
 | p0 f c r=>exact g hs.1 hc.1
 | p1 f c r u=>exact g hs.1 hc.1
 | pS f c r=>exact g hs.1 hc.1
 | _=>trivial
structure OpsRt(P:Ops)(T tau:Int):Prop where
 now:∀p c t n,(P.allow p c t n).1.now=t
 put:∀c t n,(P.allow (P.pol 0) c t n).1.g=true→n≠0→0<n∧1≤T∧0≤n*T∧(P.allow (P.pol 0) c t n).2.tat=max c.tat t+n*T∧max c.tat t+n*T≤t+tau+T
 acq:∀p c n,(P.acq p c n).2.tat=c.tat
 rel:∀p c n,(P.rel p c n).2.tat=c.tat
 idle:∀c t,c.pol=0→P.idle c t=true→c.tat≤t
theorem RI.step(hP:OpsOk sm P)(hR:OpsRt P T tau)(hT:1≤T){R:Int}{M:Mc}{S:Nat→Wk}{B:Int}(hA:All sm P M S B)(hB:B+1<FZ)(hF:∀i,Fr P (S i).x (S i).s)(h:RI T tau fr to_ key sm R M S)(i:Nat) :
  RI T tau fr to_ key sm (R+wb fr to_ key M (S i).x (S i).s) (mx P M S i) (nx P M S i):=by
 have hI:=hA.inv
 have he:=gf hP hI.iw ⟨hI.b,hB⟩ (hI.cw i) hA.ih (hA.ch i)
 have hclk:(mx P M S i).clk=M.clk:=step_clk ..
 have own_i:RtS T fr key R (mx P M S i) (nx P M S i i).x (nx P M S i i).s:=by
  unfold nx;rw[upd_same]
  exact vU hP hR.now hI.iw (hI.cw i) (hA.ch i) (hF i) h.a (h.b i)
 have oth:∀j,j≠i→RtS T fr key R (mx P M S i) (nx P M S i j).x (nx P M S i j).s:=fun j hj=>by
  unfold nx;rw[upd_ne _ _ hj]
  exact he.mono.rts (hI.cw j) (hA.ch j) (h.b j)
 have same:R+wb fr to_ key M (S i).x (S i).s=R→Bd T fr R (max (my key sm (mx P M S i)) (mx P M S i).clk)→RI T tau fr to_ key sm (R+wb fr to_ key M (S i).x (S i).s) (mx P M S i) (nx P M S i):=fun e ha=>by
  rw[e]
  refine⟨h.nn,ha,fun j=>?_,h.l⟩
  by_cases hj:j=i
  ·subst hj;exact own_i
  ·exact oth j hj
 cases he.own with
 | calm hd ho hn =>
  refine same ?_ ?_
  ·have:wb fr to_ key M (S i).x (S i).s=0:=by
    cases e:(S i).s with
    | pS f c r=>exact if_neg (hn f c r e)
    | _=>rfl
   omega
  ·rw[hclk]
   have:my key sm (mx P M S i)=my key sm M:=by unfold my;rw[show Core.own sm (mx P M S i) (0::key)=_ from ho _]
   rw[this];exact h.a
 | put f c r e hw h0 ho =>
  have hb:=h.b i
  have hcw:=hI.cw i
  have hch:=hA.ch i
  have hfr:=hF i
  rw[e]at hb hcw hch hfr
  have hk:Kd sm P (S i).x M f:=hch.1
  have hok:mo f:=hcw.1
  have hrt:RtC T fr key R M (S i).x f r:=hb
  have hfc:FrC P (S i).x f c r:=hfr
  have eR:wb fr to_ key M (S i).x (S i).s=bp fr to_ key (S i).x r:=by rw[e];exact if_pos hw
  by_cases hid:(S i).x.pol=0∧(S i).x.key=key
  ·obtain⟨i0,i1⟩:=hid
   have htO:my key sm (mx P M S i)=c.tat:=by
    have:=ho (0::key)
    rw[i0,i1,if_pos rfl]at this
    unfold my
    rw[show Core.own sm (mx P M S i) (0::key)=_ from this]
   have htM:f.cell.tat=my key sm M:=hk.tat hP hI.iw hok hw i0 i1
   by_cases o1:(S i).x.op=1
   ·have hB0:=hrt o1 i0 i1 hw
    have hg:∃t,P.allow (P.pol 0) f.cell t (S i).x.n=(r,c)∧r.g=true∧(S i).x.n≠0:=by
     rcases hfc with⟨_,⟨t,ht⟩,h3,h4⟩|⟨a,_⟩|⟨a,_⟩
     ·rw[i0]at ht;exact⟨t,ht,h3,h4⟩
     ·omega
     ·omega
    obtain⟨t,ht,hg,hn0⟩:=hg
    have hnow:=hR.now (P.pol 0) f.cell t (S i).x.n
    have hput:=hR.put f.cell t (S i).x.n (by rw[ht];exact hg) hn0
    rw[ht]at hnow hput
    obtain⟨p1,p2,p3,p4,p5⟩:=hput
    have p4:c.tat=max f.cell.tat t+(S i).x.n*T:=p4
    have hnow:r.now=t:=hnow
    rw[hnow]at hB0
    by_cases hwin:fr≤t∧t≤to_
    ·have er:bp fr to_ key (S i).x r=(S i).x.n:=if_pos ⟨o1,i0,i1,hg,by omega,by omega,by omega⟩
     rw[eR,er]
     generalize (S i).x.n=n at *
     have hnn:=h.nn
     have g1:fr+T*(R+n)≤max f.cell.tat t+n*T:=by
      rw[Int.mul_add,Int.mul_comm T n]
      rcases hB0 with hB0|hB0
      ·rw[hB0,Int.mul_zero];omega
      ·omega
     have g2:T*(R+n)≤to_-fr+tau+T:=by omega
     have g3:R+n≤(to_-fr+tau+T)/T:=(Int.le_ediv_iff_mul_le (show 0<T by omega)).2 (by rw[Int.mul_comm];exact g2)
     rw[show to_-fr+tau+T=(to_-fr+tau)+1*T by omega,Int.add_mul_ediv_right _ _ (show T≠0 by omega)]at g3
     refine⟨by omega,.inr ?_,fun j=>?_,g3⟩
     ·rw[htO,p4];omega
     ·by_cases hj:j=i
      ·subst hj
       unfold nx;rw[upd_same,e]
       simp only[Core.step,if_pos hw]
       show RtS T fr key _ _ (S j).x (if f.there=true then leave (S j).x r else(.none,⟨true,r⟩):CS×Rs).1
       split
       ·exact dt _ _ _ _ _
       ·trivial
      ·unfold nx;rw[upd_ne _ _ hj]
       refine v7 hI.iw hk hok hw i0 i1 he.mono ?_ (hI.cw j) (hA.ch j)
       rw[e]
       simp only[Core.step,if_pos hw]
       exact upd_same ..
    ·refine same ?_ ?_
     ·rw[eR]
      have:bp fr to_ key (S i).x r=0:=if_neg fun z=>hwin (by have:=z.2.2.2.2.1;have:=z.2.2.2.2.2.1;omega)
      omega
     ·rw[htO,p4];exact hB0.mono (by omega)
   ·refine same (by rw[eR,el o1];omega) ?_
    have:c.tat=f.cell.tat:=by
     rcases hfc with⟨a,_⟩|⟨_,_,a,_⟩|⟨_,a,_⟩
     ·exact absurd a o1
     ·have:=hR.acq (P.pol (S i).x.pol) f.cell (S i).x.ser;rw[a]at this;exact this
     ·have:=hR.rel (P.pol (S i).x.pol) f.cell (S i).x.n;rw[a]at this;exact this
    rw[htO,hclk,this,htM];exact h.a
  ·refine same ?_ ?_
   ·rw[eR]
    have:bp fr to_ key (S i).x r=0:=if_neg fun z=>hid ⟨z.2.1,z.2.2.1⟩
    omega
   ·rw[hclk]
    have:my key sm (mx P M S i)=my key sm M:=by
     unfold my
     rw[show Core.own sm (mx P M S i) (0::key)=_ from ho _,if_neg fun z=>hid (by have:=List.cons.inj z;exact⟨this.1.symm,this.2.symm⟩)]
    rw[this];exact h.a
 | evict j sh g w v m n e hw t ht hm hn ho =>
  refine same (by rw[e];show R+0=R;omega) ?_
  rw[hclk]
  have h1:=ho (0::key)
  have ha:=h.a
  unfold my at ha⊢
  rw[show Core.own sm (mx P M S i) (0::key)=_ from h1]
  by_cases e1:aZ M.W (sm (0::key))=w
  ·have hcw:=hI.cw i
   rw[e]at hcw
   have hs:Srt (M.Hd w):=hA.ih.word ⟨hcw.2.2.1,hcw.2.2.2.1⟩
   have ho0:Core.own sm M (0::key)=look (M.Hd w) (0::key):=by unfold Core.own;rw[e1]
   rw[if_pos e1,hm]
   unfold fY
   rw[m9 hs]
   rw[ho0]at ha
   cases hl:look (M.Hd w) (0::key)with
   | none=>rw[hl]at ha;exact ha
   | some c =>
    rw[hl]at ha
    have hid:=(bG hl).2
    have hpol:c.pol=0:=by simp only[idn,List.cons.injEq]at hid;exact hid.1
    cases hi:P.idle c t with
    | true =>
     have:=hR.idle c t hpol hi
     simp only[Option.filter,hi]
     exact Bd.mono ha (by simp only;omega)
    | false =>
     simp only[Option.filter,hi]
     exact ha
  ·rw[if_neg e1];exact ha
theorem RI.start{R:Int}{M:Mc}{S:Nat→Wk}(h:RI T tau fr to_ key sm R M S)(i:Nat)(x:X):RI T tau fr to_ key sm R M (upd S i ⟨x,first x⟩):=by
 refine⟨h.nn,h.a,fun j=>?_,h.l⟩
 by_cases e:j=i
 ·subst e
  rw[upd_same]
  show RtS T fr key R M x (first x)
  unfold first;(repeat' split)<;>trivial
 ·rw[upd_ne _ _ e];exact h.b j
theorem RI.zero(hft:fr≤to_)(h0:0≤tau)(hT:1≤T)(M:Mc):RI T tau fr to_ key sm 0 M (fun _=>⟨default,.none⟩) :=
 ⟨Int.le_refl _,.inl rfl,fun _=>trivial,by have:=Int.ediv_nonneg (show 0≤to_-fr+tau by omega) (show 0≤T by omega);omega⟩
structure RW(T tau fr to_:Int)(key:List Int)(sm:List Int→Int)(n:Nat)(L:Int)(M:Mc)(S:Nat→Wk):Prop where
 ri:RI T tau fr to_ key sm (L+sumI n fun i=>aY fr to_ key (S i).x (S i).s) M S
theorem RW.le{n:Nat}{L:Int}{M:Mc}{S:Nat→Wk}(h:RW T tau fr to_ key sm n L M S):L≤(to_-fr+tau)/T+1:=by
 have h1:=h.ri.l
 have h2:=jR (f:=fun i=>aY fr to_ key (S i).x (S i).s) (n:=n) fun j _=>wd _ _
 omega
theorem RW.step(hP:OpsOk sm P)(hR:OpsRt P T tau)(hT:1≤T){n:Nat}{L:Int}{M:Mc}{S:Nat→Wk}{B:Int}(hA:All sm P M S B)(hB:B+1<FZ)(hF:∀i,Fr P (S i).x (S i).s)(h:RW T tau fr to_ key sm n L M S){i:Nat}(hi:i<n) :
  RW T tau fr to_ key sm n (L+iM fr to_ key (Core.step P M (S i).x (S i).s).x (Core.step P M (S i).x (S i).s).r) (mx P M S i) (nx P M S i):=by
 refine⟨?_⟩
 have h1:=h.ri.step hP hR hT hA hB hF i
 have h2:=qd (P:=P) (fr:=fr) (to_:=to_) (key:=key) (M:=M) (hF i)
 have h3:=cM (f:=fun j=>aY fr to_ key (S j).x (S j).s) (g:=fun j=>aY fr to_ key (nx P M S i j).x (nx P M S i j).s) (i:=i) (n:=n) hi fun j _ hne=>by
  show aY fr to_ key (nx P M S i j).x (nx P M S i j).s=_
  unfold nx;rw[upd_ne _ _ hne]
 have h4:aY fr to_ key (nx P M S i i).x (nx P M S i i).s=aY fr to_ key (Core.step P M (S i).x (S i).s).x (Core.step P M (S i).x (S i).s).s:=by unfold nx;rw[upd_same]
 have e:L+iM fr to_ key (Core.step P M (S i).x (S i).s).x (Core.step P M (S i).x (S i).s).r+sumI n (fun j=>aY fr to_ key (nx P M S i j).x (nx P M S i j).s)=L+sumI n (fun j=>aY fr to_ key (S j).x (S j).s)+wb fr to_ key M (S i).x (S i).s:=by
  rw[h4]at h3
  omega
 rw[e];exact h1
theorem RW.start{n:Nat}{L:Int}{M:Mc}{S:Nat→Wk}(h:RW T tau fr to_ key sm n L M S){i:Nat}(hi:i<n)(hn:(S i).s=.none)(x:X):RW T tau fr to_ key sm n L M (upd S i ⟨x,first x⟩):=by
 refine⟨?_⟩
 have h1:=h.ri.start i x
 have h3:=cM (f:=fun j=>aY fr to_ key (S j).x (S j).s) (g:=fun j=>aY fr to_ key (upd S i ⟨x,first x⟩ j).x (upd S i ⟨x,first x⟩ j).s) (i:=i) (n:=n) hi fun j _ hne=>by
  show aY fr to_ key (upd S i ⟨x,first x⟩ j).x (upd S i ⟨x,first x⟩ j).s=_
  rw[upd_ne _ _ hne]
 have h4:aY fr to_ key (upd S i ⟨x,first x⟩ i).x (upd S i ⟨x,first x⟩ i).s=0:=by
  rw[upd_same]
  show aY fr to_ key x (first x)=0
  unfold first;(repeat' split)<;>rfl
 have h5:aY fr to_ key (S i).x (S i).s=0:=by rw[hn];rfl
 rw[h4,h5]at h3
 rw[h3]
 rw[show L+(sumI n (fun j=>aY fr to_ key (S j).x (S j).s)+0-0)=L+sumI n (fun j=>aY fr to_ key (S j).x (S j).s)by omega]
 exact h1
theorem RW.zero(hft:fr≤to_)(h0:0≤tau)(hT:1≤T)(n:Nat)(M:Mc):RW T tau fr to_ key sm n 0 M (fun _=>⟨default,.none⟩):=by
 refine⟨?_⟩
 show RI T tau fr to_ key sm (0+sumI n fun _=>0) M _
 rw[sumI_zero]
 exact RI.zero hft h0 hT M
end Core
end
end Go.Proofs.YtgkpjebgcfjfnaaGreat
