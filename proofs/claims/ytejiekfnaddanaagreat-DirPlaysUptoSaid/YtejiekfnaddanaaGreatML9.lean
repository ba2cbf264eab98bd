/- Lemmas of De2, Sx26, Sort, Dr24, Dq5, Rd1, Dr25, Rd2, Dq6, De0. No condition. -/
import Derived.Test.YtejiekfnaddanaaGreatML8
import Derived.Shelf.SlSortCmp.WholeK
import Derived.Shelf.SlSortCmp.NoneTotal
import Derived.Ground.SlsfProg
import Derived.Test.YtejiekfnaddanaaGreatProg
import Derived.Test.YtejiekfnaddanaaGreatRows
import Derived.WalkKit
import Derived.WalkSpells
import Derived.WalkLawsBesides
import Derived.IntWalk
import Derived.BigQuiet
import Derived.Deep.QuietTactic
import Derived.StillTailTactics
import Derived.Deep.RegionWith
import Derived.Deep.RegionHeld3
import Derived.Lib.Hide
set_option linter.unusedVariables false
set_option linter.unusedSimpArgs false
set_option linter.unusedSectionVars false
set_option maxHeartbeats 80000000
set_option maxRecDepth 100000
namespace Go.Proofs.YtejiekfnaddanaaGreat
open Go.RowKit
@[reducible] def machD(W:Nat→Int):D:=.ref [.sl 1 32 fun i=>aA .u64 (W i)] 0
@[reducible] def ot(M:Dir.Mc):D:=.ref [machD M.W,.sl 1 32 fun i=>[al 2 aq (M.Hd i)]] 0
@[reducible] def dq(M:Dir.Mc):D:=.ref [ot M,.fn (.func 25) []] 0
@[reducible] def n9(b:Nat)(M:Dir.Mc):D:=.ref [.low b (dq M)] 0
theorem bW(M:Dir.Mc)(word:Nat)(hw:word<32) :
  Pure TC 77 [.d (ot M),.i .i64 word] (.tup [.i .u64 (M.W word),.d (al 2 aq (M.Hd word))]):=by
 refine Pure.mk' Tryz.func77 rfl rfl zN ?_
 (repeat' (first|((first|refine Wp.any ab rfl ?_|(with_reducible first|refine Go.mk ?_|apply am.of)|refine zV ?_|with_reducible refine And.intro zC ?_);conv=>whnf)|(with_reducible refine aa.inline Tryz.func102 rfl rfl rfl (zzb rfl) ?_)|(with_reducible refine aa.inline Tryz.func115 rfl rfl rfl (zzb rfl) ?_)|((with_reducible refine aa.pure (cr _ _ _) rfl rfl ?_);conv=>whnf)|((refine au (fun hc=>?_) (fun hc=>?_))<;>(try simp only[wz9]at hc)<;>(try (exfalso;omega))<;>(conv=>whnf))))
 simp only[Q13]
 exact .rfl _
theorem fR(M:Dir.Mc)(h0:0≤M.W 0)(h8:M.W 0≤8) :
  Pure TC 42 [.d (dq M)] (.tup [.i .i64 (Dir.lvl M),.b (decide (M.W 0%2=1))]):=by
 have qr:(M.W 0).tmod 2=M.W 0%2:=Q6 h0
 have ql:M.W 0/2=(Dir.lvl M:Int):=by unfold Dir.lvl;omega
 refine Pure.mk' Tryz.func42 rfl rfl zN ?_
 (repeat' (first|((first|refine Wp.any ab rfl ?_|(with_reducible first|refine Go.mk ?_|apply am.of|refine Ov.ok zO ?_|refine And.intro zC ?_|refine aa.pure (bW M 0 (by decide)) rfl rfl ?_));conv=>whnf)|(with_reducible refine Ov.tdivN (by omega) ?_)))
 rw[qr,ql]
 exact .rfl _
theorem l5(M:Dir.Mc)(h0:0≤M.W 0)(h8:M.W 0≤8)(he:M.W 0%2=0) :
  Pure TC 44 [.d (dq M)] (.d (al 1 eO (Dir.allL M))):=by
 have hL:=fR M h0 h8
 rw[decide_eq_false (by omega)]at hL
 have hlv:Dir.lvl M≤4:=by unfold Dir.lvl;omega
 have hp4:2^Dir.lvl M≤2^4:=Q16 (by omega) hlv
 have hsh:=bQ hlv
 have e2:((2^Dir.lvl M:Nat):Int)=2^Dir.lvl M:=by simp
 refine Pure.mk' Tryz.func44 rfl rfl zN ?_
 (repeat' (first|((first|refine Wp.any ab rfl ?_|(with_reducible first|refine Go.mk ?_|apply am.of|refine And.intro zC ?_|refine aa.pure (hL) rfl rfl ?_));conv=>whnf)))
 refine Wp.le (Le.virt 3 65 1 (fun i=>eO (([]:List (List Dir.Ent)).getD i default)) (by decide) rfl) ?_
 refine Wp.loopP (ι:=Nat) (fun i=>i≤2^Dir.lvl M) (fun i=>⟨⟨Tryz.f44.ntmps,0⟩,1,[(0,.d (dq M)),(3,.sl 0 1 0 ((List.range i).flatMap (Dir.partL M)).length),(4,.i .i64 (Dir.lvl M)),(5,.b false),(19,.i .i64 (2^Dir.lvl M)),(20,.i .i64 i)],
  [(0,some (aI 65 1 eO ((List.range i).flatMap (Dir.partL M))))]⟩) (fun i=>2^Dir.lvl M-i) 0 (Nat.zero_le _) ?_ ?_
 ·(refine Le.by [0] rfl rfl rfl rfl ?_ ?_<;>(conv=>whnf)<;>(repeat' (first|exact trivial|exact ac.rfl rfl|exact ac.sl rfl|exact⟨rfl,rfl,rfl⟩|exact fun i hi=>rfl|((with_reducible refine And.intro ?_ ?_)<;>(conv=>whnf)))))
  rw[hsh];exact ac.rfl rfl
 ·rintro i h1
  have hpl:=Dir.plc_32 hlv (i:Int)
  have hfl:=bh M i
  (repeat' (first|((first|refine Wp.any ab rfl ?_|(with_reducible first|refine Go.mk ?_|apply am.of|refine Ov.ok zO ?_)|refine zV ?_|with_reducible refine And.intro zC ?_);conv=>whnf)|((with_reducible refine And.intro ?hb ?_);(case hb=>exact zz1);(conv=>whnf))|((with_reducible first|refine ai.pure (bc _ hlv _) rfl rfl ?_|refine ai.pure (bW M (Dir.plc (Dir.lvl M) (i:Int)) hpl.2) rfl rfl ?_);conv=>whnf)|((refine au (fun hc=>?_) (fun hc=>?_))<;>(try simp only[wz9]at hc)<;>(try (exfalso;omega))<;>(conv=>whnf))))
  ·have hi:i<2^Dir.lvl M:=by omega
   have hw:Dir.plc (Dir.lvl M) (i:Int)=2^Dir.lvl M+i:=by rw[aW (by omega) (by omega)];rfl
   have hpt:Dir.partL M i=[M.Hd (Dir.plc (Dir.lvl M) (i:Int))]:=by unfold Dir.partL;rw[if_pos (.inl he),hw]
   refine⟨i+1,by dsimp only;omega,by dsimp only;omega,?_⟩
   dsimp only
   rw[ca,hpt]
   (refine Le.by [16] rfl rfl rfl rfl ?_ ?_<;>(conv=>whnf)<;>(repeat' (first|exact trivial|exact ac.rfl rfl|((with_reducible refine And.intro ?_ ?_)<;>(conv=>whnf)))))
   ·rw[Q9];exact ac.sl rfl
   ·rfl
   ·simp
   ·exact d9 _ _
  ·obtain rfl:i=2^Dir.lvl M:=by omega
   rw[show Dir.allL M=(List.range (2^Dir.lvl M)).flatMap (Dir.partL M)from rfl]
   exact SV.Le.sl fun j hj=>by simp only[Q19]
theorem l4(M:Dir.Mc)(h0:0≤M.W 0)(h8:M.W 0≤8)(hH:∀w,(M.Hd w).length≤16777216)(he:M.W 0%2=1) :
  Pure TC 44 [.d (dq M)] (.d (al 1 eO (Dir.allL M))):=by
 have hL:=fR M h0 h8
 rw[decide_eq_true he]at hL
 have hlv:Dir.lvl M≤3:=by unfold Dir.lvl;omega
 have hp4:2^Dir.lvl M≤2^3:=Q16 (by omega) hlv
 have hsh:=bQ (lv:=Dir.lvl M) (by omega)
 have e2:((2^Dir.lvl M:Nat):Int)=2^Dir.lvl M:=by simp
 refine Pure.mk' Tryz.func44 rfl rfl zN ?_
 (repeat' (first|((first|refine Wp.any ab rfl ?_|(with_reducible first|refine Go.mk ?_|apply am.of|refine And.intro zC ?_|refine aa.pure (hL) rfl rfl ?_));conv=>whnf)))
 refine Wp.le (Le.virt 3 65 1 (fun i=>eO (([]:List (List Dir.Ent)).getD i default)) (by decide) rfl) ?_
 refine Wp.loopP (ι:=Nat) (fun i=>i≤2^Dir.lvl M) (fun i=>⟨⟨Tryz.f44.ntmps,0⟩,1,[(0,.d (dq M)),(3,.sl 0 1 0 ((List.range i).flatMap (Dir.partL M)).length),(4,.i .i64 (Dir.lvl M)),(5,.b true),(19,.i .i64 (2^Dir.lvl M)),(20,.i .i64 i)],
  [(0,some (aI 65 1 eO ((List.range i).flatMap (Dir.partL M))))]⟩) (fun i=>2^Dir.lvl M-i) 0 (Nat.zero_le _) ?_ ?_
 ·(refine Le.by [0] rfl rfl rfl rfl ?_ ?_<;>(conv=>whnf)<;>(repeat' (first|exact trivial|exact ac.rfl rfl|exact ac.sl rfl|exact⟨rfl,rfl,rfl⟩|exact fun i hi=>rfl|((with_reducible refine And.intro ?_ ?_)<;>(conv=>whnf)))))
  rw[hsh];exact ac.rfl rfl
 ·rintro i h1
  have hpl:=Dir.plc_32 (by omega:Dir.lvl M≤4) (i:Int)
  have hq1:=Dir.plc_32 (by omega:Dir.lvl M+1≤4) (i:Int)
  have hq2:=Dir.plc_32 (by omega:Dir.lvl M+1≤4) ((i:Int)+IntKind.i64.wrap (1*2^min ((Dir.lvl M:Nat):Int).toNat IntKind.i64.bits))
  have hfl:=bh M i
  have hHp:=hH (Dir.plc (Dir.lvl M) (i:Int))
  have hcut:Pure TC 25 [.d (al 2 aq (M.Hd (Dir.plc (Dir.lvl M) (i:Int)))),.i .i64 ((Dir.lvl M:Int)+1),.i .i64 (i:Int)] (.d (al 2 aq (bM (M.Hd (Dir.plc (Dir.lvl M) (i:Int))) (Dir.lvl M+1) i))):=gi _ (Dir.lvl M+1) i (by omega) hHp
  have hcut2:Pure TC 25 [.d (al 2 aq (M.Hd (Dir.plc (Dir.lvl M) (i:Int)))),.i .i64 ((Dir.lvl M:Int)+1),.i .i64 ((i:Int)+IntKind.i64.wrap (1*2^min ((Dir.lvl M:Nat):Int).toNat IntKind.i64.bits))] (.d (al 2 aq (bM (M.Hd (Dir.plc (Dir.lvl M) (i:Int))) (Dir.lvl M+1) (i+2^Dir.lvl M)))):=by
   have:=gi (M.Hd (Dir.plc (Dir.lvl M) (i:Int))) (Dir.lvl M+1) (i+2^Dir.lvl M) (by omega) hHp
   rw[hsh]
   rwa [show(((i+2^Dir.lvl M:Nat):Nat):Int)=(i:Int)+2^Dir.lvl M by rw[Int.natCast_add,e2]]at this
  (repeat' (first|((first|refine Wp.any ab rfl ?_|(with_reducible first|refine Go.mk ?_|apply am.of|refine Ov.ok zO ?_)|refine zV ?_|with_reducible refine And.intro zC ?_);conv=>whnf)|((with_reducible refine And.intro ?hb ?_);(case hb=>exact zz1);(conv=>whnf))|((with_reducible first|refine ai.pure (bc _ (by omega:Dir.lvl M≤4) _) rfl rfl ?_|refine ai.pure (dC _ hlv _) rfl rfl ?_|refine aa.pure (hcut) rfl rfl ?_|refine aa.pure (hcut2) rfl rfl ?_|refine ai.pure (bW M (Dir.plc (Dir.lvl M) (i:Int)) hpl.2) rfl rfl ?_|refine ai.pure (bW M (Dir.plc (Dir.lvl M+1) (i:Int)) hq1.2) rfl rfl ?_|refine ai.pure (bW M (Dir.plc (Dir.lvl M+1) ((i:Int)+IntKind.i64.wrap (1*2^min ((Dir.lvl M:Nat):Int).toNat IntKind.i64.bits))) hq2.2) rfl rfl ?_|refine Wp.loopN 4 ?_);conv=>whnf)|((refine au (fun hc=>?_) (fun hc=>?_))<;>(try simp only[wz9]at hc)<;>(try (exfalso;omega))<;>(conv=>whnf))))
  rotate_right
  ·obtain rfl:i=2^Dir.lvl M:=by omega
   rw[show Dir.allL M=(List.range (2^Dir.lvl M)).flatMap (Dir.partL M)from rfl]
   exact SV.Le.sl fun j hj=>by simp only[Q19]
  all_goals
   have hi:i<2^Dir.lvl M:=by omega
   have hpp:2^(Dir.lvl M+1)=2^Dir.lvl M*2:=Nat.pow_succ 2 _
   have hpi:(2:Int)^(Dir.lvl M+1)=2^Dir.lvl M*2:=Int.pow_succ 2 _
   have hw:Dir.plc (Dir.lvl M) (i:Int)=2^Dir.lvl M+i:=by rw[aW (by omega) (by omega)];rfl
   have hw1:Dir.plc (Dir.lvl M+1) (i:Int)=2^(Dir.lvl M+1)+i:=by rw[aW (by omega) (by omega)];rfl
   have hw2:Dir.plc (Dir.lvl M+1) ((i:Int)+IntKind.i64.wrap (1*2^min ((Dir.lvl M:Nat):Int).toNat IntKind.i64.bits))=2^(Dir.lvl M+1)+(i+2^Dir.lvl M):=by rw[hsh,aW (by omega) (by omega)];omega
   have hpt:Dir.partL M i=if M.W (Dir.plc (Dir.lvl M) (i:Int))<4611686018427387904 then[M.Hd (Dir.plc (Dir.lvl M) (i:Int))]else[if M.W (Dir.plc (Dir.lvl M+1) (i:Int))=0 then bM (M.Hd (Dir.plc (Dir.lvl M) (i:Int))) (Dir.lvl M+1) i else M.Hd (Dir.plc (Dir.lvl M+1) (i:Int)),
    if M.W (Dir.plc (Dir.lvl M+1) ((i:Int)+IntKind.i64.wrap (1*2^min ((Dir.lvl M:Nat):Int).toNat IntKind.i64.bits)))=0 then bM (M.Hd (Dir.plc (Dir.lvl M) (i:Int))) (Dir.lvl M+1) (i+2^Dir.lvl M)else M.Hd (Dir.plc (Dir.lvl M+1) ((i:Int)+IntKind.i64.wrap (1*2^min ((Dir.lvl M:Nat):Int).toNat IntKind.i64.bits)))]:=by
    unfold Dir.partL Dir.nxt
    rw[hw,hw1,hw2]
    by_cases hq:M.W (2^Dir.lvl M+i)<4611686018427387904
    ·rw[if_pos hq,if_pos (.inr hq)]
    ·rw[if_neg hq,if_neg (by intro h;rcases h with h|h;omega;exact hq h)]
   refine⟨i+1,by dsimp only;omega,by dsimp only;omega,?_⟩
   dsimp only
   rw[ca,hpt]
  ·rw[if_pos (by assumption)]
   (refine Le.by [16] rfl rfl rfl rfl ?_ ?_<;>(conv=>whnf)<;>(repeat' (first|exact trivial|exact ac.rfl rfl|((with_reducible refine And.intro ?_ ?_)<;>(conv=>whnf)))))
   ·rw[Q9];exact ac.sl rfl
   ·rfl
   ·simp
   ·exact d9 _ _
  all_goals
   rw[if_neg (by assumption)]
   first
    | rw[if_pos (by assumption),if_pos (by assumption)]
    | rw[if_pos (by assumption),if_neg (by assumption)]
    | rw[if_neg (by assumption),if_pos (by assumption)]
    | rw[if_neg (by assumption),if_neg (by assumption)]
   (refine Le.by [49] rfl rfl rfl rfl ?_ ?_<;>(conv=>whnf)<;>(repeat' (first|exact trivial|exact ac.rfl rfl|((with_reducible refine And.intro ?_ ?_)<;>(conv=>whnf)))))
   ·rw[Q9];exact ac.sl rfl
   ·rfl
   ·simp
   ·exact jI _ _ _
theorem nz(M:Dir.Mc)(h0:0≤M.W 0)(h8:M.W 0≤8)(hH:∀w,(M.Hd w).length≤16777216):Pure TC 44 [.d (dq M)] (.d (al 1 eO (Dir.allL M))):=by
 by_cases he:M.W 0%2=0
 ·exact l5 M h0 h8 he
 ·exact l4 M h0 h8 hH (by omega)
section
open Go.RowKit Go.Shelf Go.Sort
def Tl(w:World)(Im:Nat→Prop)(ds:List D)(vs:List Value):Prop :=
 vs.length=ds.length∧(∀u∈vs,u.oneCell'=true)∧∀j (hj:j<ds.length),∃u,vs[j]?=some u∧RD w Im ds[j] u
theorem Tl.mono{w w':World}{Im:Nat→Prop}{ds:List D}{vs:List Value}(h:Tl w Im ds vs)(hw:∀b,Im b→w'.heap[b]?=w.heap[b]?):Tl w' Im ds vs :=
 ⟨h.1,h.2.1,fun j hj=>let⟨u,h1,h2⟩:=h.2.2 j hj;⟨u,h1,h2.mono (fun _ h=>h) hw⟩⟩
section
variable{α:Type}[Inhabited α](enc:α→List Value)(k:Nat)(w:World)(blk m:Nat)(d:Array α)(os:Array Obj)
theorem fv(b:Nat)(hb:b≠blk)(hlt:b<w.heap.size):(sortWorldK enc k w blk 0 m d os).heap[b]?=w.heap[b]?:=by
 show((w.heap.modify blk _)++os)[b]?=_
 rw[Array.getElem?_append_left (by simpa using hlt),Array.getElem?_modify,if_neg (fun e=>hb e.symm)]
theorem mN{cur:Array Value}{e:TypeId}(hg:w.heap[blk]?=some (.cells cur e (0,0))):(sortWorldK enc k w blk 0 m d os).heap[blk]?=some (.cells (putCells id 0 (flatK enc k d) cur) e (0,0)):=by
 have hlt:=(Q17 hg).1
 show((w.heap.modify blk _)++os)[blk]?=_
 rw[Array.getElem?_append_left (by simpa using hlt),Array.getElem?_modify,if_pos rfl,hg];rfl
theorem ei:w.heap.size≤(sortWorldK enc k w blk 0 m d os).heap.size:=by
 show _≤((w.heap.modify blk _)++os).size
 simp
end
theorem rU(F cur:Array Value)(j:Nat)(hj:j<F.size)(hc:F.size≤cur.size):(putCells id 0 F cur).getD j undef=F[j]!:=by
 have h1:j<(putCells id 0 F cur).size:=by simp[putCells];omega
 rw[Q7,Array.getElem?_eq_getElem h1,Option.getD_some]
 simp[putCells,hj]
theorem mO{C:Cx}{g gc e z:Nat}{α:Type}[Inhabited α]{enc:α→List D}(hz:0<z)(ent:cm C.P g)(henc:∀x,(enc x).length=z)(p:α→Prop)(ord:α→α→Int)(dflt:α)(hdp:p dflt)(dv:List Value)(hdv:∀w Im,Tl w Im (enc dflt) dv)
  (irr:∀a,¬ord a a<0) (tr:∀a b c,ord a b<0→ord b c<0→ord a c<0) (ntr:∀a b c,¬ord a b<0→¬ord b c<0→¬ord a c<0)
  (hcmp:∀(W:World) (Im:Nat→Prop) (x y:α) (vx vy:List Value),(∀b,Im b→b<W.heap.size)→p x→p y→Tl W Im (enc x) vx→Tl W Im (enc y) vy→Calls C.P gc #[.agg vx.toArray,.agg vy.toArray] W fun e' w'=>e'=.returned (.int .i64 (ord x y))∧∃q os,w'=grow (W.drewN q) os)
  (hsort:∀(T:Type) [Inhabited T] (en:T→List Value) (_:∀x,(en x).length=z) (_:∀x,∀v∈en x,v.oneCell'=true) (cf:T→T→Int) (_:SWO (ltOf cf)) (blk cap:Nat) (d:Array T) (w:World),CmpLays C.P gc #[] en z cf blk 0 d.size w→HoldsK en z w blk 0 d→blk<w.heap.size→d.size<4611686018427387904 →
   Calls C.P g #[.slice (some ⟨blk,0,none⟩) d.size cap,.func (.func gc) #[] #[]] w fun e' w'=>e'=.returned (.tuple #[])∧∃d' n os,PermIn 0 d.size d d'∧SortedIn (ltOf cf) 0 d.size d'∧w'=sortWorldK en z w blk 0 n d' os)
  (xs zs:List α) (hp:∀x∈xs,p x) (hx0:0<xs.length) (hx1:xs.length<4611686018427387904) (hlz:zs.length=xs.length)
  (huniq:∀ys:List α,ys.Perm xs→ys.Pairwise (fun a b=>¬ord b a<0)→ys=zs) :
  Fun C g 1 [.sl 0 z 0 xs.length,.d (.fn (.func gc) [])] [(0,some (aI e z enc xs))] 1 (.tup []) [(0,some (aI e z enc zs))]:=by
 refine⟨ent,Q4 _,fun E w vs hS hsz hargs=>?_⟩
 have a0:=hargs 0 (by simp)
 have a1:=hargs 1 (by simp)
 have hvs:vs=#[vs.getD 0 undef,vs.getD 1 undef]:=gU (n:=2) (by simpa using hsz)
 obtain⟨cap,cur,e0,hc0,hκ,g1,g2,g3,g4,g5,g6,g7⟩:=hS.toOwn (l:=0) rfl a0 hx0
 have e1:vs.getD 1 undef=.func (.func gc) #[] #[]:=by
  generalize vs.getD 1 undef=x at a1
  cases a1 with
  | d _ _ h=>cases h with|fn _ _ us hs hg=>simp at hs;simp[hs]
 rw[e0,e1]at hvs
 subst hvs
 have hrl:Blk.real (E.κ 0) (aI e z enc xs):=show 0<E.κ 0 by omega
 have hIm:∀b,E.Im b→b≠E.ρ 0∧b<w.heap.size:=fun b hb=>⟨fun e=>(hS.im b hb).2 0 _ rfl hrl e.symm,(hS.im b hb).1⟩
 have hblk:=(Q17 g1).1
 have hmul:xs.length*z≤cap*z:=Q8 _ g2
 let G:=cur.toList.take (xs.length*z)
 have hchunk:∀i,i<xs.length→Tl w E.Im (enc (xs.getD i default)) ((G.drop (i*z)).take z):=fun i hi=>by
  have hiz:(i+1)*z≤xs.length*z:=Q8 _ hi
  rw[Q18]at hiz
  refine⟨?_,fun u hu=>g6 u (List.mem_of_mem_drop (List.mem_of_mem_take hu)),fun j hj=>?_⟩
  ·rw[Q10,List.length_drop,henc]
   have:G.length=xs.length*z:=g5
   omega
  ·have hjz:j<z:=by rw[← henc (xs.getD i default)];exact hj
   obtain⟨u,h1,h2⟩:=g7 i j hi hj
   exact⟨u,by rw[Q15,if_pos hjz,List.getElem?_drop];exact h1,h2⟩
 let T:={q:α×List Value // p q.1∧Tl w E.Im (enc q.1) q.2}
 let iT:Inhabited T:=⟨⟨(dflt,dv),hdp,hdv _ _⟩⟩
 have hxp:∀i,i<xs.length→p (xs.getD i default):=fun i hi=>by
  rw[Q1,Q0 hi];exact hp _ (Q14 hi)
 let d:Array T:=Array.ofFn fun i:Fin xs.length=>⟨(xs.getD i default,(G.drop (i*z)).take z),hxp i i.2,hchunk i i.2⟩
 have hds:d.size=xs.length:=by simp[d]
 have hdg:∀i (hi:i<xs.length),d[i]! = ⟨(xs.getD i default,(G.drop (i*z)).take z),hxp i hi,hchunk i hi⟩:=fun i hi=>by
  rw[getElem!_pos d i (by omega)]
  show(Array.ofFn _)[i]=_
  rw[Array.getElem_ofFn]
 let en:T→List Value:=fun q=>q.1.2
 have hk:∀x:T,(en x).length=z:=fun x=>by rw[x.2.2.1,henc]
 have hH:HoldsK en z w (E.ρ 0) 0 d:=fun j hj=>by
  have hj:j<xs.length*z:=by simpa[hds]using hj
  have hq:j/z<xs.length:=Nat.div_lt_of_lt_mul (by rw[Nat.mul_comm];exact hj)
  have hr:j%z<z:=Nat.mod_lt _ hz
  have hdm:j/z*z+j%z=j:=by rw[Nat.mul_comm];exact Nat.div_add_mod j z
  have hv:(flatK en z d)[j]! = cur.getD j undef:=by
   rw[get_flatK en z d j (by rw[hds];exact hj),hdg _ hq]
   show((G.drop (j/z*z)).take z)[j%z]! = _
   have h1:((G.drop (j/z*z)).take z)[j%z]?=some (cur.getD j undef):=by
    rw[Q15,if_pos hr,List.getElem?_drop,hdm]
    show(cur.toList.take _)[j]?=_
    rw[Q15,if_pos hj,Array.getElem?_toList,Q7,Array.getElem?_eq_getElem (by omega:j<cur.size)];rfl
   rw[List.getElem!_eq_getElem?_getD,h1];rfl
  rw[hv,Q19]
  refine⟨?_,?_⟩
  ·simp only[World.cell?,g1]
   rw[Q7,Array.getElem?_eq_getElem (by omega:j<cur.size)]
   rfl
  ·simp only[World.frozen?,g1]
   simp
 have hcl:CmpLays C.P gc #[] en z (fun x y:T=>ord x.1.1 y.1.1) (E.ρ 0) 0 d.size w:=fun m os dk _ x y=>by
  have hw:∀b,E.Im b→(sortWorldK en z w (E.ρ 0) 0 m dk os).heap[b]?=w.heap[b]?:=fun b hb=>fv en z w _ m dk os b (hIm b hb).1 (hIm b hb).2
  exact hcmp _ E.Im _ _ _ _ (fun b hb=>Nat.lt_of_lt_of_le (hIm b hb).2 (ei en z w _ m dk os)) x.2.1 y.2.1 (x.2.2.mono hw) (y.2.2.mono hw)
 have hO:SWO (ltOf fun x y:T=>ord x.1.1 y.1.1) :=
  ⟨fun x=>by simp only[ltOf,decide_eq_false_iff_not];exact irr _,fun x y q h1 h2=>by simp only[ltOf,decide_eq_true_eq]at h1 h2⊢;exact tr _ _ _ h1 h2,
   fun x y q h1 h2=>by simp only[ltOf,decide_eq_false_iff_not]at h1 h2⊢;exact ntr _ _ _ h1 h2⟩
 have hcon:=hsort T en hk (fun x=>x.2.2.2.1) _ hO (E.ρ 0) cap d w hcl hH hblk (by omega)
 rw[hds]at hcon
 refine hcon.mono ?_
 rintro e' w' ⟨rfl,d',n,os,⟨q1,_,q3⟩,q4,rfl⟩
 have hd's:d'.size=xs.length:=by omega
 have hall:∀a:Array T,a.size=xs.length→a.extract 0 xs.length=a:=fun a ha=>by rw[← ha];simp
 rw[hall d' hd's,hall d hds]at q3
 have hdx:d.toList.map (fun q=>q.1.1)=xs:=by
  apply List.ext_getElem (by simpa using hds)
  intro i h1 h2
  simp[d]
 have hys:=huniq (d'.toList.map fun q=>q.1.1) (by have:=q3.map (fun q:T=>q.1.1);rwa [hdx]at this) (by
  rw[List.pairwise_map]
  refine List.pairwise_iff_getElem.2 fun i j hi hj hij=>?_
  have hj':j<d'.size:=by simpa using hj
  have h9:=q4 i j (Nat.zero_le _) hij (by omega)
  rw[getElem!_pos d' i (by omega),getElem!_pos d' j hj']at h9
  simpa[ltOf]using h9)
 have hzi:∀i,i<xs.length→zs.getD i default=(d'[i]!).1.1:=fun i hi=>by
  rw[← hys,getElem!_pos d' i (by omega),Q1,Q0 (by simpa using(by omega:i<d'.size))]
  simp
 have hW:=mN en z w (E.ρ 0) n d' os g1
 have hwi:∀b,E.Im b→(sortWorldK en z w (E.ρ 0) 0 n d' os).heap[b]?=w.heap[b]?:=fun b hb=>fv en z w _ n d' os b (hIm b hb).1 (hIm b hb).2
 have hFs:(flatK en z d').size=xs.length*z:=by simp[hd's]
 have hFc:(flatK en z d').size≤cur.size:=by omega
 have hB0:HB E [(0,some (aI e z enc xs))] (E.ρ 0):=⟨0,_,rfl,hrl,rfl⟩
 have hlk:∀l b,lkh [(0,some (aI e z enc zs))] l=some b→l=0∧b=aI e z enc zs:=fun l b hl=>by
  rw[aj]at hl
  split at hl
  ·cases hl;exact⟨by omega,rfl⟩
  ·cases hl
 refine⟨_,E,rfl,⟨rfl,rfl,rfl,ei en z w _ n d' os,fun b hb hn=>fv en z w _ n d' os b (fun e=>hn (e▸hB0)) hb⟩,fun _ _=>⟨rfl,rfl⟩,⟨?_,?_,?_,?_⟩,?_,fun b hb=>Or.inl hb,fun b hb=>hb,.tup _ _ rfl (fun j hj=>by simp at hj)⟩
 ·intro l b hl
  obtain⟨rfl,rfl⟩:=hlk l b hl
  refine⟨by rw[hlz,← hκ];exact g2,by rw[← hκ];exact g3,hz,fun i _=>henc _,fun _=>⟨_,hW,by rw[← hκ];simpa[putCells]using g4,fun j hj=>?_,fun i j hi hj=>?_⟩⟩
  ·rw[hlz]at hj
   rw[rU (flatK en z d') cur j (by omega) hFc,get_flatK en z d' j (by rw[hd's];exact hj)]
   have hr:j%z<(en (d'[j/z]!)).length:=by rw[hk];exact Nat.mod_lt _ hz
   rw[getElem!_pos (en (d'[j/z]!)) (j%z) hr]
   exact(d'[j/z]!).2.2.2.1 _ (Q14 hr)
  ·rw[hlz]at hi
   have hjz:j<z:=by rw[← henc (zs.getD i default)];exact hj
   have hlt:(i+1)*z≤xs.length*z:=Q8 _ hi
   rw[Q18]at hlt
   rw[rU (flatK en z d') cur (i*z+j) (by omega) hFc,get_flatK en z d' (i*z+j) (by rw[hd's];omega),Nat.mul_comm i z,Nat.mul_add_div hz,Nat.mul_add_mod,Nat.div_eq_of_lt hjz,Nat.mod_eq_of_lt hjz,Nat.add_zero]
   have hq:=(d'[i]!).2.2.mono hwi
   have hr:j<(en (d'[i]!)).length:=by rw[hk];exact hjz
   rw[getElem!_pos (en (d'[i]!)) j hr]
   have hz2:=hzi i hi
   obtain⟨u,h1,h2⟩:=hq.2.2 j (by rw[henc];exact hjz)
   have h3:(en (d'[i]!))[j]=u:=by
    have:(en (d'[i]!))[j]?=some u:=h1
    rw[Q0 hr]at this
    exact Option.some.inj this
   rw[h3]
   have h4:(enc (zs.getD i default))[j]=(enc (d'[i]!).1.1)[j]'(by rw[henc];exact hjz):=by simp only[hz2]
   show RD _ _ (enc (zs.getD i default))[j] u
   rw[h4];exact h2
 ·intro l b hl;obtain⟨rfl,_⟩:=hlk l b hl;omega
 ·intro l l' b b' hl hl' _ _ hne;exact absurd ((hlk l b hl).1.trans (hlk l' b' hl').1.symm) hne
 ·intro b hb
  refine⟨Nat.lt_of_lt_of_le (hIm b hb).2 (ei en z w _ n d' os),fun l x hl _=>?_⟩
  obtain⟨rfl,_⟩:=hlk l x hl
  exact fun e=>(hIm b hb).1 e.symm
 ·rintro b ⟨l,x,hl,hr,rfl⟩
  obtain⟨rfl,_⟩:=hlk l x hl
  exact Or.inl hB0
theorem kD{C:Cx}{g gc e z:Nat}{f:Nat→List D}(ent:cm C.P g)
  (hnone:∀(p:Option Addr) (cap:Nat) (w:World),Calls C.P g #[.slice p 0 cap,.func (.func gc) #[] #[]] w fun e' w'=>e'=.returned (.tuple #[])∧w'=w) :
  Fun C g 1 [.sl 0 z 0 0,.d (.fn (.func gc) [])] [(0,some (.row e z 0 f))] 1 (.tup []) [(0,some (.row e z 0 f))]:=by
 refine⟨ent,Q4 _,fun E w vs hS hsz hargs=>?_⟩
 have a0:=hargs 0 (by simp)
 have a1:=hargs 1 (by simp)
 have hvs:vs=#[vs.getD 0 undef,vs.getD 1 undef]:=gU (n:=2) (by simpa using hsz)
 have e0:∃a cap,vs.getD 0 undef=.slice a 0 cap:=by
  generalize vs.getD 0 undef=x at a0
  cases a0 with
  | sl _ _ _ _ a cap _ _ _ _ _=>exact⟨a,cap,rfl⟩
 obtain⟨a,cap,e0⟩:=e0
 have e1:vs.getD 1 undef=.func (.func gc) #[] #[]:=by
  generalize vs.getD 1 undef=x at a1
  cases a1 with
  | d _ _ h=>cases h with|fn _ _ us hs hg=>simp at hs;simp[hs]
 rw[e0,e1]at hvs
 subst hvs
 refine(hnone a cap w).mono ?_
 rintro e' w' ⟨rfl,rfl⟩
 exact⟨_,E,rfl,Kq.refl _ _,fun _ _=>⟨rfl,rfl⟩,hS,fun _ h=>Or.inl h,fun _ h=>Or.inl h,fun _ h=>h,.tup _ _ rfl (fun j hj=>by simp at hj)⟩
end
end Go.Proofs.YtejiekfnaddanaaGreat
namespace Go.Proofs
open Go.Shelf
def Tryz.sort45_ren:Go.Shelf.Ren:=⟨fun|6=>45|15=>79|14=>78|28=>111|29=>112|20=>103|21=>104|22=>105|23=>106|24=>107|25=>108|26=>109|27=>110|46=>123|47=>124|48=>125|49=>126|50=>127|57=>130|n=>n,fun|22=>65|24=>71|25=>113|3=>3|39=>146|0=>0|53=>174|55=>52|4=>4|46=>168|45=>167|50=>46|5=>5|9=>9|66=>181|70=>185|76=>189|77=>190|n=>n,fun|n=>n⟩
theorem Tryz.sort45:Go.Proofs.SlLaysF0.n6 Tryz.prog Tryz.sort45_ren:={
 mixed:=by kernel_rfl
 f6:=⟨Tryz.f45.name,by decide,Tryz.func45.trans (congrArg some (by kernel_rfl))⟩
 f14:=⟨Tryz.f78.name,by decide,Tryz.func78.trans (congrArg some (by kernel_rfl))⟩
 f15:=Tryz.func79.trans (congrArg some (by kernel_rfl))
 f20:=⟨Tryz.f103.name,by decide,Tryz.func103.trans (congrArg some (by kernel_rfl))⟩
 f21:=⟨Tryz.f104.name,by decide,Tryz.func104.trans (congrArg some (by kernel_rfl))⟩
 f22:=⟨Tryz.f105.name,by decide,Tryz.func105.trans (congrArg some (by kernel_rfl))⟩
 f23:=⟨Tryz.f106.name,by decide,Tryz.func106.trans (congrArg some (by kernel_rfl))⟩
 f24:=⟨Tryz.f107.name,by decide,Tryz.func107.trans (congrArg some (by kernel_rfl))⟩
 f25:=⟨Tryz.f108.name,by decide,Tryz.func108.trans (congrArg some (by kernel_rfl))⟩
 f26:=⟨Tryz.f109.name,by decide,Tryz.func109.trans (congrArg some (by kernel_rfl))⟩
 f27:=⟨Tryz.f110.name,by decide,Tryz.func110.trans (congrArg some (by kernel_rfl))⟩
 f28:=Tryz.func111.trans (congrArg some (by kernel_rfl))
 f29:=Tryz.func112.trans (congrArg some (by kernel_rfl))
 f46:=⟨Tryz.f123.name,by decide,Tryz.func123.trans (congrArg some (by kernel_rfl))⟩
 f47:=Tryz.func124.trans (congrArg some (by kernel_rfl))
 f48:=Tryz.func125.trans (congrArg some (by kernel_rfl))
 f49:=⟨Tryz.f126.name,by decide,Tryz.func126.trans (congrArg some (by kernel_rfl))⟩
 f50:=⟨Tryz.f127.name,by decide,Tryz.func127.trans (congrArg some (by kernel_rfl))⟩
 f57:=⟨Tryz.f130.name,by decide,Tryz.func130.trans (congrArg some (by kernel_rfl))⟩
 t0:=Tryz.underlying0
 a0:=Tryz.isAgg0
 z0:=Tryz.sizeOf0
 v0:=Tryz.zeroValue0
 t3:=Tryz.underlying3
 a3:=Tryz.isAgg3
 z3:=Tryz.sizeOf3
 v3:=Tryz.zeroValue3
 t4:=Tryz.underlying4
 a4:=Tryz.isAgg4
 z4:=Tryz.sizeOf4
 v4:=Tryz.zeroValue4
 t5:=Tryz.underlying5
 a5:=Tryz.isAgg5
 z5:=Tryz.sizeOf5
 v5:=Tryz.zeroValue5
 t9:=Tryz.underlying9
 a9:=Tryz.isAgg9
 z9:=Tryz.sizeOf9
 v9:=Tryz.zeroValue9
 t22:=Tryz.underlying65
 a22:=Tryz.isAgg65
 z22:=Tryz.sizeOf65
 v22:=Tryz.zeroValue65
 t25:=Tryz.underlying113
 a25:=Tryz.isAgg113
 z25:=Tryz.sizeOf113
 v25:=Tryz.zeroValue113
 t39:=Tryz.underlying146
 a39:=Tryz.isAgg146
 z39:=Tryz.sizeOf146
 v39:=Tryz.zeroValue146
 t45:=Tryz.underlying167
 a45:=Tryz.isAgg167
 z45:=Tryz.sizeOf167
 v45:=Tryz.zeroValue167
 t46:=Tryz.underlying168
 a46:=Tryz.isAgg168
 z46:=Tryz.sizeOf168
 v46:=Tryz.zeroValue168
 t50:=Tryz.underlying46
 a50:=Tryz.isAgg46
 z50:=Tryz.sizeOf46
 v50:=Tryz.zeroValue46
 t53:=Tryz.underlying174
 a53:=Tryz.isAgg174
 z53:=Tryz.sizeOf174
 v53:=Tryz.zeroValue174
 t55:=Tryz.underlying52
 a55:=Tryz.isAgg52
 z55:=Tryz.sizeOf52
 v55:=Tryz.zeroValue52
 t66:=Tryz.underlying181
 a66:=Tryz.isAgg181
 z66:=Tryz.sizeOf181
 v66:=Tryz.zeroValue181
 t70:=Tryz.underlying185
 a70:=Tryz.isAgg185
 z70:=Tryz.sizeOf185
 v70:=Tryz.zeroValue185
 t76:=Tryz.underlying189
 a76:=Tryz.isAgg189
 z76:=Tryz.sizeOf189
 v76:=Tryz.zeroValue189
 t77:=Tryz.underlying190
 a77:=Tryz.isAgg190
 z77:=Tryz.sizeOf190
 v77:=Tryz.zeroValue190 }
end Go.Proofs
namespace Go.Proofs.YtejiekfnaddanaaGreat
open Go.RowKit
section
open Go.RowKit Go.Shelf Go.Sort
namespace Dir
def insE(e:Ent):List Ent→List Ent
 | []=>[e]
 | x::r=>if aE e.key x.key<0 then e::x::r else x::insE e r
def sortE(l:List Ent):List Ent:=l.foldr insE []
theorem fT(e:Ent):∀l,(insE e l).Perm (e::l)
 | []=>.refl _
 | x::r=>by
  unfold insE;split
  ·exact .refl _
  ·exact((fT e r).cons x).trans (.swap e x r)
theorem sortE_perm:∀l,(sortE l).Perm l
 | []=>.refl _
 | x::r=>(fT x _).trans ((sortE_perm r).cons x)
theorem lr{e:Ent}:∀{l:List Ent},srt l→(∀x∈l,x.key≠e.key)→srt (insE e l)
 | [],_,_=>List.pairwise_singleton _ _
 | x::r,h,hk=>by
  obtain⟨h1,h2⟩:=List.pairwise_cons.1 h
  unfold insE;split
  ·rename_i hlt
   refine List.pairwise_cons.2 ⟨fun y hy=>?_,h⟩
   rcases Q22 hy with rfl|hy
   ·exact hlt
   ·exact cmpTr hlt (h1 y hy)
  ·rename_i hlt
   refine List.pairwise_cons.2 ⟨fun y hy=>?_,lr h2 fun z hz=>hk z (by simp[hz])⟩
   rcases Q22 ((fT e r).mem_iff.1 hy)with rfl|hy
   ·have h3:aE y.key x.key≠0:=fun e0=>hk x (by simp) (cmpEq e0).symm
    rw[gA];omega
   ·exact h1 y hy
theorem fw:∀{l:List Ent},l.Pairwise (fun a b=>a.key≠b.key)→srt (sortE l)
 | [],_=>.nil
 | x::r,h=>by
  obtain⟨h1,h2⟩:=List.pairwise_cons.1 h
  exact lr (fw h2) fun y hy=>(h1 y ((sortE_perm r).mem_iff.1 hy)).symm
theorem mH{ys xs:List Ent}(hp:ys.Perm xs)(hd:xs.Pairwise (fun a b=>a.key≠b.key))(hs:ys.Pairwise fun a b=>¬aE b.key a.key<0):srt ys:=by
 have h3:ys.Pairwise (fun a b=>a.key≠b.key):=hp.symm.pairwise hd fun {a b} hab e=>hab e.symm
 refine List.Pairwise.imp₂ (fun a b ha hb=>?_) hs h3
 have h4:aE a.key b.key≠0:=fun e=>hb (cmpEq e)
 rw[gA]at ha;omega
theorem sort_uniq{ys xs:List Ent}(hp:ys.Perm xs)(hd:xs.Pairwise (fun a b=>a.key≠b.key))(hs:ys.Pairwise fun a b=>¬aE b.key a.key<0):ys=sortE xs:=by
 have s1:=mH hp hd hs
 have s2:=fw hd
 refine fq s1 s2 fun k=>b8 fun v=>?_
 rw[aH s1,aH s2,hp.mem_iff,(sortE_perm xs).mem_iff]
theorem cmp_ntr:∀{a b c:List Int},¬aE a b<0→¬aE b c<0→¬aE a c<0:=fun {a b c} h1 h2 h3=>by
 rw[gA]at h3
 by_cases e:aE a b=0
 ·rw[cmpEq e]at h3;rw[gA]at h2;omega
 ·have h4:aE b a<0:=by rw[gA];omega
  have h5:aE a c<0:=by rw[gA];omega
  exact h2 (cmpTr h4 h5)
def ents(M:Mc):List Ent:=sortE (allE M)
theorem ents_ok{M:Mc}{B:Int}(h:Iw M.W B)(hI:Ih M):srt (ents M)∧∀k,lk (ents M) k=own M k:=by
 obtain⟨h1,h2⟩:=all_ok h hI
 have s:=fw h1
 refine⟨s,fun k=>b8 fun v=>?_⟩
 show lk (sortE (allE M)) k=some v↔_
 rw[aH s,(sortE_perm _).mem_iff]
 exact h2 ⟨k,v⟩
end Dir
theorem oe{W:World}{Im:Nat→Prop}(a b:List Int)(ba:IsB a)(bb:IsB b){va vb:Value}(ha:RD W Im (al 1 (aA .u8) a) va)(hb:RD W Im (al 1 (aA .u8) b) vb) :
  Calls Tryz.prog 80 #[va,vb] W fun e w'=>e=.returned (.int .i64 (aE a b))∧W=w':=by
 obtain⟨⟨a1,c1,rfl⟩,h1⟩:=bp (P:=Tryz.prog) ha
 obtain⟨⟨a2,c2,rfl⟩,h2⟩:=bp (P:=Tryz.prog) hb
 have hr:(callFunc 113 #[.slice a1 a.length c1,.slice a2 b.length c2]).run Tryz.prog W=.ok (.value (.int .i64 (aE a b))) W:=by
  rw[run_callFunc_extern Tryz.func113 (by kernel_rfl) (by kernel_rfl) (by kernel_rfl) (e:=Extern.BytealgCompare.compare) (by kernel_rfl)]
  have h3:(Extern.BytealgCompare.compare #[.slice a1 a.length c1,.slice a2 b.length c2]).run Tryz.prog W=.ok (.int .i64 (aE a b)) W:=by
   change Sem.run Tryz.prog (do pure (goInt (Extern.BytealgCompare.cmp (← Extern.Bytes.bytesOf (.slice a1 a.length c1)) (← Extern.Bytes.bytesOf (.slice a2 b.length c2))))) W=_
   simp only[Sem.run_bind,h1,h2,Result.andThen_ok,Sem.run_pure,Lib.cmp_eq]
   rw[eD a b ba bb]
   rfl
  rw[h3];rfl
 clear ha hb ba bb h1 h2
 go_enter Tryz.func80,Tryz.ntmps80
 go_wp2_with (rw[hr])
 go_ret
 exact⟨rfl,rfl⟩
theorem order_C{W:World}{Im:Nat→Prop}(a b:List Int)(ba:IsB a)(bb:IsB b){va vb:Value}(ha:RD W Im (al 1 (aA .u8) a) va)(hb:RD W Im (al 1 (aA .u8) b) vb) :
  Calls Tryz.prog 47 #[va,vb] W fun e w'=>e=.returned (.int .i64 (aE a b))∧W=w':=by
 have hcon:=oe a b ba bb ha hb
 clear ha hb ba bb
 generalize aE a b=r at hcon⊢
 go_enter Tryz.func47,Tryz.ntmps47
 go_wp2_with (go_at_call 80;refine hcon.mono ?_;rintro e w' ⟨rfl,rfl⟩)
 go_ret
 exact⟨rfl,rfl⟩
theorem jn(W:World)(Im:Nat→Prop)(x y:Dir.Ent)(vx vy:List Value)(hIm:∀b,Im b→b<W.heap.size)(bx:IsB x.key)(by':IsB y.key)(hx:Tl W Im (aq x) vx)(hy:Tl W Im (aq y) vy) :
  Calls Tryz.prog 46 #[.agg vx.toArray,.agg vy.toArray] W fun e' w'=>e'=.returned (.int .i64 (aE x.key y.key))∧∃q os,w'=grow (W.drewN q) os:=by
 obtain⟨x1,x2,x3⟩:=hx
 obtain⟨y1,y2,y3⟩:=hy
 obtain⟨u,hu,ru⟩:=x3 0 (by simp[aq])
 obtain⟨t,ht,rt⟩:=y3 0 (by simp[aq])
 obtain⟨u2,rfl⟩:∃u2,vx=[u,u2]:=by
  match vx,x1,hu with
  | [a,b],_,hu=>simp at hu;subst hu;exact⟨b,rfl⟩
  | [],h,_=>simp[aq]at h
  | [_],h,_=>simp[aq]at h
  | _::_::_::_,h,_=>simp[aq]at h
 obtain⟨t2,rfl⟩:∃u2,vy=[t,u2]:=by
  match vy,y1,ht with
  | [a,b],_,hu=>simp at hu;subst hu;exact⟨b,rfl⟩
  | [],h,_=>simp[aq]at h
  | [_],h,_=>simp[aq]at h
  | _::_::_::_,h,_=>simp[aq]at h
 have hcon:∀w':World,(∀b,Im b→w'.heap[b]?=W.heap[b]?)→Calls Tryz.prog 47 #[u,t] w' fun e w''=>e=.returned (.int .i64 (aE x.key y.key))∧w'=w'':=fun w' hw =>
  order_C x.key y.key bx by' (ru.mono (fun _ h=>h) hw) (rt.mono (fun _ h=>h) hw)
 have h2:∃n,u2=.int .i64 n:=by
  obtain⟨q,hq,rq⟩:=x3 1 (by simp[aq])
  simp at hq;subst hq
  exact⟨x.val,by cases rq;rfl⟩
 have h3:∃n,t2=.int .i64 n:=by
  obtain⟨q,hq,rq⟩:=y3 1 (by simp[aq])
  simp at hq;subst hq
  exact⟨y.val,by cases rq;rfl⟩
 obtain⟨n2,rfl⟩:=h2
 obtain⟨m2,rfl⟩:=h3
 have hu':∃a c,u=.slice a x.key.length c:=(bp (P:=Tryz.prog) (show RD W Im (al 1 (aA .u8) x.key) u from ru)).1
 have ht':∃a c,t=.slice a y.key.length c:=(bp (P:=Tryz.prog) (show RD W Im (al 1 (aA .u8) y.key) t from rt)).1
 obtain⟨a1,c1,rfl⟩:=hu'
 obtain⟨a2,c2,rfl⟩:=ht'
 have hcon2:=hcon ((W.alloc (.cells #[.slice a1 x.key.length c1,.int .i64 n2] 71)).alloc (.cells #[.slice a2 y.key.length c2,.int .i64 m2] 71)) fun b hb=>by
  have hlt:=hIm b hb
  rw[Below.heap_alloc _ _ _ (by simp only[World.size_alloc];omega),Below.heap_alloc _ _ _ hlt]
 clear hcon ru rt x1 x2 x3 y1 y2 y3 hu ht bx by' hIm
 generalize aE x.key y.key=r at hcon2⊢
 generalize x.key.length=l1 at hcon2⊢
 generalize y.key.length=l2 at hcon2⊢
 go_enter Tryz.func46,Tryz.ntmps46
 go_wp2_with (go_at_call 47;refine hcon2.mono ?_;rintro e w' ⟨rfl,rfl⟩)
 go_ret
 exact⟨rfl,0,_,by rw[alloc_eq_grow,alloc_eq_grow,grow_grow];rfl⟩
theorem rm(xs:List Dir.Ent)(hB:∀e∈xs,IsB e.key)(hd:xs.Pairwise (fun a b=>a.key≠b.key))(hx1:xs.length<4611686018427387904) :
  Fun TC 45 1 [.sl 0 2 0 xs.length,.d (.fn (.func 46) [])] [(0,some (aI 71 2 aq xs))] 1 (.tup []) [(0,some (aI 71 2 aq (Dir.sortE xs)))]:=by
 have ent:cm TC.P 45:=.mk Tryz.func45 rfl rfl
 have hpl:=(Dir.sortE_perm xs).length_eq
 rcases Nat.eq_zero_or_pos xs.length with h0|h0
 ·obtain rfl:=List.eq_nil_of_length_eq_zero h0
  exact kD ent fun p cap w=>AnyF.slices_SortFunc_none Tryz.sort45 p cap _ w
 ·have eg:∀args w,(callFunc 46 args).run Tryz.prog w=.ok (.enter 46 args) w:=enters_of Tryz.func46 (by kernel_rfl) rfl
  refine mO (C:=TC) (α:=Dir.Ent) (enc:=aq) (gc:=46) (e:=71) (z:=2) (by decide) ent (fun _=>rfl) (fun e=>IsB e.key) (fun a b=>aE a.key b.key) ⟨[],0⟩ (fun x hx=>by cases hx) [.slice none 0 0,.int .i64 0] (fun w Im=>⟨rfl,fun u hu=>by simp at hu;rcases hu with rfl|rfl<;>rfl,fun j hj=>?_⟩)
   (fun a=>by rw[Dir.cmpS];omega) (fun a b c=>Dir.cmpTr) (fun a b c=>Dir.cmp_ntr) (fun W Im x y vx vy hIm bx by' hx hy=>jn W Im x y vx vy hIm bx by' hx hy)
   (fun T _ en hk h1 cf hO blk cap d w hcl hH hblk hsz=>?_) xs (Dir.sortE xs) hB h0 hx1 hpl (fun ys hp hs=>Dir.sort_uniq hp hd hs)
  ·have:j=0∨j=1:=by simp[aq]at hj;omega
   rcases this with rfl|rfl
   ·exact⟨_,rfl,.sl 1 0 _ none 0 (fun _ _=>undef) (Q4 _) (Nat.zero_le _) (fun i hi=>absurd hi (Nat.not_lt_zero _)) (fun h=>absurd h (Nat.not_lt_zero _)) (fun i j hi=>absurd hi (Nat.not_lt_zero _))⟩
   ·exact⟨_,rfl,.val _ rfl⟩
  ·have hcon:=AnyQ.slices_SortFunc Tryz.sort45 2 Tryz.isAgg71 Tryz.sizeOf71 en hk h1 cf hO 46 #[] blk 0 cap d w eg hcl hH hblk hsz
   exact hcon
end
namespace Dir
def Kl(h:List Ent):Prop:=∀e∈h,e.key.length≤256
def Kh(M:Mc):Prop:=∀w,Kl (M.Hd w)
def Ks(s:CS):Prop:=∀c,du s=some c→c.key.length≤256
theorem Kl.cut{h:List Ent}(x:Kl h)(lv i:Nat):Kl (bM h lv i):=fun e he=>x e (List.mem_filter.1 he).1
theorem Kl.nil:Kl []:=fun e he=>by cases he
theorem Kh.set{M:Mc}(h:Kh M){w:Nat}{x:Int}{m:List Ent}(hm:Kl m):Kh (M.set w x m):=fun j=>by
 show Kl (upd M.Hd w m j)
 unfold upd;split
 ·exact hm
 ·exact h j
theorem step_kh{M:Mc}{B:Int}(h:Iw M.W B){s:CS}(hs:Cw ae M.W s)(hI:Ih M)(hc:Ch M s)(hk:Ks s)(hM:Kh M):Kh (step ae M s).1:=by
  cases s with
  | none=>exact hM
  | k0 c=>exact hM
  | kE c w=>exact hM
  | kF c lv w=>exact hM
  | kG c lv w v m =>
    simp only[step];split
    · rename_i e
      refine hM.set ?_
      rw[← hc.2.2 e];exact hM w
    ·exact hM
  | kH c lv w m=>simp only[step];split<;>exact hM
  | kL c lv w m =>
    simp only[step];split
    · refine hM.set (Kl.cut ?_ _ _)
      rw[← hc.2];exact hM _
    ·exact hM
  | kS c w v m n =>
    simp only[step];split
    · rename_i e
      refine hM.set fun x hx=>?_
      have hsrt:srt (M.Hd w):=hI.word ⟨hs.1,hs.2.1⟩
      rcases nN hsrt hc.1 (hc.2.2.2 e) hx with e1|⟨y,hy,e1⟩
      ·rw[e1];exact hk c rfl
      ·rw[← e1];exact hM w y hy
    ·exact hM
  | s0 => simp only[step];split
          ·exact hM
          ·split<;>exact hM
  | sM lv => simp only[step];split
             ·exact hM.set .nil
             ·exact hM
  | sF lv i=>exact hM
  | sG lv i v m =>
    simp only[step];split
    · rename_i e
      refine hM.set ?_
      rw[← hc.2 e];exact hM _
    ·exact hM
  | sH lv i up m=>exact hM
  | sL lv i up m =>
    simp only[step];split
    · refine hM.set (Kl.cut ?_ _ _)
      have:M.Hd (2^lv+i)=m:=hc
      rw[← this];exact hM _
    ·exact hM
  | sV lv =>
    simp only[step];split
    ·exact hM.set .nil
    ·exact hM
end Dir
structure iP(k:Nat)(M:Dir.Mc)(cs:Nat→Dir.CS)(nl:Nat)(cnt:Int):Prop where
 s:iL k M cs nl cnt
 ih:Dir.Ih M
 ch:∀j,Dir.Ch M (cs j)
 kh:Dir.Kh M
 kc:∀j,Dir.Ks (cs j)
theorem iP.zero:iP 0 Dir.M0 (fun _=>.none) (a7 0) 1:=⟨.zero,.zero,fun _=>trivial,fun _ e he=>(by cases he),fun _ c hc=>(by cases hc)⟩
theorem iP.eff{k:Nat}{M:Dir.Mc}{cs:Nat→Dir.CS}{nl:Nat}{cnt:Int}(h:iP k M cs nl cnt)(hk:k≤1000000){i:Nat}(hn:cs i≠.none) :
  Dir.Eff M (cs i) (Dir.step ae M (cs i)).1 (Dir.step ae M (cs i)).2.1 (Dir.step ae M (cs i)).2.2 :=
 Dir.step_eff h.s.inv.iw ⟨h.s.inv.b,by unfold Dir.FZ;omega⟩ (h.s.inv.cw i) h.ih (h.ch i) hn
theorem iP.step{k:Nat}{M:Dir.Mc}{cs:Nat→Dir.CS}{nl:Nat}{cnt:Int}(h:iP k M cs nl cnt)(hk:k≤1000000){i:Nat}(hn:cs i≠.none) :
  iP (k+1) (Dir.step ae M (cs i)).1 (Dir.upd cs i (Dir.step ae M (cs i)).2.1) (a7 nl) (cnt+1):=by
 have E:=h.eff hk hn
 refine⟨h.s.step hk i,E.ih,fun j=>?_,Dir.step_kh h.s.inv.iw (h.s.inv.cw i) h.ih (h.ch i) (h.kc i) h.kh,fun j=>?_⟩
 ·unfold Dir.upd;split
  ·exact E.ch
  ·exact E.mono.ch (h.s.inv.cw j) (h.ch j)
 ·unfold Dir.upd;split
  ·cases e:(Dir.step ae M (cs i)).2.2.done with
   | true=>rw[(E.yes e).1];intro c hc;cases hc
   | false=>intro c hc;rw[(E.no e).2.2.1]at hc;exact h.kc i c hc
  ·exact h.kc j
theorem iP.start{k:Nat}{M:Dir.Mc}{cs:Nat→Dir.CS}{nl:Nat}{cnt:Int}(h:iP k M cs nl cnt)(i:Nat)(op:Int)(key:List Int)(v:Int)(hk:IsB key)(ho:1≤op∧op≤4)(hl:key.length≤256) :
  iP k M (Dir.upd cs i (bI op key v)) nl cnt:=by
 refine⟨h.s.start i op key v hk,h.ih,fun j=>?_,h.kh,fun j=>?_⟩
 ·unfold Dir.upd;split
  ·unfold bI;split
   ·trivial
   ·exact⟨ho.1,by show op≤3;omega⟩
  ·exact h.ch j
 ·unfold Dir.upd;split
  ·unfold bI;split
   ·intro c hc;cases hc
   ·intro c hc;cases hc;exact hl
  ·exact h.kc j
theorem iC{α:Type}[Inhabited α]{xs:List α}{k:Nat}(h:k<xs.length):xs.drop k=xs.getD k default::xs.drop (k+1):=by
 rw[List.drop_eq_getElem_cons h,Q1,Q0 h];rfl
theorem e5(a b:List Int):Pure TC 76 [.d (al 1 (aA .u8) a),.d (al 1 (aA .u8) b)] (.i .i64 (aE a b)):=by
 refine Pure.lens (.mk Tryz.func76 rfl rfl) fun hlen=>?_
 have ha:=hlen a.length (by simp[bw,al])
 have hb:=hlen b.length (by simp[bw,al])
 clear hlen
 refine Pure.mk' Tryz.func76 rfl rfl zN ?_
 (repeat' (first|((first|refine Wp.any ab rfl ?_|(with_reducible first|refine Go.mk ?_|apply am.of));conv=>whnf)|with_reducible exact rfl|((with_reducible refine Ov.ok zO ?_);conv=>whnf)|(with_reducible refine Ov.sh1 (by with_unfolding_all exact rfl) ?_)|((first|with_reducible refine Ov.quo (by omega) (by omega) (by omega) (fun _ _=>?_)|refine zV ?_|with_reducible refine And.intro zC ?_);conv=>whnf)|((with_reducible refine And.intro ?hb ?_);(case hb=>exact zz1);(conv=>whnf))|((refine bO.a rfl rfl rfl rfl rfl rfl ?hb ?_);(case hb=>exact zB);(conv=>whnf))|((refine bO.b rfl rfl rfl rfl rfl rfl rfl rfl ?hb ?ho ?_);(case hb=>exact zB);(case ho=>omega);(conv=>whnf))|((refine bO.c rfl rfl rfl rfl rfl ?hb ?_);(case hb=>exact zB);(conv=>whnf))|((refine bO.d rfl rfl rfl rfl rfl rfl ?hb ?ho ?_);(case hb=>exact zB);(case ho=>omega);(conv=>whnf))|(with_reducible refine Or.inl ?_)|((with_reducible refine IxA.ptr ?_);conv=>whnf)|((with_reducible refine dp (by omega) ?_);(conv=>whnf))|((with_reducible refine bq ?_ (fun hn0=>?_))<;>(conv=>whnf))|((refine au (fun hc=>?_) (fun hc=>?_))<;>(try simp only[wz9]at hc)<;>(try (exfalso;omega))<;>(conv=>whnf))))
 refine Wp.loopP (ι:=Nat) (fun i=>i≤a.length∧i≤b.length∧aE (a.drop i) (b.drop i)=aE a b) (fun i=>⟨⟨Tryz.f76.ntmps,0⟩,0,[(0,.d (al 1 (aA .u8) a)),(1,.d (al 1 (aA .u8) b)),(5,.i .i64 i)],[]⟩) (fun i=>a.length-i) 0 ⟨Nat.zero_le _,Nat.zero_le _,rfl⟩ ?_ ?_
 ·(refine Le.by [] rfl rfl rfl rfl ?_ ?_<;>(conv=>whnf)<;>(repeat' (first|exact trivial|exact ac.rfl rfl|exact ac.ptr rfl|exact ac.sl rfl|((with_reducible refine ac.fn ?_);(conv=>whnf))|((refine ac.iref ?_);(conv=>whnf))|exact⟨rfl,rfl,rfl⟩|exact fun i hi=>rfl|((with_reducible refine And.intro ?_ ?_)<;>(conv=>whnf)))))
 ·rintro i ⟨h1,h2,h3⟩
  have hs:i<a.length→i<b.length→aE a b=if a.getD (i:Int).toNat default<b.getD (i:Int).toNat default then -1 else if b.getD (i:Int).toNat default<a.getD (i:Int).toNat default then 1 else aE (a.drop (i+1)) (b.drop (i+1)):=fun g1 g2=>by
   rw[← h3,iC g1,iC g2,Q13];rfl
  have hA:i=a.length→aE a b=if a.length<b.length then -1 else 0:=fun g1=>by
   subst g1
   rw[← h3,List.drop_length]
   split
   ·rename_i g;rw[iC g];rfl
   ·rw[List.drop_eq_nil_of_le (by omega)];rfl
  have hB:i=b.length→aE a b=if b.length<a.length then 1 else 0:=fun g1=>by
   subst g1
   rw[← h3,List.drop_length]
   split
   ·rename_i g;rw[iC g];rfl
   ·rw[List.drop_eq_nil_of_le (by omega)];rfl
  (repeat' (first|((first|refine Wp.any ab rfl ?_|(with_reducible first|refine Go.mk ?_|apply am.of));conv=>whnf)|with_reducible exact rfl|((with_reducible refine Ov.ok zO ?_);conv=>whnf)|(with_reducible refine Ov.sh1 (by with_unfolding_all exact rfl) ?_)|((first|with_reducible refine Ov.quo (by omega) (by omega) (by omega) (fun _ _=>?_)|refine zV ?_|with_reducible refine And.intro zC ?_);conv=>whnf)|((with_reducible refine And.intro ?hb ?_);(case hb=>exact zz1);(conv=>whnf))|((refine bO.a rfl rfl rfl rfl rfl rfl ?hb ?_);(case hb=>exact zB);(conv=>whnf))|((refine bO.b rfl rfl rfl rfl rfl rfl rfl rfl ?hb ?ho ?_);(case hb=>exact zB);(case ho=>omega);(conv=>whnf))|((refine bO.c rfl rfl rfl rfl rfl ?hb ?_);(case hb=>exact zB);(conv=>whnf))|((refine bO.d rfl rfl rfl rfl rfl rfl ?hb ?ho ?_);(case hb=>exact zB);(case ho=>omega);(conv=>whnf))|(with_reducible refine Or.inl ?_)|((with_reducible refine IxA.ptr ?_);conv=>whnf)|((with_reducible refine dp (by omega) ?_);(conv=>whnf))|((with_reducible refine bq ?_ (fun hn0=>?_))<;>(conv=>whnf))|((refine au (fun hc=>?_) (fun hc=>?_))<;>(try simp only[wz9]at hc)<;>(try (exfalso;omega))<;>(conv=>whnf))))
  all_goals first
   | exact .i (by rw[hs (by omega) (by omega),if_pos (by omega)])
   | exact .i (by rw[hs (by omega) (by omega),if_neg (by omega),if_pos (by omega)])
   | exact .i (by rw[hA (by omega),if_pos (by omega)])
   | exact .i (by rw[hA (by omega),if_neg (by omega)])
   | exact .i (by rw[hB (by omega),if_pos (by omega)])
   | exact .i (by rw[hB (by omega),if_neg (by omega)])
   | (refine⟨i+1,⟨by omega,by omega,(by rw[hs (by omega) (by omega),if_neg (by omega),if_neg (by omega)])⟩,by dsimp only;omega,?_⟩;(refine Le.by [] rfl rfl rfl rfl ?_ ?_<;>(conv=>whnf)<;>(repeat' (first|exact trivial|exact ac.rfl rfl|exact ac.ptr rfl|exact ac.sl rfl|((with_reducible refine ac.fn ?_);(conv=>whnf))|((refine ac.iref ?_);(conv=>whnf))|exact⟨rfl,rfl,rfl⟩|exact fun i hi=>rfl|((with_reducible refine And.intro ?_ ?_)<;>(conv=>whnf))))))
theorem ee{α:Type}[Inhabited α]{xs:List α}{k:Nat}(h:k<xs.length):xs.take (k+1)=xs.take k++[xs.getD (k:Int).toNat default]:=by
 rw[List.take_succ_eq_append_getElem h,Q13,Q1,Q0 h];rfl
theorem cu{α:Type}{c:Nat}:∀{L:List (List α)},(∀l∈L,l.length≤c)→L.flatten.length≤L.length*c
 | [],_=>by simp
 | l::r,h=>by
  have h1:=cu (L:=r) fun x hx=>h x (by simp[hx])
  have h2:=h l (by simp)
  rw[List.flatten_cons,Q9,List.length_cons,Q18,Nat.one_mul];omega
theorem k8{M:Dir.Mc}{i:Nat}{l:List Dir.Ent}(h:l∈Dir.partL M i):∃w,∀e∈l,e∈M.Hd w:=by
 unfold Dir.partL Dir.nxt at h
 split at h
 ·simp at h;exact⟨_,fun e he=>by rw[h]at he;exact he⟩
 ·simp at h
  rcases h with h|h
  all_goals
   split at h
   ·exact⟨_,fun e he=>by rw[h]at he;exact(List.mem_filter.1 he).1⟩
   ·exact⟨_,fun e he=>by rw[h]at he;exact he⟩
theorem c8{M:Dir.Mc}{n i:Nat}(hH:∀w,(M.Hd w).length≤n){l:List Dir.Ent}(h:l∈Dir.partL M i):l.length≤n:=by
 unfold Dir.partL Dir.nxt at h
 split at h
 ·simp at h;rw[h];exact hH _
 ·simp at h
  rcases h with h|h
  all_goals
   split at h
   ·rw[h];exact Nat.le_trans (List.length_filter_le _ _) (hH _)
   ·rw[h];exact hH _
theorem ky{g:Nat→SV}(q5:∀j,SV.Lt 5 (g j))(M:Dir.Mc)(nl:Nat)(f:Nat→List D)(clk cnt:Int)(h0:0≤M.W 0)(h8:M.W 0≤8)(hH:∀w,Dir.Hn 100000 (M.Hd w)){B:Int}(hI:Dir.Iw M.W B)(hIh:Dir.Ih M)(hK:Dir.Kh M) :
  Fun TC 19 5 [.ptr 0 0] (aN g M nl f clk cnt) 5 (.d (al 2 aq (Dir.ents M))) (aN g M nl f clk cnt):=by
 have hA:Fun TC 44 5 [ap] (aN g M nl f clk cnt) 5 (.d (al 1 eO (Dir.allL M))) (aN g M nl f clk cnt):=by
  by_cases he:M.W 0%2=0
  ·exact nB q5 M nl f clk cnt h0 h8 he
  ·exact nA q5 M nl f clk cnt h0 h8 (fun w=>by have:=(hH w).1;omega) (by omega)
 have hLl:(Dir.allL M).length≤32:=by
  have h1:=bh M (2^Dir.lvl M)
  have h2:2^Dir.lvl M≤2^4:=Q16 (by omega) (by unfold Dir.lvl;omega)
  show((List.range (2^Dir.lvl M)).flatMap (Dir.partL M)).length≤32
  omega
 have hmem:∀l∈Dir.allL M,l.length≤100000∧Dir.Kl l∧∀e∈l,IsB e.key:=fun l hl=>by
  obtain⟨i,_,hi⟩:=List.mem_flatMap.1 hl
  obtain⟨w,hw⟩:=k8 hi
  exact⟨c8 (fun w=>(hH w).1) hi,fun e he=>hK w e (hw e he),fun e he=>(hH w).2 e (hw e he)⟩
 have hE:=Dir.allE_eq M
 have hents:Dir.ents M=Dir.sortE (Dir.allL M).flatten:=by unfold Dir.ents;rw[hE]
 have hdist:(Dir.allL M).flatten.Pairwise (fun a b=>a.key≠b.key):=by rw[hE];exact(Dir.all_ok hI hIh).1
 rw[hents]
 clear hents hE
 generalize Dir.allL M=L at hA hLl hmem hdist⊢
 have hfl:L.flatten.length≤3200000:=by have:=cu fun l hl=>(hmem l hl).1;omega
 have hpre:∀j,(L.take j).flatten.length≤3200000:=fun j=>by
  have:=cu (L:=L.take j) fun l hl=>(hmem l (List.mem_of_mem_take hl)).1
  rw[Q10]at this
  have h3:min j L.length*100000≤32*100000:=Q8 _ (by omega)
  omega
 have hSort:=rm L.flatten (fun e he=>by obtain⟨l,h1,h2⟩:=List.mem_flatten.1 he;exact(hmem l h1).2.2 e h2) hdist (by omega)
 have hpl:=(Dir.sortE_perm L.flatten).length_eq
 refine Fun.mk' Tryz.func19 rfl rfl zN (by decide) ?_
 (repeat' (first|((first|refine Wp.any ab rfl ?_|(with_reducible first|refine Go.mk ?_|apply am.of|refine And.intro zC ?_));conv=>whnf)|((refine aa.fn (hA) [0,1,2,3,4] rfl rfl rfl rfl rfl ?ha ?hh ?_);(case ha=>exact zA);(case hh=>exact zD);(conv=>whnf))|((with_reducible refine At.mk' 0 rfl ?_);conv=>whnf)))
 refine Wp.le (Le.virt 3 71 2 (fun i=>aq (([]:List Dir.Ent).getD i default)) (by decide) rfl) ?_
 refine Wp.loopP (ι:=Nat) (fun j=>j≤L.length) (fun j=>⟨⟨Tryz.f19.ntmps,5⟩,6,[(3,.sl 5 2 0 (L.take j).flatten.length),(14,.d (al 1 eO L)),(15,.i .i64 L.length),(16,.i .i64 j)],
  aN g M nl f clk cnt++[(5,some (aI 71 2 aq (L.take j).flatten))]⟩) (fun j=>L.length-j) 0 (Nat.zero_le _) ?_ ?_
 ·(refine Le.by [0,1,2,3,4,5] rfl rfl rfl rfl ?_ ?_<;>(conv=>whnf)<;>(repeat' (first|exact trivial|exact ac.rfl rfl|exact ac.sl rfl|exact d4 (by assumption) (fun l hl=>by rcases l with _|_|_|_|_|l<;>first|rfl|omega)|exact⟨rfl,rfl,rfl⟩|exact⟨rfl,zzb rfl⟩|exact fun i hi=>rfl|((with_reducible refine And.intro ?_ ?_)<;>(conv=>whnf)))))
 ·rintro j h1
  have hpj:=hpre j
  (repeat' (first|((first|refine Wp.any ab rfl ?_|(with_reducible first|refine Go.mk ?_|apply am.of|refine And.intro zC ?_));conv=>whnf)|((refine au (fun hc=>?_) (fun hc=>?_))<;>(try simp only[wz9]at hc)<;>(try (exfalso;omega))<;>(conv=>whnf))))
  ·have hj:j<L.length:=by omega
   have hta:=ee hj
   have hlm:L.getD (j:Int).toNat default∈L:=by rw[Q13,Q1,Q0 hj];exact Q14 hj
   obtain⟨m1,m2,m3⟩:=hmem _ hlm
   generalize L.getD (j:Int).toNat default=l at hta hlm m1 m2 m3⊢
   refine Wp.loopP (ι:=Nat) (fun i=>i≤l.length) (fun i=>⟨⟨Tryz.f19.ntmps,5⟩,6,[(3,.sl 5 2 0 ((L.take j).flatten++l.take i).length),(14,.d (al 1 eO L)),(15,.i .i64 L.length),(16,.i .i64 j),(20,.d (al 2 aq l)),(21,.i .i64 l.length),(22,.i .i64 i)],
    aN g M nl f clk cnt++[(5,some (aI 71 2 aq ((L.take j).flatten++l.take i)))]⟩) (fun i=>l.length-i) 0 (Nat.zero_le _) ?_ ?_
   ·rw[List.take_zero,List.append_nil]
    (refine Le.by [0,1,2,3,4,5] rfl rfl rfl rfl ?_ ?_<;>(conv=>whnf)<;>(repeat' (first|exact trivial|exact ac.rfl rfl|exact ac.sl rfl|exact cB (by assumption)|exact⟨rfl,rfl,rfl⟩|exact⟨rfl,zzb rfl⟩|exact fun i hi=>rfl|((with_reducible refine And.intro ?_ ?_)<;>(conv=>whnf)))))
   ·rintro i h2
    have hlen:((L.take j).flatten++l.take i).length≤3300000:=by rw[Q9,Q10];omega
    have hkl:i<l.length→(l.getD (i:Int).toNat default).key.length≤16777216:=fun hi=>by
     rw[Q13,Q1,Q0 hi]
     have:=m2 _ (Q14 hi);exact Nat.le_trans this (by decide)
    (repeat' (first|((first|refine Wp.any ab rfl ?_|(with_reducible first|refine Go.mk ?_|apply am.of));conv=>whnf)|with_reducible exact rfl|((first|with_reducible refine Ov.ok zO ?_|refine zV ?_|with_reducible refine And.intro zC ?_);conv=>whnf)|((refine bO.b rfl rfl rfl rfl rfl rfl rfl rfl ?hb ?ho ?_);(case hb=>exact zB);(case ho=>omega);(conv=>whnf))|(with_reducible refine Or.inl ?_)|((with_reducible refine ai.funM (eW _ (hkl (by omega))) rfl rfl ?_);conv=>whnf)|((refine au (fun hc=>?_) (fun hc=>?_))<;>(try simp only[wz9]at hc)<;>(try (exfalso;omega))<;>(conv=>whnf))))
    ·refine⟨i+1,by dsimp only;omega,by dsimp only;omega,?_⟩
     dsimp only
     rw[ee (by omega:i<l.length),← List.append_assoc]
     generalize (L.take j).flatten++l.take i=Z at hlen⊢
     (refine Le.by [0,1,2,3,4,15] rfl rfl rfl rfl ?_ ?_<;>(conv=>whnf)<;>(repeat' (first|exact trivial|exact ac.rfl rfl|exact ac.sl rfl|exact cB (by assumption)|exact⟨rfl,rfl,rfl⟩|exact⟨rfl,zzb rfl⟩|exact fun i hi=>rfl|((with_reducible refine And.intro ?_ ?_)<;>(conv=>whnf)))))
     ·rw[Q9];exact ac.sl rfl
     ·simp
     ·exact a8 _ _
    ·obtain rfl:i=l.length:=by omega
     refine⟨j+1,by dsimp only;omega,by dsimp only;omega,?_⟩
     dsimp only
     rw[hta,List.take_length,List.flatten_append,show[l].flatten=l by simp]
     (refine Le.by [0,1,2,3,4,5] rfl rfl rfl rfl ?_ ?_<;>(conv=>whnf)<;>(repeat' (first|exact trivial|exact ac.rfl rfl|exact ac.sl rfl|exact cB (by assumption)|exact⟨rfl,rfl,rfl⟩|exact⟨rfl,zzb rfl⟩|exact fun i hi=>rfl|((with_reducible refine And.intro ?_ ?_)<;>(conv=>whnf)))))
  ·obtain rfl:j=L.length:=by omega
   rw[List.take_length]
   (repeat' (first|((first|refine Wp.any ab rfl ?_|(with_reducible first|refine Go.mk ?_|apply am.of));conv=>whnf)|((refine aa.fn (hSort) [5] rfl rfl rfl rfl rfl ?ha ?hh ?_);(case ha=>exact zA);(case hh=>exact zH);(conv=>whnf))))
   refine af.sealB [0,1,2,3,4] rfl rfl rfl ?_ ?_
   ·exact ak.le (ak.sl rfl rfl (by omega)) (SV.Le.sl' hpl.symm fun i hi=>by simp only[Q19])
   ·(conv=>whnf);(repeat' (first|exact zE|((refine And.intro ?_ ?_)<;>(conv=>whnf))))
theorem sl_eq{z m n:Nat}{f g:Nat→List D}(h:m=n)(hf:∀i,i<n→f i=g i):SV.Le (.d (.sl z m f)) (.d (.sl z n g)):=by subst h;exact SV.Le.sl hf
theorem getN{α:Type}[Inhabited α]{xs:List α}{k:Nat}:xs.getD (k:Int).toNat default=xs.getD k default:=by rw[Q13]
theorem eN(a b:List Int):Pure TC 35 [.d (al 1 (aA .u8) a),.d (al 1 (aA .u8) b)] (.b (decide (a=b))):=by
 refine Pure.lens (.mk Tryz.func35 rfl rfl) fun hlen=>?_
 have ha:=hlen a.length (by simp[bw,al])
 have hb:=hlen b.length (by simp[bw,al])
 clear hlen
 refine Pure.mk' Tryz.func35 rfl rfl zN ?_
 (repeat' (first|((first|refine Wp.any ab rfl ?_|(with_reducible first|refine Go.mk ?_|apply am.of));conv=>whnf)|((refine au (fun hc=>?_) (fun hc=>?_))<;>(try simp only[wz9]at hc)<;>(try (exfalso;omega))<;>(conv=>whnf))))
 ·exact .b (by rw[eq_comm,decide_eq_false_iff_not];intro h;subst h;omega)
 ·refine Wp.loopP (ι:=Nat) (fun i=>i≤a.length∧(a=b↔a.drop i=b.drop i)) (fun i=>⟨⟨Tryz.f35.ntmps,0⟩,0,[(0,.d (al 1 (aA .u8) a)),(1,.d (al 1 (aA .u8) b)),(12,.i .i64 a.length),(13,.i .i64 i)],[]⟩) (fun i=>a.length-i) 0 ⟨Nat.zero_le _,Iff.rfl⟩ ?_ ?_
  ·(refine Le.by [] rfl rfl rfl rfl ?_ ?_<;>(conv=>whnf)<;>(repeat' (first|exact trivial|exact ac.rfl rfl|((with_reducible refine And.intro ?_ ?_)<;>(conv=>whnf)))))
  ·rintro i ⟨h1,h2⟩
   have hs:i<a.length→(a=b↔a.getD (i:Int).toNat default=b.getD (i:Int).toNat default∧a.drop (i+1)=b.drop (i+1)):=fun g1=>by
    rw[h2,iC g1,iC (by omega:i<b.length),List.cons.injEq,getN,getN]
   (repeat' (first|((first|refine Wp.any ab rfl ?_|(with_reducible first|refine Go.mk ?_|apply am.of|refine Ov.ok zO ?_)|refine zV ?_|with_reducible refine And.intro zC ?_);conv=>whnf)|((refine au (fun hc=>?_) (fun hc=>?_))<;>(try simp only[wz9]at hc)<;>(try (exfalso;omega))<;>(conv=>whnf))))
   all_goals first
    | exact .b (by rw[eq_comm,decide_eq_false_iff_not,hs (by omega)];intro h;exact absurd h.1 (by assumption))
    | (refine⟨i+1,⟨by omega,by rw[hs (by omega)];exact and_iff_right (by omega)⟩,by dsimp only;omega,?_⟩;(refine Le.by [] rfl rfl rfl rfl ?_ ?_<;>(conv=>whnf)<;>(repeat' (first|exact trivial|exact ac.rfl rfl|((with_reducible refine And.intro ?_ ?_)<;>(conv=>whnf))))))
    | exact .b (by
      have e:i=a.length:=by omega
      subst e
      rw[eq_comm,decide_eq_true_eq,h2,List.drop_length,List.drop_eq_nil_of_le (by omega)])
theorem kV(xs ys:List Dir.Ent):Pure TC 20 [.d (al 2 aq xs),.d (al 2 aq ys)] (.b (decide (xs=ys))):=by
 refine Pure.lens (.mk Tryz.func20 rfl rfl) fun hlen=>?_
 have ha:=hlen xs.length (by simp[bw,al])
 have hb:=hlen ys.length (by simp[bw,al])
 clear hlen
 refine Pure.mk' Tryz.func20 rfl rfl zN ?_
 (repeat' (first|((first|refine Wp.any ab rfl ?_|(with_reducible first|refine Go.mk ?_|apply am.of));conv=>whnf)|((refine au (fun hc=>?_) (fun hc=>?_))<;>(try simp only[wz9]at hc)<;>(try (exfalso;omega))<;>(conv=>whnf))))
 ·exact .b (by rw[eq_comm,decide_eq_false_iff_not];intro h;subst h;omega)
 ·refine Wp.loopP (ι:=Nat) (fun i=>i≤xs.length∧(xs=ys↔xs.drop i=ys.drop i)) (fun i=>⟨⟨Tryz.f20.ntmps,0⟩,0,[(0,.d (al 2 aq xs)),(1,.d (al 2 aq ys)),(12,.i .i64 xs.length),(13,.i .i64 i)],[]⟩) (fun i=>xs.length-i) 0 ⟨Nat.zero_le _,Iff.rfl⟩ ?_ ?_
  ·(refine Le.by [] rfl rfl rfl rfl ?_ ?_<;>(conv=>whnf)<;>(repeat' (first|exact trivial|exact ac.rfl rfl|((with_reducible refine And.intro ?_ ?_)<;>(conv=>whnf)))))
  ·rintro i ⟨h1,h2⟩
   have hs:i<xs.length→(xs=ys↔((xs.getD (i:Int).toNat default).key=(ys.getD (i:Int).toNat default).key∧(xs.getD (i:Int).toNat default).val=(ys.getD (i:Int).toNat default).val)∧xs.drop (i+1)=ys.drop (i+1)):=fun g1=>by
    rw[h2,iC g1,iC (by omega:i<ys.length),List.cons.injEq,getN,getN]
    have:∀x y:Dir.Ent,x=y↔x.key=y.key∧x.val=y.val:=fun x y=>by cases x;cases y;simp
    rw[this]
   (repeat' (first|((first|refine Wp.any ab rfl ?_|(with_reducible first|refine Go.mk ?_|apply am.of|refine Ov.ok zO ?_)|refine zV ?_|(with_reducible first|refine And.intro zC ?_|refine ai.pure (eN _ _) rfl rfl ?_));conv=>whnf)|((refine au (fun hc=>?_) (fun hc=>?_))<;>(try simp only[wz9]at hc)<;>(try (exfalso;omega))<;>(conv=>whnf))))
   all_goals first
    | exact .b (by rw[eq_comm,decide_eq_false_iff_not,hs (by omega)];intro h;exact absurd h.1.1 (by assumption))
    | exact .b (by rw[eq_comm,decide_eq_false_iff_not,hs (by omega)];intro h;exact absurd h.1.2 (by assumption))
    | (refine⟨i+1,⟨by omega,by rw[hs (by omega)];exact and_iff_right ⟨by assumption,by assumption⟩⟩,by dsimp only;omega,?_⟩;(refine Le.by [] rfl rfl rfl rfl ?_ ?_<;>(conv=>whnf)<;>(repeat' (first|exact trivial|exact ac.rfl rfl|((with_reducible refine And.intro ?_ ?_)<;>(conv=>whnf))))))
    | exact .b (by
      have e:i=xs.length:=by omega
      subst e
      rw[eq_comm,decide_eq_true_eq,h2,List.drop_length,List.drop_eq_nil_of_le (by omega)])
def bf(xs:List Dir.Ent)(k:List Int):Int:=match xs.findIdx? (fun e=>decide (e.key=k))with|some i=>i|none=>-1
theorem kW(xs:List Dir.Ent)(k:List Int):Pure TC 41 [.d (al 2 aq xs),.d (al 1 (aA .u8) k)] (.i .i64 (bf xs k)):=by
 refine Pure.lens (.mk Tryz.func41 rfl rfl) fun hlen=>?_
 have ha:=hlen xs.length (by simp[bw,al])
 clear hlen
 refine Pure.mk' Tryz.func41 rfl rfl zN ?_
 (repeat' (first|((first|refine Wp.any ab rfl ?_|(with_reducible first|refine Go.mk ?_|apply am.of));conv=>whnf)))
 refine Wp.loopP (ι:=Nat) (fun i=>i≤xs.length∧∀j,j<i→(xs.getD j default).key≠k) (fun i=>⟨⟨Tryz.f41.ntmps,0⟩,0,[(1,.d (al 1 (aA .u8) k)),(7,.d (al 2 aq xs)),(8,.i .i64 xs.length),(9,.i .i64 i)],[]⟩) (fun i=>xs.length-i) 0 ⟨Nat.zero_le _,fun j hj=>absurd hj (Nat.not_lt_zero _)⟩ ?_ ?_
 ·(refine Le.by [] rfl rfl rfl rfl ?_ ?_<;>(conv=>whnf)<;>(repeat' (first|exact trivial|exact ac.rfl rfl|((with_reducible refine And.intro ?_ ?_)<;>(conv=>whnf)))))
 ·rintro i ⟨h1,h2⟩
  (repeat' (first|((first|refine Wp.any ab rfl ?_|(with_reducible first|refine Go.mk ?_|apply am.of|refine Ov.ok zO ?_|refine And.intro zC ?_|refine aa.pure (e5 _ _) rfl rfl ?_));conv=>whnf)|((refine au (fun hc=>?_) (fun hc=>?_))<;>(try simp only[wz9]at hc)<;>(try (exfalso;omega))<;>(conv=>whnf))))
  ·have hk:(xs.getD (i:Int).toNat default).key=k:=Dir.cmpEq (by omega)
   refine .i ?_
   have hi:i<xs.length:=by omega
   have:xs.findIdx? (fun e=>decide (e.key=k))=some i:=by
    rw[List.findIdx?_eq_some_iff_getElem]
    refine⟨hi,?_,fun j hj=>?_⟩
    ·rw[getN,Q1,Q0 hi]at hk
     simpa using hk
    ·have:=h2 j hj
     rw[Q1,Q0 (by omega:j<xs.length)]at this
     simpa using this
   unfold bf;rw[this]
  ·refine⟨i+1,⟨by omega,fun j hj=>?_⟩,by dsimp only;omega,?_⟩
   ·by_cases e:j=i
    ·subst e;intro hk
     rw[getN,hk,Dir.cmpS]at hc;exact hc rfl
    ·exact h2 j (by omega)
   ·(refine Le.by [] rfl rfl rfl rfl ?_ ?_<;>(conv=>whnf)<;>(repeat' (first|exact trivial|exact ac.rfl rfl|((with_reducible refine And.intro ?_ ?_)<;>(conv=>whnf)))))
  ·refine .i ?_
   have:xs.findIdx? (fun e=>decide (e.key=k))=none:=by
    rw[List.findIdx?_eq_none_iff]
    intro e he
    obtain⟨j,hj,rfl⟩:=Dir.at_mem he
    simpa using h2 j (by omega)
   unfold bf;rw[this]
def c7(key:List Int)(v:Int):Bool→List Dir.Ent→List Dir.Ent
 | d,[]=>if d then[]else[⟨key,v⟩]
 | d,x::r=>(if aE key x.key≤0∧d=false then[⟨key,v⟩]else[])++(if aE key x.key≠0 then[x]else[])++c7 key v (d||decide (aE key x.key≤0)) r
theorem oy(l:List Dir.Ent)(n x:Dir.Ent):∀k,k<l.length+1+1→bK (l.length+1) (bK l.length (fun i=>aq (l.getD i default)) (fun i=>bZ (aq n) 2 (0+i))) (fun i=>bZ (aq x) 2 (0+i)) k=aq ((l++[n]++[x]).getD k default):=fun k hk=>by
 have e:(l++[n]).length=l.length+1:=by simp
 have q:=a8 (l++[n]) x k (by omega)
 rw[e]at q
 rw[← q]
 by_cases h:k<l.length+1
 ·have h2:=a8 l n k h
  unfold bK at h2⊢
  rw[if_pos h,if_pos h];exact h2
 ·unfold bK
  rw[if_neg h,if_neg h]
theorem m5 (xs:List Dir.Ent) (key:List Int) (v:Int) (hl:xs.length≤1000000):Pure TC 49 [.d (al 2 aq xs),.d (al 1 (aA .u8) key),.i .i64 v] (.d (al 2 aq (c7 key v false xs))):=by
  refine Pure.mk' Tryz.func49 rfl rfl zN ?_
  (repeat' (first|((first|refine Wp.any ab rfl ?_|(with_reducible first|refine Go.mk ?_|apply am.of));conv=>whnf)))
  refine Wp.le (Le.virt 7 102 2 (fun i=>aq (([]:List Dir.Ent).getD i default)) (by decide) rfl) ?_
  refine Wp.loopP (ι:=Nat×Bool×List Dir.Ent) (fun k=>k.1≤xs.length∧k.2.2.length≤2*k.1∧k.2.2++c7 key v k.2.1 (xs.drop k.1)=c7 key v false xs) (fun k=>⟨⟨Tryz.f49.ntmps,0⟩,1,[(1,.d (al 1 (aA .u8) key)),(2,.i .i64 v),(7,.sl 0 2 0 k.2.2.length),(8,.b k.2.1),(12,.d (al 2 aq xs)),(13,.i .i64 xs.length),(14,.i .i64 k.1)],[(0,some (aI 102 2 aq k.2.2))]⟩) (fun k=>xs.length-k.1) (0,false,[]) ⟨Nat.zero_le _,by simp,rfl⟩ ?_ ?_
  ·(refine Le.by [0] rfl rfl rfl rfl ?_ ?_<;>(conv=>whnf)<;>(repeat' (first|exact trivial|exact ac.rfl rfl|exact ac.sl rfl|exact⟨rfl,rfl,rfl⟩|exact fun i hi=>rfl|((with_reducible refine And.intro ?_ ?_)<;>(conv=>whnf)))))
  · rintro ⟨j,d,l⟩ ⟨h1,h2,h3⟩
    dsimp only at h1 h2 h3⊢
    have hd:∀(hj:j<xs.length),xs.drop j=xs.getD (j:Int).toNat default::xs.drop (j+1):=fun hj=>by rw[Q13];exact iC hj
    have hst:j<xs.length→c7 key v d (xs.drop j)=(if aE key (xs.getD (j:Int).toNat default).key≤0∧d=false then[⟨key,v⟩]else[])++(if aE key (xs.getD (j:Int).toNat default).key≠0 then[xs.getD (j:Int).toNat default]else[])++c7 key v (d||decide (aE key (xs.getD (j:Int).toNat default).key≤0)) (xs.drop (j+1)):=fun hj=>by rw[hd hj];rfl
    cases d with
    | true =>
      (repeat' (first|((first|refine Wp.any ab rfl ?_|(with_reducible first|refine Go.mk ?_|apply am.of|refine Ov.ok zO ?_|refine And.intro zC ?_));conv=>whnf)|((with_reducible refine And.intro ?hb ?_);(case hb=>exact zz1);(conv=>whnf))|((with_reducible refine aa.pure (e5 _ _) rfl rfl ?_);conv=>whnf)|((refine au (fun hc=>?_) (fun hc=>?_))<;>(try simp only[wz9]at hc)<;>(try (exfalso;omega))<;>(conv=>whnf))))
      all_goals first
        | (refine⟨(j+1,true,l++[xs.getD (j:Int).toNat default]),⟨by dsimp only;omega,by simp;omega,(by rw[← h3,hst (by omega),if_neg (by simp),if_pos (by omega)];simp)⟩,by dsimp only;omega,?_⟩
           (refine Le.by [3] rfl rfl rfl rfl ?_ ?_<;>(conv=>whnf)<;>(repeat' (first|exact trivial|exact ac.rfl rfl|((with_reducible refine And.intro ?_ ?_)<;>(conv=>whnf)))));(focus(dsimp only;rw[Q9];exact ac.sl rfl));(focus rfl);(focus simp);exact a8 _ _)
        | (refine⟨(j+1,true,l),⟨by dsimp only;omega,by dsimp only;omega,(by rw[← h3,hst (by omega),if_neg (by simp),if_neg (by omega)];simp)⟩,by dsimp only;omega,?_⟩
           (refine Le.by [0] rfl rfl rfl rfl ?_ ?_<;>(conv=>whnf)<;>(repeat' (first|exact trivial|exact ac.rfl rfl|exact ac.sl rfl|exact⟨rfl,rfl,rfl⟩|exact fun i hi=>rfl|((with_reducible refine And.intro ?_ ?_)<;>(conv=>whnf))))))
        | (obtain rfl:j=xs.length:=by omega
           rw[List.drop_length]at h3
           rw[← h3]
           exact sl_eq (by simp[c7]) fun i hi=>by simp[c7])
    | false =>
      (repeat' (first|((first|refine Wp.any ab rfl ?_|(with_reducible first|refine Go.mk ?_|apply am.of|refine Ov.ok zO ?_|refine And.intro zC ?_));conv=>whnf)|((with_reducible refine And.intro ?hb ?_);(case hb=>exact zz1);(conv=>whnf))|((with_reducible refine aa.pure (e5 _ _) rfl rfl ?_);conv=>whnf)|((refine au (fun hc=>?_) (fun hc=>?_))<;>(try simp only[wz9]at hc)<;>(try (exfalso;omega))<;>(conv=>whnf))))
      · refine⟨(j+1,true,(l++[⟨key,v⟩])++[xs.getD (j:Int).toNat default]),⟨by dsimp only;omega,by simp;omega,(by rw[← h3,hst (by omega),if_pos ⟨by omega,rfl⟩,if_pos (by omega),decide_eq_true (by omega)];simp)⟩,by dsimp only;omega,?_⟩
        (refine Le.by [5] rfl rfl rfl rfl ?_ ?_<;>(conv=>whnf)<;>(repeat' (first|exact trivial|exact ac.rfl rfl|((with_reducible refine And.intro ?_ ?_)<;>(conv=>whnf)))))
        ·dsimp only;rw[Q9,Q9];exact ac.sl rfl
        ·rfl
        ·simp
        ·exact oy l ⟨key,v⟩ _
      · refine⟨(j+1,true,l++[⟨key,v⟩]),⟨by dsimp only;omega,by simp;omega,(by rw[← h3,hst (by omega),if_pos ⟨by omega,rfl⟩,if_neg (by omega),decide_eq_true (by omega)];simp)⟩,by dsimp only;omega,?_⟩
        (refine Le.by [3] rfl rfl rfl rfl ?_ ?_<;>(conv=>whnf)<;>(repeat' (first|exact trivial|exact ac.rfl rfl|((with_reducible refine And.intro ?_ ?_)<;>(conv=>whnf)))));(focus(dsimp only;rw[Q9];exact ac.sl rfl));(focus rfl);(focus simp);exact a8 l ⟨key,v⟩
      · refine⟨(j+1,false,l++[xs.getD (j:Int).toNat default]),⟨by dsimp only;omega,by simp;omega,(by rw[← h3,hst (by omega),if_neg (fun h=>by omega),if_pos (by omega),decide_eq_false (by omega)];simp)⟩,by dsimp only;omega,?_⟩
        (refine Le.by [3] rfl rfl rfl rfl ?_ ?_<;>(conv=>whnf)<;>(repeat' (first|exact trivial|exact ac.rfl rfl|((with_reducible refine And.intro ?_ ?_)<;>(conv=>whnf)))));(focus(dsimp only;rw[Q9];exact ac.sl rfl));(focus rfl);(focus simp);exact a8 _ _
      · obtain rfl:j=xs.length:=by omega
        rw[List.drop_length]at h3
        rw[← h3]
        refine sl_eq (by simp[c7]) fun i hi=>?_
        rw[Q19]
        exact a8 l ⟨key,v⟩ i (by simpa[c7]using hi)
theorem lE{zs:List Dir.Ent}{key:List Int}{k:Nat}(h:k<zs.length):(zs.take (k+1)).filter (fun e=>decide (aE key e.key≠0))=if aE key (zs.getD (k:Int).toNat default).key≠0 then(zs.take k).filter (fun e=>decide (aE key e.key≠0))++[zs.getD (k:Int).toNat default]else(zs.take k).filter (fun e=>decide (aE key e.key≠0)):=by
 rw[getE h,List.take_succ_eq_append_getElem h,List.filter_append]
 split
 ·rename_i e;rw[List.filter_cons_of_pos (by simpa using e)];simp
 ·rename_i e;rw[List.filter_cons_of_neg (by simpa using e)];simp
theorem qQ(xs:List Dir.Ent)(key:List Int)(hl:xs.length≤1000000):Pure TC 69 [.d (al 2 aq xs),.d (al 1 (aA .u8) key)] (.d (al 2 aq (xs.filter fun e=>decide (aE key e.key≠0)))):=by
 refine Pure.mk' Tryz.func69 rfl rfl zN ?_
 (repeat' (first|((first|refine Wp.any ab rfl ?_|(with_reducible first|refine Go.mk ?_|apply am.of));conv=>whnf)))
 refine Wp.le (Le.virt 5 102 2 (fun i=>aq (([]:List Dir.Ent).getD i default)) (by decide) rfl) ?_
 refine Wp.loopP (ι:=Nat) (fun j=>j≤xs.length) (fun j=>⟨⟨Tryz.f69.ntmps,0⟩,1,[(1,.d (al 1 (aA .u8) key)),(5,.sl 0 2 0 ((xs.take j).filter fun e=>decide (aE key e.key≠0)).length),(8,.d (al 2 aq xs)),(9,.i .i64 xs.length),(10,.i .i64 j)],[(0,some (aI 102 2 aq ((xs.take j).filter fun e=>decide (aE key e.key≠0))))]⟩) (fun j=>xs.length-j) 0 (Nat.zero_le _) ?_ ?_
 ·(refine Le.by [0] rfl rfl rfl rfl ?_ ?_<;>(conv=>whnf)<;>(repeat' (first|exact trivial|exact ac.rfl rfl|exact ac.sl rfl|exact⟨rfl,rfl,rfl⟩|exact fun i hi=>rfl|((with_reducible refine And.intro ?_ ?_)<;>(conv=>whnf)))))
 ·rintro j h1
  have hfl:((xs.take j).filter fun e=>decide (aE key e.key≠0)).length≤1000000:=by
   have q1:=List.length_filter_le (fun e:Dir.Ent=>decide (aE key e.key≠0)) (xs.take j)
   rw[Q10]at q1
   omega
  (repeat' (first|((first|refine Wp.any ab rfl ?_|(with_reducible first|refine Go.mk ?_|apply am.of|refine Ov.ok zO ?_|refine And.intro zC ?_));conv=>whnf)|((with_reducible refine And.intro ?hb ?_);(case hb=>exact zz1);(conv=>whnf))|((with_reducible refine aa.pure (e5 _ _) rfl rfl ?_);conv=>whnf)|((refine au (fun hc=>?_) (fun hc=>?_))<;>(try simp only[wz9]at hc)<;>(try (exfalso;omega))<;>(conv=>whnf))))
  ·refine⟨j+1,by dsimp only;omega,by dsimp only;omega,?_⟩
   dsimp only
   rw[lE (by omega),if_pos hc]
   (refine Le.by [3] rfl rfl rfl rfl ?_ ?_<;>(conv=>whnf)<;>(repeat' (first|exact trivial|exact ac.rfl rfl|((with_reducible refine And.intro ?_ ?_)<;>(conv=>whnf)))))
   ·rw[Q9];exact ac.sl rfl
   ·rfl
   ·simp
   ·exact a8 _ _
  ·refine⟨j+1,by dsimp only;omega,by dsimp only;omega,?_⟩
   dsimp only
   rw[lE (by omega),if_neg (by omega)]
   (refine Le.by [0] rfl rfl rfl rfl ?_ ?_<;>(conv=>whnf)<;>(repeat' (first|exact trivial|exact ac.rfl rfl|exact ac.sl rfl|exact⟨rfl,rfl,rfl⟩|exact fun i hi=>rfl|((with_reducible refine And.intro ?_ ?_)<;>(conv=>whnf)))))
  ·obtain rfl:j=xs.length:=by omega
   rw[List.take_length]
   exact SV.Le.sl fun j hj=>by simp only[Q19]
theorem nR(l:List Dir.Ent)(k:List Int):-1≤bf l k∧bf l k<l.length:=by
 unfold bf
 split
 ·rename_i i h
  have:=(List.findIdx?_eq_some_iff_getElem.1 h).1
  omega
 ·omega
namespace Dir
theorem fI{k:List Int}{v:Int}:∀{l:List Ent},(∀e∈l,aE k e.key<0)→c7 k v true l=l
 | [],_=>rfl
 | x::r,h=>by
  have h1:=h x (by simp)
  rw[c7,if_neg (by simp),if_pos (by omega),Bool.true_or,fI fun e he=>h e (by simp[he])];rfl
theorem ie{k:List Int}{v:Int}:∀{l:List Ent},srt l→srt (c7 k v false l)∧∀e:Ent,e∈c7 k v false l↔e=⟨k,v⟩∨(e∈l∧e.key≠k)
 | [],_=>⟨List.pairwise_singleton _ _,fun e=>by simp[c7]⟩
 | x :: r,h=>by
  obtain⟨h1,h2⟩:=List.pairwise_cons.1 h
  by_cases o1:aE k x.key<0
  ·have e1:c7 k v false (x::r)=⟨k,v⟩::x::r:=by
    rw[c7,if_pos ⟨by omega,rfl⟩,if_pos (by omega),decide_eq_true (by omega),Bool.or_true,fI fun e he=>cmpTr o1 (h1 e he)];rfl
   rw[e1]
   have hk:∀e∈x::r,aE k e.key<0:=fun e he=>by
    rcases Q22 he with rfl|he
    ·exact o1
    ·exact cmpTr o1 (h1 e he)
   refine⟨List.pairwise_cons.2 ⟨hk,h⟩,fun e=>?_⟩
   rw[List.mem_cons]
   refine or_congr_right ⟨fun he=>⟨he,fun e2=>?_⟩,fun he=>he.1⟩
   have:=hk e he
   rw[e2,cmpS]at this;omega
  ·by_cases o2:aE k x.key=0
   ·have hx:x.key=k:=(cmpEq o2).symm
    have e1:c7 k v false (x::r)=⟨k,v⟩::r:=by
     rw[c7,if_pos ⟨by omega,rfl⟩,if_neg (by omega),decide_eq_true (by omega),Bool.or_true,fI fun e he=>by have:=h1 e he;rwa [hx]at this];rfl
    rw[e1]
    refine⟨List.pairwise_cons.2 ⟨fun e he=>by have:=h1 e he;rwa [hx]at this,h2⟩,fun e=>?_⟩
    rw[List.mem_cons]
    refine or_congr_right ⟨fun he=>⟨by simp[he],fun e2=>?_⟩,fun he=>?_⟩
    ·have:=h1 e he;rw[hx,e2,cmpS]at this;omega
    ·rcases Q22 he.1 with rfl|h3
     ·exact absurd hx he.2
     ·exact h3
   ·have e1:c7 k v false (x::r)=x::c7 k v false r:=by
     rw[c7,if_neg (fun h=>by omega),if_pos o2,decide_eq_false (by omega)];rfl
    rw[e1]
    obtain⟨i1,i2⟩:=ie (k:=k) (v:=v) h2
    have hxk:aE x.key k<0:=by rw[gA];omega
    refine⟨List.pairwise_cons.2 ⟨fun e he=>?_,i1⟩,fun e=>?_⟩
    ·rcases(i2 e).1 he with rfl|he
     ·exact hxk
     ·exact h1 e he.1
    ·rw[List.mem_cons,i2]
     constructor
     ·rintro(rfl|rfl|he)
      ·exact .inr ⟨by simp,fun e2=>by rw[e2,cmpS]at hxk;omega⟩
      ·exact .inl rfl
      ·exact .inr ⟨by simp[he.1],he.2⟩
     ·rintro(rfl|⟨he,h3⟩)
      ·exact .inr (.inl rfl)
      ·rcases Q22 he with rfl|he
       ·exact .inl rfl
       ·exact .inr (.inr ⟨he,h3⟩)
theorem m6{k:List Int}{v:Int}{l:List Ent}(h:srt l)(q:List Int):lk (c7 k v false l) q=if q=k then some v else lk l q:=by
 obtain⟨i1,i2⟩:=ie (k:=k) (v:=v) h
 refine b8 fun x=>?_
 rw[aH i1,i2]
 by_cases hq:q=k
 ·subst hq
  rw[if_pos rfl]
  constructor
  ·rintro(h1|⟨_,h1⟩)
   ·simp only[Ent.mk.injEq]at h1;rw[h1.2]
   ·exact absurd rfl h1
  ·rintro h1;cases h1;exact .inl rfl
 ·rw[if_neg hq,aH h]
  constructor
  ·rintro(h1|⟨h1,_⟩)
   ·simp only[Ent.mk.injEq]at h1;exact absurd h1.1 hq
   ·exact h1
  ·exact fun h1=>.inr ⟨h1,hq⟩
theorem kX(k:List Int)(v:Int):∀(d:Bool) (l:List Ent),(c7 k v d l).length≤l.length+if d then 0 else 1
 | d,[]=>by cases d<;>simp[c7]
 | d,x::r=>by
  have:=kX k v (d||decide (aE k x.key≤0)) r
  rw[c7,Q9,Q9,List.length_cons]
  cases d
  ·by_cases h:aE k x.key≤0
   ·rw[decide_eq_true h]at this⊢
    rw[if_pos ⟨h,rfl⟩]
    simp only[Bool.or_true,if_true]at this⊢
    split<;>simp<;>omega
   ·rw[decide_eq_false h]at this⊢
    rw[if_neg (fun e=>h e.1)]
    simp only[Bool.or_false,Bool.false_eq_true,if_false]at this⊢
    split<;>simp<;>omega
  ·rw[if_neg (by simp)]
   simp only[Bool.true_or,if_true]at this⊢
   split<;>simp<;>omega
theorem nQ{l:List Ent}(h:srt l)(k:List Int):(bf l k<0→lk l k=none)∧(¬bf l k<0→lk l k=some (l.getD (bf l k).toNat default).val):=by
 unfold bf
 cases e:l.findIdx? (fun e=>decide (e.key=k))with
 | none =>
  rw[List.findIdx?_eq_none_iff]at e
  exact⟨fun _=>j6.2 fun x hx=>by simpa using e x hx,fun hh=>absurd (by decide) hh⟩
 | some i =>
  obtain⟨h1,h2,_⟩:=List.findIdx?_eq_some_iff_getElem.1 e
  refine⟨fun hh=>by dsimp only at hh;omega,fun _=>?_⟩
  have h3:(l[i]).key=k:=by simpa using h2
  rw[Q13,getD_some h1,← h3]
  exact j5 h (Q14 h1)
theorem drop_lk{k:List Int}{l:List Ent}(h:srt l):srt (l.filter fun e=>decide (aE k e.key≠0))∧∀q,lk (l.filter fun e=>decide (aE k e.key≠0)) q=if q=k then none else lk l q:=by
 have s:srt (l.filter fun e=>decide (aE k e.key≠0)):=List.Pairwise.filter _ h
 refine⟨s,fun q=>b8 fun x=>?_⟩
 rw[aH s,List.mem_filter]
 by_cases hq:q=k
 ·subst hq
  rw[if_pos rfl]
  constructor
  ·rintro⟨_,h1⟩;simp[cmpS]at h1
  ·intro h1;cases h1
 ·rw[if_neg hq,aH h]
  refine⟨fun h1=>h1.1,fun h1=>⟨h1,?_⟩⟩
  simp only[ne_eq,decide_not,Bool.not_eq_true',decide_eq_false_iff_not]
  exact fun e=>hq (cmpEq e).symm
end Dir
namespace Dir
theorem rk{h:List Ent}(s:srt h)(k:List Int):(bf h k<0↔dr h k=false)∧(dr h k=true→(h.getD (bf h k).toNat default).val=(h.getD (aV h k) default).val):=by
 obtain⟨f1,f2⟩:=nQ s k
 cases e:dr h k with
 | true =>
  have g:=nF s e
  have hn:¬bf h k<0:=fun hf=>by rw[f1 hf]at g;cases g
  refine⟨⟨fun hf=>absurd hf hn,fun hf=>by cases hf⟩,fun _=>?_⟩
  have:=f2 hn
  rw[g]at this
  exact(Option.some.inj this).symm
 | false =>
  have g:=j9 s e
  refine⟨⟨fun _=>rfl,fun _=>Classical.byContradiction fun hn=>?_⟩,fun hf=>by cases hf⟩
  have:=f2 hn
  rw[g]at this;cases this
theorem fnd_doc{h:List Ent}(s:srt h){c:Kc}(hop:okOp c) :
  (bf h c.key<0∧c.op≠2→dG c h=.inl ⟨true,7,0⟩)∧(¬(bf h c.key<0∧c.op≠2)→c.op=1→dG c h=.inl ⟨true,0,(h.getD (bf h c.key).toNat default).val⟩) ∧
  (¬(bf h c.key<0∧c.op≠2)→c.op≠1→∃m n,dG c h=.inr (m,n)):=by
 obtain⟨f1,f2⟩:=rk s c.key
 refine⟨fun hh=>?_,fun hh h1=>?_,fun hh h1=>?_⟩
 ·unfold dG;rw[if_pos ⟨hh.2,f1.1 hh.1⟩]
 ·have hn:¬(c.op≠2∧dr h c.key=false):=fun g=>hh ⟨f1.2 g.2,g.1⟩
  have ht:dr h c.key=true:=by
   cases e:dr h c.key with
   | true=>rfl
   | false=>exact absurd ⟨by omega,e⟩ hn
  unfold dG;rw[if_neg hn,if_pos h1,f2 ht]
 ·have hn:¬(c.op≠2∧dr h c.key=false):=fun g=>hh ⟨f1.2 g.2,g.1⟩
  unfold dG;rw[if_neg hn,if_neg h1]
  split
  ·exact⟨_,_,rfl⟩
  ·split<;>exact⟨_,_,rfl⟩
theorem swap_doc{h m:List Ent}{n:Int}(s:srt h){c:Kc}(hop:okOp c)(e:dG c h=.inr (m,n)) :
  (c.op=3→m=h.filter (fun x=>decide (aE c.key x.key≠0))∧¬bf h c.key<0∧n=(h.getD (bf h c.key).toNat default).val)∧(c.op≠3→m=c7 c.key c.val false h∧n=c.val):=by
 obtain⟨g1,g2,g3⟩:=ki s hop e
 obtain⟨f1,f2⟩:=nQ s c.key
 have h1:c.op≠1:=fun h1=>by
  unfold dG at e
  split at e
  ·cases e
  ·first
    | (cases e;done)
    | (rw[if_pos h1]at e;cases e)
 refine⟨fun h3=>?_,fun h3=>?_⟩
 ·obtain⟨d1,d2⟩:=drop_lk (k:=c.key) s
  have hm:m=h.filter (fun x=>decide (aE c.key x.key≠0)):=fq g2 d1 fun q=>by
   rw[g3,d2]
   by_cases hq:q=c.key
   ·rw[if_pos hq,if_pos hq];unfold newE;rw[if_neg (by omega),if_pos h3]
   ·rw[if_neg hq,if_neg hq]
  unfold rJ at g1
  rw[if_neg (by omega)]at g1
  by_cases hf:bf h c.key<0
  ·rw[f1 hf]at g1;simp at g1
  ·rw[f2 hf]at g1
   refine⟨hm,hf,?_⟩
   dsimp only at g1
   simp only[Res.mk.injEq,true_and]at g1
   exact g1.symm
 ·have h2:c.op=2:=by unfold okOp at hop;omega
  refine⟨fq g2 (ie s).1 fun q=>?_,?_⟩
  ·rw[g3,m6 s];unfold newE;rw[if_pos h2]
  ·unfold rJ at g1;rw[if_pos h2]at g1;simp at g1;omega
def entF(W:Nat→Int)(w:Nat)(l:List Ent)(es:List Ent):List Ent:=es.foldl (fun l e=>if home W (ay e.key)=w then c7 e.key e.val false l else l) l
theorem nW(W:Nat→Int)(w:Nat)(l es:List Ent)(e:Ent):entF W w l (es++[e])=if home W (ay e.key)=w then c7 e.key e.val false (entF W w l es)else entF W w l es:=by
 unfold entF;rw[List.foldl_append];rfl
theorem entF_take(W:Nat→Int)(w:Nat)(l:List Ent){es:List Ent}{j:Nat}(hj:j<es.length):entF W w l (es.take (j+1))=if home W (ay (es.getD j default).key)=w then c7 (es.getD j default).key (es.getD j default).val false (entF W w l (es.take j))else entF W w l (es.take j):=by
 rw[List.take_succ_eq_append_getElem hj,nW,getD_some hj]
def entW(M:Mc):Nat→List Ent
 | 0=>[]
 | w+1=>entF M.W w (entW M w) (M.Hd w)
theorem nn{h:List Ent}(s:srt h){j:Nat}(hj:j<h.length)(q:List Int):lk (h.take (j+1)) q=if q=(h.getD j default).key then some (h.getD j default).val else lk (h.take j) q:=by
 have s1:srt (h.take (j+1)):=s.sublist (List.take_sublist _ _)
 have s2:srt (h.take j):=s.sublist (List.take_sublist _ _)
 rw[List.take_succ_eq_append_getElem hj]at s1⊢
 rw[getD_some hj]
 have hlt:∀x∈h.take j,aE x.key (h[j]).key<0:=fun x hx=>(List.pairwise_append.1 s1).2.2 x hx _ (List.mem_singleton.2 rfl)
 refine b8 fun v=>?_
 rw[aH s1,List.mem_append,List.mem_singleton]
 by_cases hq:q=(h[j]).key
 ·rw[if_pos hq]
  constructor
  ·rintro(h1|h1)
   ·have:=hlt _ h1;rw[hq,cmpS]at this;omega
   ·rw[← h1]
  ·intro h1;exact .inr (by rw[hq,← Option.some.inj h1])
 ·rw[if_neg hq,aH s2]
  constructor
  ·rintro(h1|h1)
   ·exact h1
   ·exact absurd (by rw[← h1]) hq
  ·exact .inl
theorem entF_ok{M:Mc}(hI:Ih M){w:Nat}(hw:w<32){l:List Ent}(hl:srt l)(hk:∀q,home M.W (ay q)=w→lk l q=none):∀j,j≤(M.Hd w).length→srt (entF M.W w l ((M.Hd w).take j))∧∀q,lk (entF M.W w l ((M.Hd w).take j)) q=if home M.W (ay q)=w then lk ((M.Hd w).take j) q else lk l q:=by
 have hp:∀q,1≤home M.W (ay q):=fun q=>by unfold home;split<;>exact b7 _ _
 intro j
 induction j with
 | zero =>
  intro _
  refine⟨hl,fun q=>?_⟩
  show lk l q=if _ then lk [] q else lk l q
  split
  ·rename_i e;rw[hk q e];rfl
  ·rfl
 | succ j ih =>
  intro hj
  obtain⟨i1,i2⟩:=ih (by omega)
  rw[entF_take _ _ _ (by omega:j<(M.Hd w).length)]
  by_cases e:home M.W (ay ((M.Hd w).getD j default).key)=w
  ·rw[if_pos e]
   have s:srt (M.Hd w):=hI.word ⟨by rw[← e];exact hp _,hw⟩
   refine⟨(ie i1).1,fun q=>?_⟩
   rw[m6 i1,i2,nn s (by omega)]
   by_cases hq:q=((M.Hd w).getD j default).key
   ·rw[if_pos hq,if_pos (by rw[hq];exact e),if_pos hq]
   ·rw[if_neg hq,if_neg hq]
  ·rw[if_neg e]
   refine⟨i1,fun q=>?_⟩
   rw[i2]
   by_cases hq:home M.W (ay q)=w
   ·rw[if_pos hq,if_pos hq]
    have s:srt (M.Hd w):=hI.word ⟨by rw[← hq];exact hp _,hw⟩
    rw[nn s (by omega),if_neg (fun h=>e (by rw[← h];exact hq))]
   ·rw[if_neg hq,if_neg hq]
theorem nV{M:Mc}(hI:Ih M):∀w,w≤32→srt (entW M w)∧∀q,lk (entW M w) q=if home M.W (ay q)<w then own M q else none
 | 0,_=>⟨.nil,fun q=>by rw[if_neg (Nat.not_lt_zero _)];rfl⟩
 | w+1,hw=>by
  obtain⟨i1,i2⟩:=nV hI w (by omega)
  obtain⟨g1,g2⟩:=entF_ok hI (w:=w) (by omega) i1 (fun q e=>by rw[i2,if_neg (by omega)]) _ (Q4 _)
  rw[List.take_length]at g1 g2
  refine⟨g1,fun q=>?_⟩
  show lk (entF M.W w (entW M w) (M.Hd w)) q=_
  rw[g2]
  by_cases e:home M.W (ay q)=w
  ·rw[if_pos e,if_pos (by omega)];unfold own;rw[e]
  ·rw[if_neg e,i2]
   by_cases e2:home M.W (ay q)<w
   ·rw[if_pos e2,if_pos (by omega)]
   ·rw[if_neg e2,if_neg (by omega)]
theorem home_32{W:Nat→Int}(h0:0≤W 0)(h8:W 0≤8)(s:Int):home W s<32:=by
 unfold home
 split
 ·exact(plc_32 (by omega) s).2
 ·rename_i h
  exact(plc_32 (by
   by_cases e:W 0=8
   ·exact absurd (.inl (by omega)) h
   ·omega) s).2
theorem entF_len(W:Nat→Int)(w:Nat):∀(es l:List Ent),(entF W w l es).length≤l.length+es.length
 | [],l=>Q4 _
 | e::r,l=>by
  have h1:entF W w l (e::r)=entF W w (if home W (ay e.key)=w then c7 e.key e.val false l else l) r:=rfl
  rw[h1]
  have h2:=entF_len W w r (if home W (ay e.key)=w then c7 e.key e.val false l else l)
  have h3:(if home W (ay e.key)=w then c7 e.key e.val false l else l).length≤l.length+1:=by
   split
   ·have:=kX e.key e.val false l;simpa using this
   ·omega
  rw[List.length_cons];omega
theorem entW_len{M:Mc}{n:Nat}(h:∀w,(M.Hd w).length≤n):∀w,(entW M w).length≤w*n
 | 0=>Nat.zero_le _
 | w+1=>by
  have h1:=entF_len M.W w (M.Hd w) (entW M w)
  have h2:=entW_len h w
  have h3:=h w
  show(entF M.W w (entW M w) (M.Hd w)).length≤_
  rw[Q18];omega
end Dir
theorem lS{h b:Int}(h0:0≤h)(h1:h<18446744073709551616)(b0:0≤b)(b1:b<256):bits .xor .u64 h b=h/256*256+bits .xor .u8 (h%256) b:=by
 obtain⟨H,rfl⟩:∃H:Nat,h=(H:Int):=⟨h.toNat,by omega⟩
 obtain⟨B,rfl⟩:∃B:Nat,b=(B:Int):=⟨b.toNat,by omega⟩
 have e1:bits .xor .u64 (H:Int) (B:Int)=((H ^^^ B:Nat):Int):=by
  have a1:(BitVec.ofInt 64 (H:Int)).toNat=H:=by rw[BitVec.toNat_ofInt];omega
  have a2:(BitVec.ofInt 64 (B:Int)).toNat=B:=by rw[BitVec.toNat_ofInt];omega
  have a3:H ^^^ B<2^64:=Nat.xor_lt_two_pow (by omega) (by omega)
  show IntKind.u64.wrap ((BitVec.ofInt 64 (H:Int) ^^^ BitVec.ofInt 64 (B:Int)).toNat:Int)=_
  rw[BitVec.toNat_xor,a1,a2]
  exact IntWalk.u64_in _ (by omega)
 have e2:bits .xor .u8 ((H:Int)%256) (B:Int)=((H%256 ^^^ B:Nat):Int):=by
  have a1:(BitVec.ofInt 8 ((H:Int)%256)).toNat=H%256:=by rw[BitVec.toNat_ofInt];omega
  have a2:(BitVec.ofInt 8 (B:Int)).toNat=B:=by rw[BitVec.toNat_ofInt];omega
  have a3:H%256 ^^^ B<2^8:=Nat.xor_lt_two_pow (by omega) (by omega)
  show IntKind.u8.wrap ((BitVec.ofInt 8 ((H:Int)%256) ^^^ BitVec.ofInt 8 (B:Int)).toNat:Int)=_
  rw[BitVec.toNat_xor,a1,a2]
  unfold IntKind.wrap;simp[IntKind.bits,IntKind.signed];omega
 rw[e1,e2]
 have m1:(H ^^^ B)%256=H%256 ^^^ B:=by
  have:=Nat.xor_mod_two_pow (a:=H) (b:=B) (n:=8)
  have hb:B%2^8=B:=Nat.mod_eq_of_lt (by omega)
  rw[hb]at this;exact this
 have m2:(H ^^^ B)/256=H/256:=by
  have:=Nat.xor_div_two_pow (a:=H) (b:=B) (n:=8)
  have hb:B/2^8=0:=Nat.div_eq_of_lt (by omega)
  rw[hb,Nat.xor_zero]at this;exact this
 omega
theorem ec(v:Int):IntKind.u64.wrap v=v%18446744073709551616:=by
 unfold IntKind.wrap;simp[IntKind.bits,IntKind.signed]
theorem rQ(v:Int):0≤IntKind.u64.wrap v∧IntKind.u64.wrap v<18446744073709551616:=by
 rw[ec];omega
end Go.Proofs.YtejiekfnaddanaaGreat
