/- Lemmas of Bk5, Bk6, Bk7a, Bk7, Bk8, Bk9, Bk10, SlLibI64, SlLibCell, Bk11, Bk12, Bk13, Bk14, Bk15, Br1, Br2, Br3a, Dp1, Dp2, Dp3, Dp4. No condition. -/
import Derived.Test.YtgkpjebgcfjfnaaGreatMM5
import Derived.Lib.BytesEntry
import Derived.Laws.Externs
import Derived.Test.YtgkpjebgcfjfnaaGreatRows
import Derived.WalkKit
import Derived.WalkSpells
import Derived.WalkLawsBesides
import Derived.IntWalk
import Derived.BigQuiet
import Derived.Deep.QuietTactic
import Derived.StillTailTactics
import Derived.Deep.RegionWith
import Derived.Deep.RegionHeld3
import Derived.Lib.Hide
import Derived.Deep.Slices
import Derived.ReadAgain
import Derived.ChangeSame
import Derived.ProofKit
import Derived.OpenShut
import Derived.JoinedCond
import Derived.WideWitness
set_option linter.unusedVariables false
set_option linter.unusedSimpArgs false
set_option linter.unusedSectionVars false
set_option maxHeartbeats 80000000
set_option maxRecDepth 100000
namespace Go.Proofs.YtgkpjebgcfjfnaaGreat
open Go.RowKit
structure Cel where
 pol:Int
 key:List Int
 tat:Int
 held:List Int
 deriving Inhabited
def Cel.D(c:Cel):List D:=[.val (.int .i64 c.pol),ao 1 (bc .u8) c.key,.val (.int .i64 c.tat),ao 1 (bc .i64) c.held]
theorem lP(xs:List Int)(hn:xs.length≤16777216):Fun TC 46 0 [.d (ao 1 (bc .i64) xs)] [] 1 (.sl 0 1 0 xs.length) [(0,some (aS 2 1 (bc .i64) xs))]:=by
 refine Fun.mk' Tryz.func46 rfl rfl zN (by decide) ?_
 (repeat' (first|((first|refine Wp.any ac rfl ?_|(with_reducible first|refine Go.mk ?_|apply aj.of|refine And.intro zC ?_));conv=>whnf)|((with_reducible refine And.intro ?hb ?_);(case hb=>exact zz9);(conv=>whnf))|((with_reducible refine gZ ?_ (fun hn0=>?_))<;>(conv=>whnf))))
 ·refine af.of [1] rfl (by simp) rfl ?_ ?_
  ·exact .of_eq (congrArg (SV.sl _ _ _) (Q19 _))
  ·refine⟨⟨⟨rfl,rfl,Q19 _⟩,fun i hi=>?_⟩,trivial⟩
   simp[bB]
 ·obtain rfl:=List.eq_nil_of_length_eq_zero hn0
  refine af.virt 2 1 (fun i=>(bc .i64) (([]:List Int).getD i default)) (by decide) (by decide) ?_
  refine af.of [0] rfl (by simp) rfl ?_ ?_
  ·exact .of_eq rfl
  ·exact⟨⟨⟨rfl,rfl,rfl⟩,fun i hi=>rfl⟩,trivial⟩
theorem iB(xs:List Cel)(hn:xs.length≤16777216):Fun TC 90 0 [.d (ao 4 Cel.D xs)] [] 1 (.sl 0 4 0 xs.length) [(0,some (aS 104 4 Cel.D xs))]:=by
 refine Fun.mk' Tryz.func90 rfl rfl zN (by decide) ?_
 (repeat' (first|((first|refine Wp.any ac rfl ?_|(with_reducible first|refine Go.mk ?_|apply aj.of|refine And.intro zC ?_));conv=>whnf)|((with_reducible refine And.intro ?hb ?_);(case hb=>exact zz9);(conv=>whnf))|((with_reducible refine gZ ?_ (fun hn0=>?_))<;>(conv=>whnf))))
 ·refine af.of [1] rfl (by simp) rfl ?_ ?_
  ·exact .of_eq (congrArg (SV.sl _ _ _) (Q19 _))
  ·refine⟨⟨⟨rfl,rfl,Q19 _⟩,fun i hi=>?_⟩,trivial⟩
   simp[bB]
 ·obtain rfl:=List.eq_nil_of_length_eq_zero hn0
  refine af.virt 104 4 (fun i=>Cel.D (([]:List Cel).getD i default)) (by decide) (by decide) ?_
  refine af.of [0] rfl (by simp) rfl ?_ ?_
  ·exact .of_eq rfl
  ·exact⟨⟨⟨rfl,rfl,rfl⟩,fun i hi=>rfl⟩,trivial⟩
def cG(p:Int)(key:List Int):Int:=if p<0∨32≤p then 1 else if 255<key.length then 2 else 0
def bL(p:Int)(key:List Int):List Int:=if cG p key=0 then p::key else[]
theorem fx(p:Int)(key:List Int):Pure TC 39 [.i .i64 p,.d (ao 1 (bc .u8) key)] (.tup [.d (ao 1 (bc .u8) (bL p key)),.i .i64 (cG p key)]):=by
 refine Pure.mk' Tryz.func39 rfl rfl zN ?_
 (repeat' (first|((first|refine Wp.any ac rfl ?_|(with_reducible first|refine Go.mk ?_|apply aj.of|refine Ov.ok zO ?_|refine And.intro zC ?_));conv=>whnf)|((with_reducible refine And.intro ?hb ?_);(case hb=>exact zz9);(conv=>whnf))|((refine ap (fun hc=>?_) (fun hc=>?_))<;>(try simp only[wz9]at hc)<;>(try (exfalso;omega))<;>(conv=>whnf))))
 ·have hE:cG p key=1:=by rw[cG,if_pos (by omega)]
  rw[bL,hE];exact .tup (.cons .nil (.cons (.rfl _) .nil))
 ·have hE:cG p key=1:=by rw[cG,if_pos (by omega)]
  rw[bL,hE];exact .tup (.cons .nil (.cons (.rfl _) .nil))
 ·have hE:cG p key=2:=by rw[cG,if_neg (by omega),if_pos (by omega)]
  rw[bL,hE];exact .tup (.cons .nil (.cons (.rfl _) .nil))
 ·have hE:cG p key=0:=by rw[cG,if_neg (by omega),if_neg (by omega)]
  rw[bL,hE,Nat.add_comm 1]
  refine .tup (.cons (SV.Le.sl fun i hi=>?_) (.cons (.rfl _) .nil))
  rcases i with _|i
  ·rfl
  ·simp[bB]
def bV(ps:List Pol)(c:Cel)(now:Int):Bool:=if(ps.getD c.pol.toNat default).kind=2 then(c.held.length:Int)==0 else decide (c.tat≤now)
@[reducible] def Cel.S(c:Cel):SV:=.agg [.i .i64 c.pol,.d (ao 1 (bc .u8) c.key),.i .i64 c.tat,.d (ao 1 (bc .i64) c.held)]
theorem sn(ps:List Pol)(c:Cel)(now:Int)(h0:0≤c.pol)(h1:c.pol<ps.length):Pure TC 92 [.d (ao 4 Pol.D ps),c.S,.i .i64 now] (.b (bV ps c now)):=by
 refine Pure.mk' Tryz.func92 rfl rfl zN ?_
 (repeat' (first|((first|refine Wp.any ac rfl ?_|(with_reducible first|refine Go.mk ?_|apply aj.of|refine And.intro zC ?_));conv=>whnf)|((refine ap (fun hc=>?_) (fun hc=>?_))<;>(try simp only[wz9]at hc)<;>(try (exfalso;omega))<;>(conv=>whnf))))
 ·exact .b (by rw[bV,if_pos hc])
 ·exact .b (by rw[bV,if_neg hc])
structure Rpl where
 e:Int
 g:Bool
 left:Int
 wait:Int
 serial:Int
 now:Int
 deriving Inhabited
@[reducible] def Rpl.S(r:Rpl):SV:=.agg [.i .i64 r.e,.b r.g,.i .i64 r.left,.i .i64 r.wait,.i .i64 r.serial,.i .i64 r.now]
@[reducible] def Pol.S(p:Pol):SV:=.agg [.i .u8 p.kind,.i .i64 p.T,.i .i64 p.tau,.i .i64 p.permits]
def jK(p:Pol)(c:Cel)(now n:Int):Rpl:=let a:=decA p.T p.tau c.tat now n;⟨0,a.g,a.left,a.wait,0,now⟩
def mi(p:Pol)(c:Cel)(now n:Int):Cel:=⟨c.pol,c.key,(decA p.T p.tau c.tat now n).tat,c.held⟩
theorem pE(p:Pol)(c:Cel)(now n:Int):Pure TC 129 [p.S,c.S,.i .i64 now,.i .i64 n] (.tup [(jK p c now n).S,(mi p c now n).S]):=by
 refine Pure.mk' Tryz.func129 rfl rfl zN ?_
 (repeat' (first|((first|refine Wp.any ac rfl ?_|(with_reducible first|refine Go.mk ?_|apply aj.of)|refine zV ?_|with_reducible refine ab.pure (mX _ _ _ _ _) rfl rfl ?_);conv=>whnf)))
 exact .of_eq rfl
def o6(p:Pol)(c:Cel)(now:Int):Rpl:=if p.kind=2 then⟨0,false,p.permits-c.held.length,0,0,0⟩else⟨0,false,if pO p.T p.tau [c.tat,now]=0 then dh p.T p.tau c.tat now else 0,tc c.tat now,0,now⟩
theorem mh(p:Pol)(c:Cel)(now:Int)(h1:p.kind=2→-4611686018427387904≤p.permits∧p.permits≤4611686018427387903)(h3:c.held.length≤4611686018427387903):Pure TC 102 [p.S,c.S,.i .i64 now] (o6 p c now).S:=by
 refine Pure.mk' Tryz.func102 rfl rfl zN ?_
 (repeat' (first|((first|refine Wp.any ac rfl ?_|(with_reducible first|refine Go.mk ?_|apply aj.of|refine Ov.ok zO ?_|refine ab.pure (rH _ _ _ _) rfl rfl ?_|refine ab.pure (td _ _) rfl rfl ?_));conv=>whnf)|((refine ap (fun hc=>?_) (fun hc=>?_))<;>(try simp only[wz9]at hc)<;>(try (exfalso;omega))<;>(conv=>whnf))))
 ·exact .of_eq (by rw[o6,if_pos hc])
 ·exact .of_eq (by rw[o6,if_neg hc])
def IsB(xs:List Int):Prop:=∀x∈xs,0≤x∧x≤255
theorem IsB.cons{x:Int}{xs:List Int}(h:IsB (x::xs)):(0≤x∧x≤255)∧IsB xs:=⟨h x (by simp),fun y hy=>h y (by simp[hy])⟩
def bk:List Int→List Int→Int
 | [],[]=>0
 | [],_::_=>-1
 | _::_,[]=>1
 | a::r,b::s=>if a<b then -1 else if b<a then 1 else bk r s
theorem jD:∀(a b:List Int),IsB a→IsB b→Lib.compareBytes (Lib.bytesOf a) (Lib.bytesOf b)=bk a b
 | [],[],_,_=>rfl
 | [],_::_,_,_=>rfl
 | _::_,[],_,_=>rfl
 | x::a,y::b,ha,hb=>by
  obtain⟨hx,ha'⟩:=ha.cons
  obtain⟨hy,hb'⟩:=hb.cons
  have ih:=jD a b ha' hb'
  have e1:(x.toNat.toUInt8<y.toNat.toUInt8)↔x<y:=by
   rw[UInt8.lt_iff_toNat_lt];simp only[Nat.toUInt8,UInt8.toNat_ofNat'];omega
  have e2:(y.toNat.toUInt8<x.toNat.toUInt8)↔y<x:=by
   rw[UInt8.lt_iff_toNat_lt];simp only[Nat.toUInt8,UInt8.toNat_ofNat'];omega
  show Lib.compareBytes (x.toNat.toUInt8::Lib.bytesOf a) (y.toNat.toUInt8::Lib.bytesOf b)=_
  simp only[Lib.compareBytes,bk,e1,e2,ih]
theorem gQ{P:Program}{Im:Nat→Prop}{w:World}{v:Value}{xs:List Int}(h:RD w Im (ao 1 (bc .u8) xs) v):(∃a cap,v=.slice a xs.length cap)∧(Extern.Bytes.bytesOf v).run P w=.ok ⟨(Lib.bytesOf xs).toArray⟩ w:=by
 cases h with
 | sl _ _ _ a cap g hc hm hl ha hg =>
  refine⟨⟨a,cap,rfl⟩,?_⟩
  cases a with
  | none =>
   cases xs with
   | nil=>simp[Extern.Bytes.bytesOf,Lib.bytesOf];rfl
   | cons x r=>obtain⟨b,o,e,_⟩:=ha (by simp);cases e
  | some ad =>
   have:=Lib.run_loadBytesX (P:=P) w xs ad .empty (fun j x hj=>by
    have hjl:=(Q3 hj).1
    obtain⟨b,o,e,_,hcell⟩:=ha (by omega)
    cases e
    have h1:=hcell j 0 hjl (by omega)
    have h2:=hg j 0 hjl (by simp[bc])
    have h3:(bc .u8 (xs.getD j default))[0]'(by simp[bc])=.val (.int .u8 x):=by
     simp[bc,List.getD,hj]
    rw[h3]at h2
    have h4:g j 0=.int .u8 x:=by generalize g j 0=y at h2;cases h2;rfl
    rw[h4]at h1
    rw[Addr.add_lit]
    simpa using h1)
   simp only[Extern.Bytes.bytesOf,this]
   simp
theorem kX(a b:List Int)(ba:IsB a)(bb:IsB b):Pure TC 74 [.d (ao 1 (bc .u8) a),.d (ao 1 (bc .u8) b)] (.i .i64 (bk a b)):=by
 refine⟨.mk Tryz.func74 rfl rfl,fun E w vs hIm hsz hargs=>?_⟩
 obtain⟨va,vb,rfl⟩:∃va vb,vs=#[va,vb]:=⟨vs[0]'(by simp at hsz;omega),vs[1]'(by simp at hsz;omega),by
  apply Array.ext (by simpa using hsz)
  intro i h1 h2
  have:i=0∨i=1:=by simp at h2;omega
  rcases this with rfl|rfl<;>rfl⟩
 have ha:RD w E.Im (ao 1 (bc .u8) a) va:=by
  have:=hargs 0 (by simp)
  cases this with|d _ _ h=>exact h
 have hb:RD w E.Im (ao 1 (bc .u8) b) vb:=by
  have:=hargs 1 (by simp)
  cases this with|d _ _ h=>exact h
 obtain⟨⟨a1,c1,rfl⟩,h1⟩:=gQ (P:=Tryz.prog) ha
 obtain⟨⟨a2,c2,rfl⟩,h2⟩:=gQ (P:=Tryz.prog) hb
 have hr:(callFunc 109 #[.slice a1 a.length c1,.slice a2 b.length c2]).run Tryz.prog w=.ok (.value (.int .i64 (bk a b))) w:=by
  rw[run_callFunc_extern Tryz.func109 (by kernel_rfl) (by kernel_rfl) (by kernel_rfl) (e:=Extern.BytealgCompare.compare) (by kernel_rfl)]
  have h3:(Extern.BytealgCompare.compare #[.slice a1 a.length c1,.slice a2 b.length c2]).run Tryz.prog w=.ok (.int .i64 (bk a b)) w:=by
   change Sem.run Tryz.prog (do pure (goInt (Extern.BytealgCompare.cmp (← Extern.Bytes.bytesOf (.slice a1 a.length c1)) (← Extern.Bytes.bytesOf (.slice a2 b.length c2))))) w=_
   simp only[Sem.run_bind,h1,h2,Result.andThen_ok,Sem.run_pure,Lib.cmp_eq]
   rw[jD a b ba bb]
   rfl
  rw[h3];rfl
 have hc:Calls Tryz.prog 74 #[.slice a1 a.length c1,.slice a2 b.length c2] w fun e w'=>e=.returned (.int .i64 (bk a b))∧w=w':=by
  clear ha hb ba bb h1 h2 hargs hIm hsz
  go_enter Tryz.func74,Tryz.ntmps74
  go_wp2_with (rw[hr])
  go_ret
  exact⟨rfl,rfl⟩
 refine hc.mono ?_
 rintro e w' ⟨rfl,rfl⟩
 exact⟨_,rfl,Kp.refl _,.d _ _ (.val _ rfl)⟩
theorem pf(a b:List Int)(ba:IsB a)(bb:IsB b):Pure TC 49 [.d (ao 1 (bc .u8) a),.d (ao 1 (bc .u8) b)] (.i .i64 (bk a b)):=by
 refine Pure.mk' Tryz.func49 rfl rfl zN ?_
 (repeat' (first|((first|refine Wp.any ac rfl ?_|(with_reducible first|refine Go.mk ?_|apply aj.of|refine ab.pure (kX a b ba bb) rfl rfl ?_));conv=>whnf)))
 exact .i rfl
theorem oe{p:Int}{key:List Int}(h:IsB key):IsB (bL p key):=by
 by_cases h0:cG p key=0
 ·rw[bL,if_pos h0]
  unfold cG at h0
  intro x hx
  rcases Q22 hx with rfl|hx
  ·split at h0<;>omega
  ·exact h x hx
 ·rw[bL,if_neg h0];intro x hx;simp at hx
def mJ(a b:Cel):Int:=bk (bL a.pol a.key) (bL b.pol b.key)
theorem jI(a b:Cel)(ha:IsB a.key)(hb:IsB b.key):Pure TC 31 [a.S,b.S] (.i .i64 (mJ a b)):=by
 refine Pure.mk' Tryz.func31 rfl rfl zN ?_
 (repeat' (first|((first|refine Wp.any ac rfl ?_|(with_reducible first|refine Go.mk ?_|apply aj.of|refine ab.pure (fx _ _) rfl rfl ?_|refine ab.pure (pf _ _ (oe ha) (oe hb)) rfl rfl ?_));conv=>whnf)))
 exact .i rfl
def ca(xs:List Cel)(t:Cel):Nat:=bs (fun k=>decide (mJ (xs.getD k default) t<0)) xs.length
def f8(xs:List Cel)(t:Cel):Bool:=decide (ca xs t<xs.length)&&decide (mJ (xs.getD (ca xs t) default) t=0)
def newC(pol:Int)(key:List Int):Cel:=⟨pol,key,0,[]⟩
def f9(xs:List Cel)(pol:Int)(key:List Int):Cel:=if f8 xs (newC pol key)=true then xs.getD (ca xs (newC pol key)) default else newC pol key
theorem eG(xs:List Cel)(t:Cel):f8 xs t=true↔ca xs t<xs.length∧mJ (xs.getD (ca xs t) default) t=0:=by simp[f8]
theorem hasC_f(xs:List Cel)(t:Cel):f8 xs t=false↔¬(ca xs t<xs.length∧mJ (xs.getD (ca xs t) default) t=0):=by rw[← eG];simp
@[reducible] def bookH(ps:List Pol)(room:Int)(xs:List Cel):List (Nat×Option Blk) :=
 [(0,some (.cells [.d (ao 4 Pol.D ps),.i .i64 room,.sl 1 4 0 xs.length])),(1,some (aS 104 4 Cel.D xs))]
theorem oP:(Tryz.prog.info? 2).map (fun i=>(i.zero,i.size,i.bytes))=some (some (.int .i64 0),1,8):=by kernel_rfl
theorem xd(w:World):(sizeOf 2).run Tryz.prog w=.ok 1 w:=by kernel_rfl
theorem pH(B:Nat)(v:Value)(n i vb cv:Nat)(vcur:Array Value)(xs vs:List Value)(w:World)(hin:i≤n)(hown:w.ownsRow B 2 1 v n xs)(hB:B≤w.heap.size)(hn:n≤16777216)
  (hvl:vs.length=1) (hvb:w.heap[vb]?=some (.cells vcur 2 (0,0))) (hvc:∀(j:Nat) (u:Value),vs[j]?=some u→vcur[j]?=some u) (hne:v.ownBlock≠some vb) (hv1:∀u∈vs,u.oneCell'=true) (hx1:∀u∈xs,u.oneCell'=true) :
  Calls Tryz.prog 162 #[v,.int .i64 i,.slice (some ⟨vb,0,none⟩) 1 cv] w fun e w' =>
   ∃v',e=.returned v'∧w'.ownsRow B 2 1 v' (n+1) (xs.take (i*1)++vs++xs.drop (i*1))∧w.grownBy w' v.ownBlock∧∀k,v'.ownBlock=some k→v.ownBlock=some k∨w.heap.size≤k:=by
 have hv2:=hown.2
 obtain⟨i0,hi0,hz0,hz1,hz2⟩:=info_parts oP
 have hxl:=hown.1
 have hvcell:∀j u,vs[j]?=some u→w.cell? ⟨vb,j,none⟩=some u:=fun j u hj=>by simp[World.cell?,hvb];exact hvc j u hj
 have hvlt:vb<w.heap.size:=(Q17 hvb).1
 have append_end:∀(W:World),W=w→n=i→Calls Tryz.prog 162 #[v,.int .i64 i,.slice (some ⟨vb,0,none⟩) 1 cv] w fun e w' =>
   ∃v',e=.returned v'∧w'.ownsRow B 2 1 v' (n+1) (xs++vs)∧w.grownBy w' v.ownBlock∧∀k,v'.ownBlock=some k→v.ownBlock=some k∨w.heap.size≤k:=by
  intro W _ hni
  subst hni
  have Hown:=Lib.hid hown
  have hva:∀j u,vs[j]?=some u→w.cell? ((⟨vb,0,none⟩:Addr).add j)=some u:=fun j u hj=>by
   have:=hvcell j u hj
   unfold Addr.add;split
   ·rename_i h;subst h;exact this
   ·simpa using this
  have Hva:=Lib.hid hva;have Hl:=Lib.hid hvl;have Hne:=Lib.hid hne
  clear hva hvcell hvb hvc hvl hne hxl
  rcases hv2 with⟨rfl,rfl⟩|⟨g,cap,cur,rfl,hBg,hg,hnc,hcm,hcs,htk⟩
  ·clear hown
   go_enter Tryz.func162,Tryz.ntmps162
   go_wp2_with (first|(at_builtin;refine bg _ rfl _ _ 102 rfl B 2 i0 (.int .i64 0) 1 8 Tryz.underlying102 hi0 hz0 hz1 hz2 rfl (by decide) _ _ _ rfl Hown.out ⟨vb,0,none⟩ 1 _ vs rfl (by rw[Hl.out]) Hva.out hv1 (by unfold maxLen;omega) (by omega) hB ?_;intro v' w1 hown1 hg1 hloc1))
   go_ret
   exact⟨_,rfl,hown1,hg1,hloc1⟩
  ·unfold maxLen at hcm
   have Hg:=Lib.hid hg;clear hg
   have Hcs:=Lib.hid hcs;have Htk:=Lib.hid htk;clear hcs htk hown
   go_enter Tryz.func162,Tryz.ntmps162
   go_wp2_with (first|(at_builtin;refine bg _ rfl _ _ 102 rfl B 2 i0 (.int .i64 0) 1 8 Tryz.underlying102 hi0 hz0 hz1 hz2 rfl (by decide) _ _ _ rfl Hown.out ⟨vb,0,none⟩ 1 _ vs rfl (by rw[Hl.out]) Hva.out hv1 (by unfold maxLen;omega) (by omega) hB ?_;intro v' w1 hown1 hg1 hloc1))
   all_goals(go_ret;exact⟨_,rfl,hown1,hg1,hloc1⟩)
 by_cases hi:n=i
 ·have h:=append_end w rfl hi
  rw[Q21 (by rw[hxl,hi];exact Q4 _),List.drop_of_length_le (by rw[hxl,hi];exact Q4 _),List.append_nil]
  exact h
 ·clear append_end
  have hlt:i<n:=by omega
  rcases hv2 with⟨rfl,rfl⟩|⟨g,cap,cur,rfl,hBg,hg,hnc,hcm,hcs,htk⟩
  ·omega
  ·unfold maxLen at hcm
   have hd0:((i:Int)==n)=false:=by simp;omega
   have hcu:∀j,j<cap*1→∃u,cur[j]?=some u:=fun j hj=>⟨cur[j]'(by omega),by rw[Array.getElem?_eq_getElem (by omega)]⟩
   by_cases hroom:n+1≤cap
   ·have hov:∀lb cb,(callFunc 168 #[.slice (some ⟨vb,0,none⟩) 1 cv,.slice (some ⟨g,i+1,none⟩) lb cb]).run Tryz.prog w=.ok (.value (.bool false)) w:=fun lb cb=>by
     rw[run_callFunc_extern Tryz.func168 (by kernel_rfl) (by kernel_rfl) (by kernel_rfl) (e:=Extern.SlicesOverlaps.overlaps #[102,102] #[4]) (by kernel_rfl),
      Lib.run_overlaps_apart w 102 4 2 Tryz.underlying102 1 xd ⟨vb,0,none⟩ ⟨g,i+1,none⟩ 1 cv lb cb (by intro h;apply hne;simp only at h;rw[h];rfl) 2 2 vcur.size cur.size
       (by simp[World.shape?,hvb]) (by simp[World.shape?,hg]) (by omega) (by simp[World.frozen?,hvb]) (by simp[World.frozen?,hvb])]
     rfl
    go_enter Tryz.func162,Tryz.ntmps162
    go_wp2_with (simp only[hov])
    have hsrc1:∀j u,(xs.drop (i*1))[j]?=some u→w.drew.cell? ((⟨g,i,none⟩:Addr).add j)=some u:=fun j u hj=>by
     show w.cell? _=_
     rw[Addr.add_lit,show w.cell? ⟨g,i+j,none⟩=cur[i+j]? from by simp[World.cell?,hg],← Array.getElem?_toList]
     rw[List.getElem?_drop,← htk,Q15]at hj
     split at hj
     ·simpa using hj
     ·cases hj
    have hw1:IntKind.i64.wrap ((i:Int)+1)=(i:Int)+1:=IntWalk.i64_in _ (by omega)
    have hb1:(0:Int)≤(i:Int)+1:=by omega
    have htn:((i:Int)+1).toNat=i+1:=by omega
    have hb2:¬(cap=i+1):=by omega
    have hb3:(i:Int)≤(n:Int)+1:=by omega
    have hb4:¬(cap=i):=by omega
    have hmul:i*1+1≤n*1:=by omega
    have hdl:(xs.drop (i*1)).length=(n-i)*1:=by rw[List.length_drop,hxl];omega
    have L:=oa cur.toList xs vs (i*1) (n*1) 1 (cap*1) (by simpa using hcs) htk hvl (by omega) (by omega)
    obtain⟨C1,hC1⟩:∃C1:Array Value,C1=(cur.toList.take (i+1)++xs.drop (i*1)++cur.toList.drop (i+1+(xs.drop (i*1)).length)).toArray:=⟨_,rfl⟩
    obtain⟨C2,hC2⟩:∃C2:Array Value,C2=(C1.toList.take (i*1)++vs++C1.toList.drop (i*1+vs.length)).toArray:=⟨_,rfl⟩
    have hC1s:C1.size=cap*1:=by rw[hC1];simp;omega
    have HC1:=Lib.hid hC1;have HC2:=Lib.hid hC2
    have hcp2:∀ty dc,(Builtin.copy_ #[102,102] ty #[.slice (some ⟨g,i,none⟩) (n+1-i) dc,.slice (some ⟨vb,0,none⟩) 1 cv]).run Tryz.prog (w.drew.setRow g C1)=.ok (goInt ((1:Nat):Int)) ((w.drew.setRow g C1).setRow g C2):=by
     intro ty dc
     have hm:Nat.min 1 (n+1-i)=1:=by simp only[Nat.min_def];split<;>omega
     have hgn:vb≠g:=by intro h;apply hne;rw[h];rfl
     have:=bI (P:=Tryz.prog) (w.drew.setRow g C1) 102 102 ty 2 i0 g (i) (n+1-i) dc ⟨vb,0,none⟩ 1 cv C1 2 vs Tryz.underlying102 hi0 (setRow_heap _ g _ _ _ _ hg) (by rw[hvl,hm,hz1])
      (fun j u hj=>by rw[Addr.add_lit,cell_setRow_other _ _ _ _ hgn];simpa using hvcell j u hj) (by rw[hvl,hC1s];omega) hv1
     rw[hm]at this
     rw[this,hC2];try simp only[Nat.mul_one]
    have Hcp2:=Lib.hid hcp2;clear hcp2
    have hcp1:∀ty dc sc,(Builtin.copy_ #[102,102] ty #[.slice (some ⟨g,i+1,none⟩) (n-i) dc,.slice (some ⟨g,i,none⟩) (n+1-i) sc]).run Tryz.prog w.drew=.ok (goInt ((n-i:Nat):Int)) (w.drew.setRow g C1):=by
     intro ty dc sc
     have hm:Nat.min (n+1-i) (n-i)=n-i:=by simp only[Nat.min_def];split<;>omega
     have:=bI (P:=Tryz.prog) w.drew 102 102 ty 2 i0 g (i+1) (n-i) dc ⟨g,i,none⟩ (n+1-i) sc cur 2 (xs.drop (i*1)) Tryz.underlying102 hi0 hg (by rw[hdl,hm,hz1]) hsrc1 (by rw[hdl];omega) (fun u hu=>hx1 u (List.mem_of_mem_drop hu))
     rw[hm]at this;rw[this,hC1]
    have Hcp1:=Lib.hid hcp1;clear hcp1 hC1 hC2
    go_region_law (refine bS rfl _ _ 102 102 rfl _ _ (by simp[Act.eval,Act.put]) (by simp[Act.eval,Act.put]) (Hcp1.out _ (cap-(i+1)) (cap-i)) ?_)
    go_wp2_with (refine bl _ rfl _ _ 102 102 rfl _ _ rfl rfl (Hcp2.out _ (cap-i)) ?_)
    go_ret
    have e1:i+1=i*1+1:=by omega
    have h1:=HC1.out;have h2:=HC2.out
    rw[e1]at h1
    rw[h1]at h2
    simp only[List.toList_toArray]at h2
    obtain⟨L1,L2⟩:=L
    refine⟨_,rfl,⟨?_,Or.inr ⟨g,cap,C2,rfl,hBg,setRow_heap _ g _ _ _ _ (setRow_heap _ g _ _ _ _ hg),hroom,by unfold maxLen;omega,?_,?_⟩⟩,?_⟩
    ·simp only[Q9,Q10,List.length_drop,hxl,hvl];omega
    ·rw[h2];simpa using L1
    ·rw[h2,show(n+1)*1=n*1+1 from by omega];simpa using L2
    ·exact⟨ay (ay bD (a9 _) (fun x hx=>by cases hx;exact Or.inl rfl)) (a9 _) (fun x hx=>by cases hx;exact Or.inl rfl),fun k hk=>Or.inl hk⟩
   ·have hcap:cap=n:=by omega
    have hk1:0<n+1-i:=by omega
    have holds:(Builtin.firstCells i0.size i (.slice (some ⟨g,0,none⟩) i cap)).run Tryz.prog w.drew=.ok (xs.take (i*1)).toArray w.drew:=by
     have:=run_firstCells_some (P:=Tryz.prog) w.drew i0.size i ⟨g,0,none⟩ i cap (xs.take (i*1)) (by rw[Q10,hz1];omega) (fun j u hj=>by
      show w.cell? _=_
      rw[Addr.add_lit,show w.cell? ⟨g,0+j,none⟩=cur[0+j]? from by simp[World.cell?,hg],← Array.getElem?_toList]
      rw[← htk,Q15,Q15]at hj
      split at hj
      ·split at hj
       ·simpa using hj
       ·cases hj
      ·cases hj)
     exact this
    obtain⟨gc,hgc⟩:∃gc,gc=grownCap w (i+(n+1-i)) cap 2:=⟨_,rfl⟩
    have hgc1:n+1≤gc:=by have:=grownCap_ge w (i+(n+1-i)) cap 2;omega
    have hgc2:gc≤9223372036854775807:=by have:=grownCap_le_maxLen w (i+(n+1-i)) cap 2 (by unfold maxLen;omega);unfold maxLen at this;omega
    obtain⟨Zs,hZs⟩:∃Zs:List Value,Zs=(Builtin.zeroCells (.int .i64 0:Value).cells (n+1-i)).toList++(Builtin.zeroCells (.int .i64 0:Value).cells (gc-(n+1))).toList:=⟨_,rfl⟩
    have hzc:(.int .i64 0:Value).cells.size=1:=rfl
    have hZl:Zs.length=(gc-i)*1:=by rw[hZs];simp only[Q9,Array.length_toList,size_zeroCells,hzc];omega
    obtain⟨W1,hW1⟩:∃W1,W1=w.drew.alloc (.cells (xs.take (i*1)++Zs).toArray 2):=⟨_,rfl⟩
    have happ:∀ty,(Builtin.append_ #[102,3] ty #[.slice (some ⟨g,0,none⟩) i cap,.int .i64 ((n:Int)+1-(i:Int))]).run Tryz.prog w=.ok (.slice (some ⟨w.heap.size,0,none⟩) (n+1) gc) W1:=by
     intro ty
     have:=Lib.run_append_grow_zeros (P:=Tryz.prog) w 102 3 ty 2 i0 (.int .i64 0) .i64 .i64 Tryz.underlying102 Tryz.underlying3 hi0 hz0 (some ⟨g,0,none⟩) i cap (xs.take (i*1)) holds (n+1-i) hk1 (by rw[hz1];decide) (by omega) (by omega) (by rw[hz2];omega) (growslice_fits (by omega) (by rw[hz2];omega))
     rw[show((n:Int)+1-(i:Int))=((n+1-i:Nat):Int)from by omega,this,hW1,← hgc,hZs,show i+(n+1-i)=n+1 from by omega]
     congr 3
     apply Array.ext'
     simp[List.append_assoc]
    have hW1a:W1.heap[w.heap.size]?=some (.cells (xs.take (i*1)++Zs).toArray 2 (0,0)):=by rw[hW1];exact aD w.drew _
    have hW1b:∀k,k<w.heap.size→W1.heap[k]?=w.heap[k]?:=fun k hk=>by rw[hW1];exact heap_alloc_old w.drew _ hk
    have hW1g:w.grownBy W1 none:=by rw[hW1];exact ay bD (World.grownBy_alloc _ _ none) (fun x hx=>by cases hx)
    have hglt:g<w.heap.size:=(Q17 hg).1
    obtain⟨A1,hA1⟩:∃A1:Array Value,A1=((xs.take (i*1)++Zs).take (i)++vs++(xs.take (i*1)++Zs).drop (i+vs.length)).toArray:=⟨_,rfl⟩
    obtain⟨W2,hW2⟩:∃W2,W2=W1.setRow w.heap.size A1:=⟨_,rfl⟩
    have hcpA:∀ty dc,(Builtin.copy_ #[102,102] ty #[.slice (some ⟨w.heap.size,i,none⟩) (n+1-i) dc,.slice (some ⟨vb,0,none⟩) 1 cv]).run Tryz.prog W1=.ok (goInt ((1:Nat):Int)) W2:=by
     intro ty dc
     have hm:Nat.min 1 (n+1-i)=1:=by simp only[Nat.min_def];split<;>omega
     have:=bI (P:=Tryz.prog) W1 102 102 ty 2 i0 w.heap.size (i) (n+1-i) dc ⟨vb,0,none⟩ 1 cv _ 2 vs Tryz.underlying102 hi0 hW1a (by rw[hvl,hm,hz1])
      (fun j u hj=>by rw[Addr.add_lit,World.cell?_of_block (hW1b vb hvlt)];simpa using hvcell j u hj) (by rw[hvl];simp only[List.size_toArray,Q9,Q10,hZl,hxl];omega) hv1
     rw[hm]at this
     rw[this,hW2,hA1]
    have hA1s:A1.size=gc*1:=by rw[hA1];simp only[List.size_toArray,Q9,Q10,List.length_drop,hZl,hxl,hvl];omega
    have hW2a:W2.heap[w.heap.size]?=some (.cells A1 2 (0,0)):=by rw[hW2];exact setRow_heap _ _ _ _ _ _ hW1a
    have hW2b:∀k,k<w.heap.size→W2.heap[k]?=w.heap[k]?:=fun k hk=>by rw[hW2,setRow_other _ _ _ _ (by omega)];exact hW1b k hk
    have hdl:(xs.drop (i*1)).length=(n-i)*1:=by rw[List.length_drop,hxl];omega
    obtain⟨A2,hA2⟩:∃A2:Array Value,A2=(A1.toList.take (i+1)++xs.drop (i*1)++A1.toList.drop (i+1+(xs.drop (i*1)).length)).toArray:=⟨_,rfl⟩
    obtain⟨W3,hW3⟩:∃W3,W3=W2.drew.setRow w.heap.size A2:=⟨_,rfl⟩
    have hcpB:∀ty dc sc,(Builtin.copy_ #[102,102] ty #[.slice (some ⟨w.heap.size,i+1,none⟩) (n-i) dc,.slice (some ⟨g,i,none⟩) (n-i) sc]).run Tryz.prog W2.drew=.ok (goInt ((n-i:Nat):Int)) W3:=by
     intro ty dc sc
     have hm:Nat.min (n-i) (n-i)=n-i:=Nat.min_self _
     have:=bI (P:=Tryz.prog) W2.drew 102 102 ty 2 i0 w.heap.size (i+1) (n-i) dc ⟨g,i,none⟩ (n-i) sc A1 2 (xs.drop (i*1)) Tryz.underlying102 hi0 hW2a (by rw[hdl,hm,hz1])
      (fun j u hj=>by
       show W2.cell? _=_
       rw[Addr.add_lit,World.cell?_of_block (hW2b g hglt),show w.cell? ⟨g,i+j,none⟩=cur[i+j]? from by simp[World.cell?,hg],← Array.getElem?_toList]
       rw[List.getElem?_drop,← htk,Q15]at hj
       split at hj
       ·simpa using hj
       ·cases hj) (by rw[hdl,hA1s];omega) (fun u hu=>hx1 u (List.mem_of_mem_drop hu))
     rw[hm]at this
     rw[this,hW3,hA2]
    have L:=rz xs vs Zs (i*1) (n*1) 1 (by rw[hxl]) hvl (by omega) (by rw[hZl];omega)
    have hW3a:W3.heap[w.heap.size]?=some (.cells A2 2 (0,0)):=by rw[hW3];exact setRow_heap _ _ _ _ _ _ hW2a
    have hW3g:w.grownBy W3 (some g):=by
     rw[hW3,hW2]
     exact ay (ay (ay (r:=some g) (⟨hW1g.os,hW1g.tape,hW1g.output,hW1g.size,fun k hk _=>hW1b k hk⟩) (a9 _) (fun x hx=>by cases hx;exact Or.inr (Q4 _))) bD (s:=none) (fun x hx=>by cases hx)) (a9 _) (fun x hx=>by cases hx;exact Or.inr (Q4 _))
    have HA1:=Lib.hid hA1;have HA2:=Lib.hid hA2;have Happ:=Lib.hid happ;have HcpA:=Lib.hid hcpA;have HcpB:=Lib.hid hcpB;have HL:=Lib.hid L;have HW3a:=Lib.hid hW3a;have HW3g:=Lib.hid hW3g;have Hxl:=Lib.hid hxl;have Hvl:=Lib.hid hvl;have HZl:=Lib.hid hZl
    clear hA1 hA2 happ hcpA hcpB L hW3a hW3g hW1 hW2 hW3 hZs hgc holds hW1a hW1b hW1g hA1s hW2a hW2b hdl hzc hZl hxl hvl hown htk hcs hcu hvb hvc hvcell hx1 hv1 hne hg
    have hw1:IntKind.i64.wrap ((i:Int)+1)=(i:Int)+1:=IntWalk.i64_in _ (by omega)
    have hb1:(0:Int)≤(i:Int)+1:=by omega
    have htn:((i:Int)+1).toNat=i+1:=by omega
    have hb2:¬(gc=i+1):=by omega
    have hb3:(i:Int)≤(n:Int)+1:=by omega
    have hb4:¬(gc=i):=by omega
    have hb5:¬(cap=i):=by omega
    clear hcap
    go_enter Tryz.func162,Tryz.ntmps162
    go_wp2_with (first|(at_builtin;refine Lib.wpList_append_run _ rfl _ _ 102 3 rfl _ _ rfl rfl _ _ (Happ.out _) ?_)|(refine bl _ rfl _ _ 102 102 rfl _ _ rfl rfl (HcpA.out _ (gc-i)) ?_))
    go_region_law (refine bS rfl _ _ 102 102 rfl _ _ (by simp[Act.eval,Act.put]) (by simp[Act.eval,Act.put]) (HcpB.out _ (gc-(i+1)) (cap-i)) ?_)
    go_wp2
    go_ret
    have e1:i+1=i*1+1:=by omega
    have h1:A1=((xs.take (i*1)++Zs).take (i*1)++vs++(xs.take (i*1)++Zs).drop (i*1+vs.length)).toArray:=by have:=HA1.out;simpa only[Nat.mul_one]using this
    have h2:=HA2.out
    rw[e1,h1]at h2
    simp only[List.toList_toArray]at h2
    obtain⟨L1,L2⟩:=HL.out
    refine⟨_,rfl,⟨?_,Or.inr ⟨w.heap.size,gc,A2,rfl,hB,HW3a.out,hgc1,by unfold maxLen;omega,?_,?_⟩⟩,HW3g.out,fun k hk=>by cases hk;exact Or.inr (Q4 _)⟩
    ·simp only[Q9,Q10,List.length_drop,Hxl.out,Hvl.out];omega
    ·rw[h2];simp only[List.size_toArray];rw[L1,HZl.out];omega
    ·rw[h2,show(n+1)*1=n*1+1 from by omega];simpa using L2
theorem pI(B:Nat)(v:Value)(n i:Nat)(xs:List Value)(w:World)(hin:i<n)(hown:w.ownsRow B 2 1 v n xs)(hn:n≤16777216)(hx1:∀u∈xs,u.oneCell'=true) :
  Calls Tryz.prog 156 #[v,.int .i64 i,.int .i64 ((i:Int)+1)] w fun e w' =>
   ∃v',e=.returned v'∧w'.ownsRow B 2 1 v' (n-1) (xs.take (i*1)++xs.drop (i*1+1))∧w.grownBy w' v.ownBlock∧∃cap,v'=.slice (v.ownBlock.map fun k=>⟨k,0,none⟩) (n-1) cap∧0<cap:=by
 have hv2:=hown.2
 obtain⟨i0,hi0,hz0,hz1,hz2⟩:=info_parts oP
 have hxl:=hown.1
 rcases hv2 with⟨rfl,rfl⟩|⟨g,cap,cur,rfl,hBg,hg,hnc,hcm,hcs,htk⟩
 ·omega
 ·unfold maxLen at hcm
  have hd0:((i:Int)==(i:Int)+1)=false:=by simp;omega
  obtain⟨Zs,hZs⟩:∃Zs:List Value,Zs=(Builtin.zeroCells (.int .i64 0:Value).cells 1).toList:=⟨_,rfl⟩
  have hzc:(.int .i64 0:Value).cells.size=1:=rfl
  have hZl:Zs.length=1:=by rw[hZs];simp only[Array.length_toList,size_zeroCells,hzc]
  have hdl:(xs.drop (i*1+1)).length=(n-(i+1))*1:=by rw[List.length_drop,hxl];omega
  have L:=wK cur.toList xs Zs (i*1) (n*1) 1 (cap*1) (by simpa using hcs) htk hZl (by omega) (by omega)
  obtain⟨C1,hC1⟩:∃C1:Array Value,C1=(cur.toList.take (i*1)++xs.drop (i*1+1)++cur.toList.drop (i*1+(xs.drop (i*1+1)).length)).toArray:=⟨_,rfl⟩
  have hC1s:C1.size=cap*1:=by rw[hC1];simp only[List.size_toArray,Q9,Q10,List.length_drop,Array.length_toList,hdl,hxl];omega
  obtain⟨W1,hW1⟩:∃W1,W1=w.drew.setRow g C1:=⟨_,rfl⟩
  have happ:∀ty (a:Addr) c,(n-(i+1)≠0→a=⟨g,i+1,none⟩)→(Builtin.append_ #[102,102] ty #[.slice (some ⟨g,0,none⟩) i cap,.slice (some a) (n-(i+1)) c]).run Tryz.prog w.drew=.ok (.slice (some ⟨g,0,none⟩) (n-1) cap) W1:=by
   intro ty a c ha
   have:=run_append_room (P:=Tryz.prog) w.drew 102 ty 2 i0 Tryz.underlying102 hi0 g i cap cur hg a (n-(i+1)) c (xs.drop (i*1+1)) (by rw[hdl,hz1]) (fun j u hj=>by
     have hjl:=(Q3 hj).1
     rw[hdl]at hjl
     rw[ha (by omega)]
     show w.cell? _=_
     rw[Addr.add_lit,show w.cell? ⟨g,i+1+j,none⟩=cur[i+1+j]? from by simp[World.cell?,hg],← Array.getElem?_toList]
     rw[List.getElem?_drop,← htk,Q15]at hj
     split at hj
     ·rw[← hj];congr 1;omega
     ·cases hj) (fun u hu=>hx1 u (List.mem_of_mem_drop hu)) (by omega) (by rw[hdl,hz1,hcs];omega)
   rw[this,hW1,hC1,hz1,show i+(n-(i+1))=n-1 from by omega]
  obtain⟨C2,hC2⟩:∃C2:Array Value,C2=(C1.toList.take ((n-1)*1)++Zs++C1.toList.drop ((n-1)*1+1)).toArray:=⟨_,rfl⟩
  obtain⟨W2,hW2⟩:∃W2,W2=W1.setRow g C2:=⟨_,rfl⟩
  have hclr:∀ty c,(Builtin.clear_ #[102] ty #[.slice (some ⟨g,n-1,none⟩) (n-(n-1)) c]).run Tryz.prog W1=.ok (.tuple #[]) W2:=by
   intro ty c
   have hW1g:W1.heap[g]?=some (.cells C1 2 (0,0)):=by rw[hW1];exact setRow_heap _ _ _ _ _ _ hg
   have:=i9 (P:=Tryz.prog) W1 102 ty 2 i0 (.int .i64 0) g (n-1) 1 c C1 2 Tryz.underlying102 hi0 hz0 (by rw[hz1];rfl) (by decide) hW1g (by rw[hz1,hC1s];omega)
   rw[show n-(n-1)=1 from by omega,this,hW2,hC2,hZs,hz1];try simp only[Nat.mul_one,Nat.one_mul]
  have hgr:w.grownBy W2 (some g):=by
   rw[hW2,hW1]
   exact ay (ay bD (a9 _) (fun x hx=>by cases hx;exact Or.inl rfl)) (a9 _) (fun x hx=>by cases hx;exact Or.inl rfl)
  have hW2a:W2.heap[g]?=some (.cells C2 2 (0,0)):=by rw[hW2];exact setRow_heap _ _ _ _ _ _ (by rw[hW1];exact setRow_heap _ _ _ _ _ _ hg)
  have fin:W2.ownsRow B 2 1 (.slice (some ⟨g,0,none⟩) (n-1) cap) (n-1) (xs.take (i*1)++xs.drop (i*1+1)):=by
   rw[hC1]at hC2
   simp only[List.toList_toArray]at hC2
   rw[show(n-1)*1=n*1-1 from by omega]at hC2
   obtain⟨L1,L2⟩:=L
   refine⟨?_,Or.inr ⟨g,cap,C2,rfl,hBg,hW2a,by omega,by unfold maxLen;omega,?_,?_⟩⟩
   ·rw[Q9,hdl,Q10,hxl];omega
   ·rw[hC2];simpa using L1
   ·rw[hC2,show(n-1)*1=n*1-1 from by omega];simpa using L2
  have Happ:=Lib.hid happ;have Hclr:=Lib.hid hclr;have Hgr:=Lib.hid hgr;have Hfin:=Lib.hid fin
  clear happ hclr hgr fin hW1 hW2 hC1 hC2 hW2a L hZs hZl hdl hzc hC1s hxl hx1 hown htk hcs hg
  have hw1:IntKind.i64.wrap ((i:Int)+1)=(i:Int)+1:=IntWalk.i64_in _ (by omega)
  have hb1:(0:Int)≤(i:Int)+1:=by omega
  have htn:((i:Int)+1).toNat=i+1:=by omega
  have hb3:(i:Int)+1≤(n:Int):=by omega
  have hb4:¬(cap=n-1):=by omega
  have hb6:¬(n=i):=by omega
  have hb7:¬(cap=i):=by omega
  have hb8:((n-1:Nat):Int)≤(n:Int):=by omega
  have hb9:(n:Int)≤(cap:Int):=by omega
  have hb10:(i:Int)≤(cap:Int):=by omega
  have hb11:(i:Int)+1≤(cap:Int):=by omega
  have hb12:(i:Int)<(n:Int):=by omega
  by_cases hb2:cap=i+1
  ·have Happ2:=fun ty c=>Happ.out ty ⟨g,0,none⟩ c (fun h=>absurd h (by omega))
   have hn0:n-(i+1)=0:=by omega
   rw[hn0]at Happ2
   have HA:=Lib.hid Happ2;clear Happ Happ2 hn0
   subst hb2
   have hb13:(i:Int)≤(i:Int)+1:=by omega
   go_enter Tryz.func156,Tryz.ntmps156
   go_wp2_with fail
   go_region_law (refine dl rfl _ _ 102 102 rfl _ _ (by simp[Act.eval,Act.put]) (by simp[Act.eval,Act.put]) (HA.out _ 0) ?_)
   go_wp2_with (refine dd _ rfl _ 102 rfl _ rfl (Hclr.out _ (i+1-(n-1))) ?_)
   go_ret
   exact⟨_,rfl,Hfin.out,Hgr.out,_,rfl,by omega⟩
  ·have Happ2:=fun ty c=>Happ.out ty ⟨g,i+1,none⟩ c (fun _=>rfl)
   have HA:=Lib.hid Happ2;clear Happ Happ2
   go_enter Tryz.func156,Tryz.ntmps156
   go_wp2_with fail
   go_region_law (refine dl rfl _ _ 102 102 rfl _ _ (by simp[Act.eval,Act.put]) (by simp[Act.eval,Act.put]) (HA.out _ (cap-(i+1))) ?_)
   go_wp2_with (refine dd _ rfl _ 102 rfl _ rfl (Hclr.out _ (cap-(n-1))) ?_)
   go_ret
   exact⟨_,rfl,Hfin.out,Hgr.out,_,rfl,by omega⟩
theorem sP:(Tryz.prog.info? 104).map (fun i=>(i.zero,i.size,i.bytes))=some (some (.agg #[.int .i64 0,.slice none 0 0,.int .i64 0,.slice none 0 0]),4,64):=by kernel_rfl
theorem sO(w:World):(sizeOf 104).run Tryz.prog w=.ok 4 w:=by kernel_rfl
theorem nk(B:Nat)(v:Value)(n i vb cv:Nat)(vcur:Array Value)(xs vs:List Value)(w:World)(hin:i≤n)(hown:w.ownsRow B 104 4 v n xs)(hB:B≤w.heap.size)(hn:n≤16777216)
  (hvl:vs.length=4) (hvb:w.heap[vb]?=some (.cells vcur 104 (0,0))) (hvc:∀(j:Nat) (u:Value),vs[j]?=some u→vcur[j]?=some u) (hne:v.ownBlock≠some vb) (hv1:∀u∈vs,u.oneCell'=true) (hx1:∀u∈xs,u.oneCell'=true) :
  Calls Tryz.prog 157 #[v,.int .i64 i,.slice (some ⟨vb,0,none⟩) 1 cv] w fun e w' =>
   ∃v',e=.returned v'∧w'.ownsRow B 104 4 v' (n+1) (xs.take (i*4)++vs++xs.drop (i*4))∧w.grownBy w' v.ownBlock∧∀k,v'.ownBlock=some k→v.ownBlock=some k∨w.heap.size≤k:=by
 have hv2:=hown.2
 obtain⟨i0,hi0,hz0,hz1,hz2⟩:=info_parts sP
 have hxl:=hown.1
 have hvcell:∀j u,vs[j]?=some u→w.cell? ⟨vb,j,none⟩=some u:=fun j u hj=>by simp[World.cell?,hvb];exact hvc j u hj
 have hvlt:vb<w.heap.size:=(Q17 hvb).1
 have append_end:∀(W:World),W=w→n=i→Calls Tryz.prog 157 #[v,.int .i64 i,.slice (some ⟨vb,0,none⟩) 1 cv] w fun e w' =>
   ∃v',e=.returned v'∧w'.ownsRow B 104 4 v' (n+1) (xs++vs)∧w.grownBy w' v.ownBlock∧∀k,v'.ownBlock=some k→v.ownBlock=some k∨w.heap.size≤k:=by
  intro W _ hni
  subst hni
  have Hown:=Lib.hid hown
  have hva:∀j u,vs[j]?=some u→w.cell? ((⟨vb,0,none⟩:Addr).add j)=some u:=fun j u hj=>by
   have:=hvcell j u hj
   unfold Addr.add;split
   ·rename_i h;subst h;exact this
   ·simpa using this
  have Hva:=Lib.hid hva;have Hl:=Lib.hid hvl;have Hne:=Lib.hid hne
  clear hva hvcell hvb hvc hvl hne hxl
  rcases hv2 with⟨rfl,rfl⟩|⟨g,cap,cur,rfl,hBg,hg,hnc,hcm,hcs,htk⟩
  ·clear hown
   go_enter Tryz.func157,Tryz.ntmps157
   go_wp2_with (first|(at_builtin;refine bg _ rfl _ _ 36 rfl B 104 i0 (.agg #[.int .i64 0,.slice none 0 0,.int .i64 0,.slice none 0 0]) 4 64 Tryz.underlying36 hi0 hz0 hz1 hz2 rfl (by decide) _ _ _ rfl Hown.out ⟨vb,0,none⟩ 1 _ vs rfl (by rw[Hl.out]) Hva.out hv1 (by unfold maxLen;omega) (by omega) hB ?_;intro v' w1 hown1 hg1 hloc1))
   go_ret
   exact⟨_,rfl,hown1,hg1,hloc1⟩
  ·unfold maxLen at hcm
   have Hg:=Lib.hid hg;clear hg
   have Hcs:=Lib.hid hcs;have Htk:=Lib.hid htk;clear hcs htk hown
   go_enter Tryz.func157,Tryz.ntmps157
   go_wp2_with (first|(at_builtin;refine bg _ rfl _ _ 36 rfl B 104 i0 (.agg #[.int .i64 0,.slice none 0 0,.int .i64 0,.slice none 0 0]) 4 64 Tryz.underlying36 hi0 hz0 hz1 hz2 rfl (by decide) _ _ _ rfl Hown.out ⟨vb,0,none⟩ 1 _ vs rfl (by rw[Hl.out]) Hva.out hv1 (by unfold maxLen;omega) (by omega) hB ?_;intro v' w1 hown1 hg1 hloc1))
   all_goals(go_ret;exact⟨_,rfl,hown1,hg1,hloc1⟩)
 by_cases hi:n=i
 ·have h:=append_end w rfl hi
  rw[Q21 (by rw[hxl,hi];exact Q4 _),List.drop_of_length_le (by rw[hxl,hi];exact Q4 _),List.append_nil]
  exact h
 ·clear append_end
  have hlt:i<n:=by omega
  rcases hv2 with⟨rfl,rfl⟩|⟨g,cap,cur,rfl,hBg,hg,hnc,hcm,hcs,htk⟩
  ·omega
  ·unfold maxLen at hcm
   have hd0:((i:Int)==n)=false:=by simp;omega
   have hcu:∀j,j<cap*4→∃u,cur[j]?=some u:=fun j hj=>⟨cur[j]'(by omega),by rw[Array.getElem?_eq_getElem (by omega)]⟩
   by_cases hroom:n+1≤cap
   ·have hov:∀lb cb,(callFunc 165 #[.slice (some ⟨vb,0,none⟩) 1 cv,.slice (some ⟨g,(i+1)*4,none⟩) lb cb]).run Tryz.prog w=.ok (.value (.bool false)) w:=fun lb cb=>by
     rw[run_callFunc_extern Tryz.func165 (by kernel_rfl) (by kernel_rfl) (by kernel_rfl) (e:=Extern.SlicesOverlaps.overlaps #[36,36] #[4]) (by kernel_rfl),
      Lib.run_overlaps_apart w 36 4 104 Tryz.underlying36 4 sO ⟨vb,0,none⟩ ⟨g,(i+1)*4,none⟩ 1 cv lb cb (by intro h;apply hne;simp only at h;rw[h];rfl) 104 104 vcur.size cur.size
       (by simp[World.shape?,hvb]) (by simp[World.shape?,hg]) (by omega) (by simp[World.frozen?,hvb]) (by simp[World.frozen?,hvb])]
     rfl
    go_enter Tryz.func157,Tryz.ntmps157
    go_wp2_with (simp only[hov])
    have hsrc1:∀j u,(xs.drop (i*4))[j]?=some u→w.drew.cell? ((⟨g,i*4,none⟩:Addr).add j)=some u:=fun j u hj=>by
     show w.cell? _=_
     rw[Addr.add_lit,show w.cell? ⟨g,i*4+j,none⟩=cur[i*4+j]? from by simp[World.cell?,hg],← Array.getElem?_toList]
     rw[List.getElem?_drop,← htk,Q15]at hj
     split at hj
     ·simpa using hj
     ·cases hj
    have hw1:IntKind.i64.wrap ((i:Int)+1)=(i:Int)+1:=IntWalk.i64_in _ (by omega)
    have hb1:(0:Int)≤(i:Int)+1:=by omega
    have htn:((i:Int)+1).toNat=i+1:=by omega
    have hb2:¬(cap=i+1):=by omega
    have hb3:(i:Int)≤(n:Int)+1:=by omega
    have hb4:¬(cap=i):=by omega
    have hmul:i*4+4≤n*4:=by omega
    have hdl:(xs.drop (i*4)).length=(n-i)*4:=by rw[List.length_drop,hxl];omega
    have L:=oa cur.toList xs vs (i*4) (n*4) 4 (cap*4) (by simpa using hcs) htk hvl (by omega) (by omega)
    obtain⟨C1,hC1⟩:∃C1:Array Value,C1=(cur.toList.take ((i+1)*4)++xs.drop (i*4)++cur.toList.drop ((i+1)*4+(xs.drop (i*4)).length)).toArray:=⟨_,rfl⟩
    obtain⟨C2,hC2⟩:∃C2:Array Value,C2=(C1.toList.take (i*4)++vs++C1.toList.drop (i*4+vs.length)).toArray:=⟨_,rfl⟩
    have hC1s:C1.size=cap*4:=by rw[hC1];simp;omega
    have HC1:=Lib.hid hC1;have HC2:=Lib.hid hC2
    have hcp2:∀ty dc,(Builtin.copy_ #[36,36] ty #[.slice (some ⟨g,i*4,none⟩) (n+1-i) dc,.slice (some ⟨vb,0,none⟩) 1 cv]).run Tryz.prog (w.drew.setRow g C1)=.ok (goInt ((1:Nat):Int)) ((w.drew.setRow g C1).setRow g C2):=by
     intro ty dc
     have hm:Nat.min 1 (n+1-i)=1:=by simp only[Nat.min_def];split<;>omega
     have hgn:vb≠g:=by intro h;apply hne;rw[h];rfl
     have:=bI (P:=Tryz.prog) (w.drew.setRow g C1) 36 36 ty 104 i0 g (i*4) (n+1-i) dc ⟨vb,0,none⟩ 1 cv C1 104 vs Tryz.underlying36 hi0 (setRow_heap _ g _ _ _ _ hg) (by rw[hvl,hm,hz1])
      (fun j u hj=>by rw[Addr.add_lit,cell_setRow_other _ _ _ _ hgn];simpa using hvcell j u hj) (by rw[hvl,hC1s];omega) hv1
     rw[hm]at this
     rw[this,hC2];try simp only[Nat.mul_one]
    have Hcp2:=Lib.hid hcp2;clear hcp2
    have hcp1:∀ty dc sc,(Builtin.copy_ #[36,36] ty #[.slice (some ⟨g,(i+1)*4,none⟩) (n-i) dc,.slice (some ⟨g,i*4,none⟩) (n+1-i) sc]).run Tryz.prog w.drew=.ok (goInt ((n-i:Nat):Int)) (w.drew.setRow g C1):=by
     intro ty dc sc
     have hm:Nat.min (n+1-i) (n-i)=n-i:=by simp only[Nat.min_def];split<;>omega
     have:=bI (P:=Tryz.prog) w.drew 36 36 ty 104 i0 g ((i+1)*4) (n-i) dc ⟨g,i*4,none⟩ (n+1-i) sc cur 104 (xs.drop (i*4)) Tryz.underlying36 hi0 hg (by rw[hdl,hm,hz1]) hsrc1 (by rw[hdl];omega) (fun u hu=>hx1 u (List.mem_of_mem_drop hu))
     rw[hm]at this;rw[this,hC1]
    have Hcp1:=Lib.hid hcp1;clear hcp1 hC1 hC2
    go_region_law (refine bS rfl _ _ 36 36 rfl _ _ (by simp[Act.eval,Act.put]) (by simp[Act.eval,Act.put]) (Hcp1.out _ (cap-(i+1)) (cap-i)) ?_)
    go_wp2_with (refine bl _ rfl _ _ 36 36 rfl _ _ rfl rfl (Hcp2.out _ (cap-i)) ?_)
    go_ret
    have e1:(i+1)*4=i*4+4:=by omega
    have h1:=HC1.out;have h2:=HC2.out
    rw[e1]at h1
    rw[h1]at h2
    simp only[List.toList_toArray]at h2
    obtain⟨L1,L2⟩:=L
    refine⟨_,rfl,⟨?_,Or.inr ⟨g,cap,C2,rfl,hBg,setRow_heap _ g _ _ _ _ (setRow_heap _ g _ _ _ _ hg),hroom,by unfold maxLen;omega,?_,?_⟩⟩,?_⟩
    ·simp only[Q9,Q10,List.length_drop,hxl,hvl];omega
    ·rw[h2];simpa using L1
    ·rw[h2,show(n+1)*4=n*4+4 from by omega];simpa using L2
    ·exact⟨ay (ay bD (a9 _) (fun x hx=>by cases hx;exact Or.inl rfl)) (a9 _) (fun x hx=>by cases hx;exact Or.inl rfl),fun k hk=>Or.inl hk⟩
   ·have hcap:cap=n:=by omega
    have hk1:0<n+1-i:=by omega
    have holds:(Builtin.firstCells i0.size i (.slice (some ⟨g,0,none⟩) i cap)).run Tryz.prog w.drew=.ok (xs.take (i*4)).toArray w.drew:=by
     have:=run_firstCells_some (P:=Tryz.prog) w.drew i0.size i ⟨g,0,none⟩ i cap (xs.take (i*4)) (by rw[Q10,hz1];omega) (fun j u hj=>by
      show w.cell? _=_
      rw[Addr.add_lit,show w.cell? ⟨g,0+j,none⟩=cur[0+j]? from by simp[World.cell?,hg],← Array.getElem?_toList]
      rw[← htk,Q15,Q15]at hj
      split at hj
      ·split at hj
       ·simpa using hj
       ·cases hj
      ·cases hj)
     exact this
    obtain⟨gc,hgc⟩:∃gc,gc=grownCap w (i+(n+1-i)) cap 104:=⟨_,rfl⟩
    have hgc1:n+1≤gc:=by have:=grownCap_ge w (i+(n+1-i)) cap 104;omega
    have hgc2:gc≤9223372036854775807:=by have:=grownCap_le_maxLen w (i+(n+1-i)) cap 104 (by unfold maxLen;omega);unfold maxLen at this;omega
    obtain⟨Zs,hZs⟩:∃Zs:List Value,Zs=(Builtin.zeroCells (.agg #[.int .i64 0,.slice none 0 0,.int .i64 0,.slice none 0 0]:Value).cells (n+1-i)).toList++(Builtin.zeroCells (.agg #[.int .i64 0,.slice none 0 0,.int .i64 0,.slice none 0 0]:Value).cells (gc-(n+1))).toList:=⟨_,rfl⟩
    have hzc:(.agg #[.int .i64 0,.slice none 0 0,.int .i64 0,.slice none 0 0]:Value).cells.size=4:=rfl
    have hZl:Zs.length=(gc-i)*4:=by rw[hZs];simp only[Q9,Array.length_toList,size_zeroCells,hzc];omega
    obtain⟨W1,hW1⟩:∃W1,W1=w.drew.alloc (.cells (xs.take (i*4)++Zs).toArray 104):=⟨_,rfl⟩
    have happ:∀ty,(Builtin.append_ #[36,3] ty #[.slice (some ⟨g,0,none⟩) i cap,.int .i64 ((n:Int)+1-(i:Int))]).run Tryz.prog w=.ok (.slice (some ⟨w.heap.size,0,none⟩) (n+1) gc) W1:=by
     intro ty
     have:=Lib.run_append_grow_zeros (P:=Tryz.prog) w 36 3 ty 104 i0 (.agg #[.int .i64 0,.slice none 0 0,.int .i64 0,.slice none 0 0]) .i64 .i64 Tryz.underlying36 Tryz.underlying3 hi0 hz0 (some ⟨g,0,none⟩) i cap (xs.take (i*4)) holds (n+1-i) hk1 (by rw[hz1];decide) (by omega) (by omega) (by rw[hz2];omega) (growslice_fits (by omega) (by rw[hz2];omega))
     rw[show((n:Int)+1-(i:Int))=((n+1-i:Nat):Int)from by omega,this,hW1,← hgc,hZs,show i+(n+1-i)=n+1 from by omega]
     congr 3
     apply Array.ext'
     simp[List.append_assoc]
    have hW1a:W1.heap[w.heap.size]?=some (.cells (xs.take (i*4)++Zs).toArray 104 (0,0)):=by rw[hW1];exact aD w.drew _
    have hW1b:∀k,k<w.heap.size→W1.heap[k]?=w.heap[k]?:=fun k hk=>by rw[hW1];exact heap_alloc_old w.drew _ hk
    have hW1g:w.grownBy W1 none:=by rw[hW1];exact ay bD (World.grownBy_alloc _ _ none) (fun x hx=>by cases hx)
    have hglt:g<w.heap.size:=(Q17 hg).1
    obtain⟨A1,hA1⟩:∃A1:Array Value,A1=((xs.take (i*4)++Zs).take (i*4)++vs++(xs.take (i*4)++Zs).drop (i*4+vs.length)).toArray:=⟨_,rfl⟩
    obtain⟨W2,hW2⟩:∃W2,W2=W1.setRow w.heap.size A1:=⟨_,rfl⟩
    have hcpA:∀ty dc,(Builtin.copy_ #[36,36] ty #[.slice (some ⟨w.heap.size,i*4,none⟩) (n+1-i) dc,.slice (some ⟨vb,0,none⟩) 1 cv]).run Tryz.prog W1=.ok (goInt ((1:Nat):Int)) W2:=by
     intro ty dc
     have hm:Nat.min 1 (n+1-i)=1:=by simp only[Nat.min_def];split<;>omega
     have:=bI (P:=Tryz.prog) W1 36 36 ty 104 i0 w.heap.size (i*4) (n+1-i) dc ⟨vb,0,none⟩ 1 cv _ 104 vs Tryz.underlying36 hi0 hW1a (by rw[hvl,hm,hz1])
      (fun j u hj=>by rw[Addr.add_lit,World.cell?_of_block (hW1b vb hvlt)];simpa using hvcell j u hj) (by rw[hvl];simp only[List.size_toArray,Q9,Q10,hZl,hxl];omega) hv1
     rw[hm]at this
     rw[this,hW2,hA1]
    have hA1s:A1.size=gc*4:=by rw[hA1];simp only[List.size_toArray,Q9,Q10,List.length_drop,hZl,hxl,hvl];omega
    have hW2a:W2.heap[w.heap.size]?=some (.cells A1 104 (0,0)):=by rw[hW2];exact setRow_heap _ _ _ _ _ _ hW1a
    have hW2b:∀k,k<w.heap.size→W2.heap[k]?=w.heap[k]?:=fun k hk=>by rw[hW2,setRow_other _ _ _ _ (by omega)];exact hW1b k hk
    have hdl:(xs.drop (i*4)).length=(n-i)*4:=by rw[List.length_drop,hxl];omega
    obtain⟨A2,hA2⟩:∃A2:Array Value,A2=(A1.toList.take ((i+1)*4)++xs.drop (i*4)++A1.toList.drop ((i+1)*4+(xs.drop (i*4)).length)).toArray:=⟨_,rfl⟩
    obtain⟨W3,hW3⟩:∃W3,W3=W2.drew.setRow w.heap.size A2:=⟨_,rfl⟩
    have hcpB:∀ty dc sc,(Builtin.copy_ #[36,36] ty #[.slice (some ⟨w.heap.size,(i+1)*4,none⟩) (n-i) dc,.slice (some ⟨g,i*4,none⟩) (n-i) sc]).run Tryz.prog W2.drew=.ok (goInt ((n-i:Nat):Int)) W3:=by
     intro ty dc sc
     have hm:Nat.min (n-i) (n-i)=n-i:=Nat.min_self _
     have:=bI (P:=Tryz.prog) W2.drew 36 36 ty 104 i0 w.heap.size ((i+1)*4) (n-i) dc ⟨g,i*4,none⟩ (n-i) sc A1 104 (xs.drop (i*4)) Tryz.underlying36 hi0 hW2a (by rw[hdl,hm,hz1])
      (fun j u hj=>by
       show W2.cell? _=_
       rw[Addr.add_lit,World.cell?_of_block (hW2b g hglt),show w.cell? ⟨g,i*4+j,none⟩=cur[i*4+j]? from by simp[World.cell?,hg],← Array.getElem?_toList]
       rw[List.getElem?_drop,← htk,Q15]at hj
       split at hj
       ·simpa using hj
       ·cases hj) (by rw[hdl,hA1s];omega) (fun u hu=>hx1 u (List.mem_of_mem_drop hu))
     rw[hm]at this
     rw[this,hW3,hA2]
    have L:=rz xs vs Zs (i*4) (n*4) 4 (by rw[hxl]) hvl (by omega) (by rw[hZl];omega)
    have hW3a:W3.heap[w.heap.size]?=some (.cells A2 104 (0,0)):=by rw[hW3];exact setRow_heap _ _ _ _ _ _ hW2a
    have hW3g:w.grownBy W3 (some g):=by
     rw[hW3,hW2]
     exact ay (ay (ay (r:=some g) (⟨hW1g.os,hW1g.tape,hW1g.output,hW1g.size,fun k hk _=>hW1b k hk⟩) (a9 _) (fun x hx=>by cases hx;exact Or.inr (Q4 _))) bD (s:=none) (fun x hx=>by cases hx)) (a9 _) (fun x hx=>by cases hx;exact Or.inr (Q4 _))
    have HA1:=Lib.hid hA1;have HA2:=Lib.hid hA2;have Happ:=Lib.hid happ;have HcpA:=Lib.hid hcpA;have HcpB:=Lib.hid hcpB;have HL:=Lib.hid L;have HW3a:=Lib.hid hW3a;have HW3g:=Lib.hid hW3g;have Hxl:=Lib.hid hxl;have Hvl:=Lib.hid hvl;have HZl:=Lib.hid hZl
    clear hA1 hA2 happ hcpA hcpB L hW3a hW3g hW1 hW2 hW3 hZs hgc holds hW1a hW1b hW1g hA1s hW2a hW2b hdl hzc hZl hxl hvl hown htk hcs hcu hvb hvc hvcell hx1 hv1 hne hg
    have hw1:IntKind.i64.wrap ((i:Int)+1)=(i:Int)+1:=IntWalk.i64_in _ (by omega)
    have hb1:(0:Int)≤(i:Int)+1:=by omega
    have htn:((i:Int)+1).toNat=i+1:=by omega
    have hb2:¬(gc=i+1):=by omega
    have hb3:(i:Int)≤(n:Int)+1:=by omega
    have hb4:¬(gc=i):=by omega
    have hb5:¬(cap=i):=by omega
    clear hcap
    go_enter Tryz.func157,Tryz.ntmps157
    go_wp2_with (first|(at_builtin;refine Lib.wpList_append_run _ rfl _ _ 36 3 rfl _ _ rfl rfl _ _ (Happ.out _) ?_)|(refine bl _ rfl _ _ 36 36 rfl _ _ rfl rfl (HcpA.out _ (gc-i)) ?_))
    go_region_law (refine bS rfl _ _ 36 36 rfl _ _ (by simp[Act.eval,Act.put]) (by simp[Act.eval,Act.put]) (HcpB.out _ (gc-(i+1)) (cap-i)) ?_)
    go_wp2
    go_ret
    have e1:(i+1)*4=i*4+4:=by omega
    have h1:A1=((xs.take (i*4)++Zs).take (i*4)++vs++(xs.take (i*4)++Zs).drop (i*4+vs.length)).toArray:=by have:=HA1.out;simpa only[Nat.mul_one]using this
    have h2:=HA2.out
    rw[e1,h1]at h2
    simp only[List.toList_toArray]at h2
    obtain⟨L1,L2⟩:=HL.out
    refine⟨_,rfl,⟨?_,Or.inr ⟨w.heap.size,gc,A2,rfl,hB,HW3a.out,hgc1,by unfold maxLen;omega,?_,?_⟩⟩,HW3g.out,fun k hk=>by cases hk;exact Or.inr (Q4 _)⟩
    ·simp only[Q9,Q10,List.length_drop,Hxl.out,Hvl.out];omega
    ·rw[h2];simp only[List.size_toArray];rw[L1,HZl.out];omega
    ·rw[h2,show(n+1)*4=n*4+4 from by omega];simpa using L2
theorem o9(xs:List Int)(i:Nat)(x:Int)(hi:i≤xs.length)(hn:xs.length≤16777215) :
  Fun TC 162 2 [.sl 0 1 0 xs.length,.i .i64 i,.sl 1 1 0 1] [(0,some (aS 2 1 (bc .i64) xs)),(1,some (aS 2 1 (bc .i64) [x]))] 3 (.sl 2 1 0 (cU xs i x).length) [(0,none),(1,none),(2,some (aS 2 1 (bc .i64) (cU xs i x)))]:=by
 by_cases hlt:i<xs.length
 ·refine xA (C:=TC) (z:=1) (enc:=(bc .i64)) zN (.mk Tryz.func162 rfl rfl) (fun x=>rfl) xs i x hlt ?_
  intro v vb cv vcur F vs w h1 h2 h3 h4 h5 h6 h7
  exact pH 0 v xs.length i vb cv vcur F vs w hi h1 (Nat.zero_le _) (by omega) h2 h3 h4 h5 h6 h7
 ·obtain rfl:i=xs.length:=by omega
  refine Fun.mk' Tryz.func162 rfl rfl zN (by decide) ?_
  (repeat' (first|((first|refine Wp.any ac rfl ?_|(with_reducible first|refine Go.mk ?_|apply aj.of|refine Ov.ok zO ?_|refine And.intro zC ?_));conv=>whnf)|((with_reducible refine And.intro ?hb ?_);(case hb=>exact zz9);(conv=>whnf))|((refine ap (fun hc=>?_) (fun hc=>?_))<;>(try simp only[wz9]at hc)<;>(try (exfalso;omega))<;>(conv=>whnf))))
  all_goals try exact absurd trivial hc
  refine af.of [0,1,2] rfl (fun i hi=>by have:i=0∨i=1:=(by omega);rcases this with h|h<;>subst h<;>rfl) rfl ?_ ?_
  ·exact .of_eq (congrArg (SV.sl _ _ _) (aN xs _ x (by omega)).symm)
  ·refine⟨⟨⟨rfl,rfl,(aN xs _ x (by omega)).symm⟩,fun i hi=>?_⟩,trivial⟩
   dsimp only
   rw[fp xs _ x (by omega)]
   simp only[bB]
   by_cases h:i<xs.length
   ·rw[if_pos h,if_pos h]
   ·rw[if_neg h,if_neg h,if_pos (by omega),show i-xs.length=0 by omega];rfl
theorem pA(xs:List Cel)(i:Nat)(x:Cel)(hi:i≤xs.length)(hn:xs.length≤16777215) :
  Fun TC 157 2 [.sl 0 4 0 xs.length,.i .i64 i,.sl 1 4 0 1] [(0,some (aS 104 4 Cel.D xs)),(1,some (aS 104 4 Cel.D [x]))] 3 (.sl 2 4 0 (cU xs i x).length) [(0,none),(1,none),(2,some (aS 104 4 Cel.D (cU xs i x)))]:=by
 by_cases hlt:i<xs.length
 ·refine xA (C:=TC) (z:=4) (enc:=Cel.D) zN (.mk Tryz.func157 rfl rfl) (fun x=>rfl) xs i x hlt ?_
  intro v vb cv vcur F vs w h1 h2 h3 h4 h5 h6 h7
  exact nk 0 v xs.length i vb cv vcur F vs w hi h1 (Nat.zero_le _) (by omega) h2 h3 h4 h5 h6 h7
 ·obtain rfl:i=xs.length:=by omega
  refine Fun.mk' Tryz.func157 rfl rfl zN (by decide) ?_
  (repeat' (first|((first|refine Wp.any ac rfl ?_|(with_reducible first|refine Go.mk ?_|apply aj.of|refine Ov.ok zO ?_|refine And.intro zC ?_));conv=>whnf)|((with_reducible refine And.intro ?hb ?_);(case hb=>exact zz9);(conv=>whnf))|((refine ap (fun hc=>?_) (fun hc=>?_))<;>(try simp only[wz9]at hc)<;>(try (exfalso;omega))<;>(conv=>whnf))))
  all_goals try exact absurd trivial hc
  refine af.of [0,1,2] rfl (fun i hi=>by have:i=0∨i=1:=(by omega);rcases this with h|h<;>subst h<;>rfl) rfl ?_ ?_
  ·exact .of_eq (congrArg (SV.sl _ _ _) (aN xs _ x (by omega)).symm)
  ·refine⟨⟨⟨rfl,rfl,(aN xs _ x (by omega)).symm⟩,fun i hi=>?_⟩,trivial⟩
   dsimp only
   rw[fp xs _ x (by omega)]
   simp only[bB]
   by_cases h:i<xs.length
   ·rw[if_pos h,if_pos h]
   ·rw[if_neg h,if_neg h,if_pos (by omega),show i-xs.length=0 by omega];rfl
theorem pa(xs:List Int)(i:Nat)(hi:i<xs.length)(hn:xs.length≤16777215) :
  Fun TC 156 1 [.sl 0 1 0 xs.length,.i .i64 i,.i .i64 ((i:Int)+1)] [(0,some (aS 2 1 (bc .i64) xs))] 2 (.sl 1 1 0 (iA xs i).length) [(0,none),(1,some (aS 2 1 (bc .i64) (iA xs i)))]:=by
 refine delFun (C:=TC) (z:=1) (enc:=bc .i64) zN (.mk Tryz.func156 rfl rfl) (fun x=>rfl) xs i hi (by unfold maxLen;omega) ?_
 intro v F w h1 h2
 exact pI 0 v xs.length i F w hi h1 (by omega) h2
theorem sg(lt:Nat→Bool):∀(q i j:Nat),i≤j→i≤bsF lt q i j∧bsF lt q i j≤j
 | 0,i,j,h=>⟨Q4 _,h⟩
 | q+1,i,j,h=>by
  unfold bsF
  split
  ·split
   ·have:=sg lt q ((i+j)/2+1) j (by omega);omega
   ·have:=sg lt q i ((i+j)/2) (by omega);omega
  ·omega
theorem bs_le(lt:Nat→Bool)(n:Nat):bs lt n≤n:=(sg lt (n+1) 0 n (Nat.zero_le _)).2
theorem mI(xs:List Int)(n:Int):sS xs n≤xs.length:=bs_le _ _
theorem qF(xs:List Cel)(t:Cel):ca xs t≤xs.length:=bs_le _ _
theorem mV{xs:List Int}{n:Int}(h:pM xs n=true):sS xs n<xs.length:=by simp[pM]at h;exact h.1
theorem jV(p:Int)(xs:List Int):i6 p xs=0→1≤p∧p≤64∧(xs.length:Int)≤p:=by
 unfold i6;split
 ·intro _;omega
 ·intro h;omega
def cL(p:Int)(xs:List Int)(n:Int):Int:=if serB n=false then 1 else if i6 p xs≠0 then i6 p xs else if pM xs n=true then 8 else if(xs.length:Int)=p then 9 else 0
def gI(p:Int)(xs:List Int)(n:Int):List Int:=if cL p xs n=0 then cU xs (sS xs n) n else[]
def oU(p:Int)(xs:List Int)(n:Int):Int:=if cL p xs n=0 then p else 0
theorem qJ(p:Int)(xs:List Int)(n:Int):Pure TC 153 [.agg [.i .i64 p,.d (ao 1 (bc .i64) xs)],.i .i64 n] (.tup [.agg [.i .i64 (oU p xs n),.d (ao 1 (bc .i64) (gI p xs n))],.i .i64 (cL p xs n)]):=by
 have hb:=jV p xs
 have hp:=mI xs n
 refine Pure.mk' Tryz.func153 rfl rfl zN ?_
 (repeat' (first|((first|refine Wp.any ac rfl ?_|(with_reducible first|refine Go.mk ?_|apply aj.of));conv=>whnf)|with_reducible exact rfl|((first|refine zV ?_|with_reducible refine And.intro zC ?_);conv=>whnf)|(with_reducible refine Or.inl ?_)|((with_reducible first|refine ab.pure (gX _) rfl rfl ?_|refine ab.pure (jl _ _) rfl rfl ?_|refine ab.pure (i7 _ _ (by omega)) rfl rfl ?_);conv=>whnf)|((refine ag.new (lP xs (by omega)) [] [] rfl rfl rfl rfl rfl rfl ?ha ?hh ?hs ?_);(case ha=>exact zA);(case hh=>exact zH);(case hs=>exact zK);(conv=>whnf))|((refine ag.new (o9 xs (sS xs n) n (by omega) (by omega)) [6,9] [] rfl rfl rfl rfl rfl rfl ?ha ?hh ?hs ?_);(case ha=>exact zA);(case hh=>exact zH);(case hs=>exact zK);(conv=>whnf))|((refine ap (fun hc=>?_) (fun hc=>?_))<;>(try simp only[wz9]at hc)<;>(try (exfalso;omega))<;>(conv=>whnf))))
 ·have h:cL p xs n=1:=by simp[cL,hc]
  rw[oU,gI,h];exact .tup (.cons (.agg (.cons (.rfl _) (.cons .nil .nil))) (.cons (.rfl _) .nil))
 ·rename_i h1
  have h:cL p xs n=i6 p xs:=by simp[cL,hc,h1]
  rw[oU,gI,h,if_neg hc,if_neg hc];exact .tup (.cons (.agg (.cons (.rfl _) (.cons .nil .nil))) (.cons (.rfl _) .nil))
 ·rename_i h1 h2
  have h:cL p xs n=8:=by simp[cL,hc,h1,h2]
  rw[oU,gI,h];exact .tup (.cons (.agg (.cons (.rfl _) (.cons .nil .nil))) (.cons (.rfl _) .nil))
 ·rename_i h1 h2 h3
  have h:cL p xs n=9:=by simp[cL,hc,h1,h2,h3]
  rw[oU,gI,h];exact .tup (.cons (.agg (.cons (.rfl _) (.cons .nil .nil))) (.cons (.rfl _) .nil))
 ·rename_i h1 h2 h3
  have h:cL p xs n=0:=by simp[cL,hc,h1,h2,h3]
  rw[oU,gI,h,if_pos rfl,if_pos rfl]
  exact .tup (.cons (.agg (.cons (.rfl _) (.cons (SV.Le.sl fun i hi=>by rw[Q19]) .nil))) (.cons (.rfl _) .nil))
def dw(p:Int)(xs:List Int)(n:Int):Int:=if i6 p xs≠0 then i6 p xs else if pM xs n=true then 0 else 11
def kz(p:Int)(xs:List Int)(n:Int):List Int:=if dw p xs n=0 then iA xs (sS xs n)else[]
def wC(p:Int)(xs:List Int)(n:Int):Int:=if dw p xs n=0 then p else 0
theorem qK(p:Int)(xs:List Int)(n:Int):Pure TC 135 [.agg [.i .i64 p,.d (ao 1 (bc .i64) xs)],.i .i64 n] (.tup [.agg [.i .i64 (wC p xs n),.d (ao 1 (bc .i64) (kz p xs n))],.i .i64 (dw p xs n)]):=by
 have hb:=jV p xs
 have hp:=mI xs n
 have hl:=mV (xs:=xs) (n:=n)
 refine Pure.mk' Tryz.func135 rfl rfl zN ?_
 (repeat' (first|((first|refine Wp.any ac rfl ?_|(with_reducible first|refine Go.mk ?_|apply aj.of|refine Ov.ok zO ?_)|refine zV ?_|(with_reducible first|refine And.intro zC ?_|refine ab.pure (jl _ _) rfl rfl ?_|refine ab.pure (i7 _ _ (by omega)) rfl rfl ?_));conv=>whnf)|((refine ag.new (lP xs (by omega)) [] [] rfl rfl rfl rfl rfl rfl ?ha ?hh ?hs ?_);(case ha=>exact zA);(case hh=>exact zH);(case hs=>exact zK);(conv=>whnf))|((refine ag.new (pa xs (sS xs n) (hl (by assumption)) (by omega)) [6] [] rfl rfl rfl rfl rfl rfl ?ha ?hh ?hs ?_);(case ha=>exact zA);(case hh=>exact zH);(case hs=>exact zK);(conv=>whnf))|((refine ap (fun hc=>?_) (fun hc=>?_))<;>(try simp only[wz9]at hc)<;>(try (exfalso;omega))<;>(conv=>whnf))))
 ·have h:dw p xs n=i6 p xs:=by simp[dw,hc]
  have h0:¬dw p xs n=0:=by rw[h];exact hc
  rw[wC,kz,if_neg h0,if_neg h0,h];exact .tup (.cons (.agg (.cons (.rfl _) (.cons .nil .nil))) (.cons (.rfl _) .nil))
 ·rename_i h1
  have h:dw p xs n=11:=by simp[dw,hc,h1]
  rw[wC,kz,h];exact .tup (.cons (.agg (.cons (.rfl _) (.cons .nil .nil))) (.cons (.rfl _) .nil))
 ·rename_i h1
  have h:dw p xs n=0:=by simp[dw,hc,h1]
  rw[wC,kz,h,if_pos rfl,if_pos rfl]
  exact .tup (.cons (.agg (.cons (.rfl _) (.cons (SV.Le.sl fun i hi=>by rw[Q19]) .nil))) (.cons (.rfl _) .nil))
def xb(p:Pol)(c:Cel)(n:Int):Rpl:=if cL p.permits c.held n=0 then⟨0,true,p.permits-(gI p.permits c.held n).length,0,n,0⟩else⟨cL p.permits c.held n,false,0,0,0,0⟩
def pG(p:Pol)(c:Cel)(n:Int):Cel:=if cL p.permits c.held n=0 then⟨c.pol,c.key,c.tat,gI p.permits c.held n⟩else c
def qB(p:Pol)(c:Cel)(n:Int):Rpl:=if dw p.permits c.held n=0 then⟨0,true,p.permits-(kz p.permits c.held n).length,0,0,0⟩else⟨dw p.permits c.held n,false,0,0,0,0⟩
def qC(p:Pol)(c:Cel)(n:Int):Cel:=if dw p.permits c.held n=0 then⟨c.pol,c.key,c.tat,kz p.permits c.held n⟩else c
theorem takeE_0{p:Int}{xs:List Int}{n:Int}:cL p xs n=0↔serB n=true∧i6 p xs=0∧pM xs n=false∧¬(xs.length:Int)=p:=by
 unfold cL
 by_cases h1:serB n=false
 ·rw[if_pos h1];simp[h1]
 ·rw[if_neg h1]
  by_cases h2:i6 p xs=0
  ·rw[if_neg (fun h=>h h2)]
   by_cases h3:pM xs n=true
   ·rw[if_pos h3];simp[h3]
   ·rw[if_neg h3]
    by_cases h4:(xs.length:Int)=p
    ·rw[if_pos h4];simp[h4]
    ·rw[if_neg h4];simp_all
  ·rw[if_pos h2];simp[h2]
theorem rF{p:Int}{xs:List Int}{n:Int}:dw p xs n=0↔i6 p xs=0∧pM xs n=true:=by
 unfold dw
 by_cases h2:i6 p xs=0
 ·rw[if_neg (fun h=>h h2)]
  by_cases h3:pM xs n=true
  ·rw[if_pos h3];simp[h2,h3]
  ·rw[if_neg h3];simp[h3]
 ·rw[if_pos h2];simp[h2]
theorem nu{p:Int}{xs:List Int}{n:Int}(h:cL p xs n=0):1≤p∧p≤64∧((gI p xs n).length:Int)≤p:=by
 obtain⟨_,h1,_,h2⟩:=takeE_0.1 h
 have hb:=jV p xs h1
 rw[gI,if_pos h,aN _ _ _ (mI _ _)]
 omega
theorem oi{p:Int}{xs:List Int}{n:Int}(h:dw p xs n=0):1≤p∧p≤64∧((kz p xs n).length:Int)<p:=by
 obtain⟨h1,hh⟩:=rF.1 h
 have hb:=jV p xs h1
 have:=mV hh
 rw[kz,if_pos h,fU _ _ this]
 omega
theorem fX(p:Pol)(c:Cel)(n:Int):Pure TC 132 [p.S,c.S,.i .i64 n] (.tup [(xb p c n).S,(pG p c n).S]):=by
 have hb:=nu (p:=p.permits) (xs:=c.held) (n:=n)
 refine Pure.mk' Tryz.func132 rfl rfl zN ?_
 (repeat' (first|((first|refine Wp.any ac rfl ?_|(with_reducible first|refine Go.mk ?_|apply aj.of|refine Ov.ok zO ?_)|refine zV ?_|with_reducible refine ab.pure (qJ _ _ _) rfl rfl ?_);conv=>whnf)|((refine ap (fun hc=>?_) (fun hc=>?_))<;>(try simp only[wz9]at hc)<;>(try (exfalso;omega))<;>(conv=>whnf))))
 ·rw[xb,pG,if_neg hc,if_neg hc];exact .rfl _
 ·rw[xb,pG,if_pos hc,if_pos hc];exact .rfl _
theorem fW(p:Pol)(c:Cel)(n:Int):Pure TC 100 [p.S,c.S,.i .i64 n] (.tup [(qB p c n).S,(qC p c n).S]):=by
 have hb:=oi (p:=p.permits) (xs:=c.held) (n:=n)
 refine Pure.mk' Tryz.func100 rfl rfl zN ?_
 (repeat' (first|((first|refine Wp.any ac rfl ?_|(with_reducible first|refine Go.mk ?_|apply aj.of|refine Ov.ok zO ?_)|refine zV ?_|with_reducible refine ab.pure (qK _ _ _) rfl rfl ?_);conv=>whnf)|((refine ap (fun hc=>?_) (fun hc=>?_))<;>(try simp only[wz9]at hc)<;>(try (exfalso;omega))<;>(conv=>whnf))))
 ·rw[qB,qC,if_neg hc,if_neg hc];exact .rfl _
 ·rw[qB,qC,if_pos hc,if_pos hc];exact .rfl _
theorem az(xs:List Int)(hn:xs.length≤16777216):Pure TC 24 [.d (ao 1 (bc .u8) xs)] (.d (ao 1 (bc .u8) xs)):=by
 refine Pure.mk' Tryz.func24 rfl rfl zN ?_
 (repeat' (first|((first|refine Wp.any ac rfl ?_|(with_reducible first|refine Go.mk ?_|apply aj.of|refine And.intro zC ?_));conv=>whnf)|((with_reducible refine And.intro ?hb ?_);(case hb=>exact zz9);(conv=>whnf))|((with_reducible refine gZ ?_ (fun hn0=>?_))<;>(conv=>whnf))))
 ·rw[Q19];exact SV.Le.sl fun i hi=>by simp[bB]
 ·obtain rfl:=List.eq_nil_of_length_eq_zero hn0
  exact SV.Le.nil
theorem pb(xs:List Int)(hn:xs.length≤16777216):Pure TC 46 [.d (ao 1 (bc .i64) xs)] (.d (ao 1 (bc .i64) xs)):=by
 refine Pure.mk' Tryz.func46 rfl rfl zN ?_
 (repeat' (first|((first|refine Wp.any ac rfl ?_|(with_reducible first|refine Go.mk ?_|apply aj.of|refine And.intro zC ?_));conv=>whnf)|((with_reducible refine And.intro ?hb ?_);(case hb=>exact zz9);(conv=>whnf))|((with_reducible refine gZ ?_ (fun hn0=>?_))<;>(conv=>whnf))))
 ·rw[Q19];exact SV.Le.sl fun i hi=>by simp[bB]
 ·obtain rfl:=List.eq_nil_of_length_eq_zero hn0
  exact SV.Le.nil
theorem jh(xs:List Pol)(hn:xs.length≤16777216):Pure TC 20 [.d (ao 4 Pol.D xs)] (.d (ao 4 Pol.D xs)):=by
 refine Pure.mk' Tryz.func20 rfl rfl zN ?_
 (repeat' (first|((first|refine Wp.any ac rfl ?_|(with_reducible first|refine Go.mk ?_|apply aj.of|refine And.intro zC ?_));conv=>whnf)|((with_reducible refine And.intro ?hb ?_);(case hb=>exact zz9);(conv=>whnf))|((with_reducible refine gZ ?_ (fun hn0=>?_))<;>(conv=>whnf))))
 ·rw[Q19];exact SV.Le.sl fun i hi=>by simp[bB]
 ·obtain rfl:=List.eq_nil_of_length_eq_zero hn0
  exact SV.Le.nil
def dj(xs:List Cel)(at':Nat)(there:Bool)(c:Cel):List Cel:=if there=true then xs.set at' c else cU xs at' c
def fst(p:Cel→Bool):List Cel→Nat
 | []=>0
 | c::r=>if p c=true then 0 else fst p r+1
theorem xH(p:Cel→Bool):∀xs:List Cel,fst p xs≤xs.length
 | []=>Q4 _
 | c::r=>by unfold fst;split<;>simp[xH p r]
theorem kB(p:Cel→Bool):∀(xs:List Cel) (k:Nat),k≤xs.length→(∀j,j<k→p (xs.getD j default)=false)→fst p xs=k+fst p (xs.drop k)
 | xs,0,_,_=>by simp
 | [],k+1,h,_=>by simp at h
 | c::r,k+1,h,hp=>by
  have h0:=hp 0 (by omega)
  rw[fst,if_neg (by simpa using h0),List.drop_succ_cons,kB p r k (by simpa using h) (fun j hj=>by simpa using hp (j+1) (by omega))]
  omega
theorem oj(p:Cel→Bool):∀(xs:List Cel) (j:Nat),j<fst p xs→p (xs.getD j default)=false
 | [],j,h=>by simp[fst]at h
 | c::r,j,h=>by
  unfold fst at h
  split at h
  ·omega
  ·cases j with
   | zero=>simpa using(by assumption:¬p c=true)
   | succ j=>simpa using oj p r j (by omega)
theorem rI(p:Cel→Bool):∀(xs:List Cel),fst p xs<xs.length→p (xs.getD (fst p xs) default)=true
 | [],h=>by simp at h
 | c::r,h=>by
  unfold fst at h⊢
  split
  ·simpa
  ·rename_i hc;rw[if_neg hc]at h;simpa using rI p r (by simpa using h)
theorem nr(p:Cel→Bool)(xs:List Cel):∀k,k≤fst p xs→(xs.take k).filter (fun c=>!p c)=xs.take k:=by
 intro k hk
 rw[List.filter_eq_self]
 intro c hc
 obtain⟨j,hj,rfl⟩:=List.getElem_of_mem hc
 simp at hj
 have:=oj p xs j (by omega)
 rw[Q1,Q0 (by omega)]at this
 simpa using this
def lu(ps:List Pol)(now:Int)(xs:List Cel):List Cel:=xs.filter fun c=>!bV ps c now
theorem bF{xs:List Cel}{k:Nat}(h:k<xs.length):xs.take (k+1)=xs.take k++[xs.getD k default]:=by
 rw[List.take_add_one,Q0 h];simp[List.getD,Q0 h]
theorem em{ps:List Pol}(h:cO ps=0):ps.length≤32:=by
 unfold cO at h
 split at h<;>omega
def xo(ps:List Pol)(cells:Int):Int:=if cells<1∨4096<cells then 1 else cO ps
theorem wZ(ps:List Pol)(cells:Int)(h:xo ps cells=0):Fun TC 19 0 [.d (ao 4 Pol.D ps),.i .i64 cells] [] 2 (.tup [.ptr 0 0,.i .i64 0]) (bookH ps cells []):=by
 have hc1:1≤cells∧cells≤4096:=by
  unfold xo at h
  split at h
  ·omega
  ·omega
 have hp:cO ps=0:=by
  unfold xo at h
  split at h
  ·omega
  ·exact h
 have hl:=em hp
 refine Fun.mk' Tryz.func19 rfl rfl zN (by decide) ?_
 (repeat' (first|((first|refine Wp.any ac rfl ?_|(with_reducible first|refine Go.mk ?_|apply aj.of|refine ab.pure (da _) rfl rfl ?_|refine ab.pure (jh ps (by omega)) rfl rfl ?_));conv=>whnf)|((refine ap (fun hc=>?_) (fun hc=>?_))<;>(try simp only[wz9]at hc)<;>(try (exfalso;omega))<;>(conv=>whnf))))
 all_goals try (exfalso;omega)
 refine af.virtC 0 2 104 4 (fun _=>[]) (by decide) rfl rfl (by decide) ?_
 refine af.of [0,1] rfl (fun i hi=>by omega) rfl ?_ ?_
 ·exact .rfl _
 ·((conv=>whnf);repeat' (first|exact trivial|exact SV.Le.rfl _|exact⟨rfl,rfl,rfl⟩|((with_reducible refine And.intro ?_ ?_)<;>(conv=>whnf))))
  exact fun i hi=>absurd hi (Nat.not_lt_zero _)
theorem so(xs:List Cel)(hlen:xs.length≤1000000)(hk:∀k,(xs.getD k default).key.length≤16777216∧(xs.getD k default).held.length≤16777216):Pure TC 29 [.d (ao 4 Cel.D xs)] (.d (ao 4 Cel.D xs)):=by
 refine Pure.mk' Tryz.func29 rfl rfl zN ?_
 (repeat' (first|((first|refine Wp.any ac rfl ?_|(with_reducible first|refine Go.mk ?_|apply aj.of));conv=>whnf)))
 refine Wp.le (Le.virt 3 104 4 (fun i=>(xs.getD i default).D) (by decide) rfl) ?_
 refine Wp.loopP (ι:=Nat) (fun i=>i≤xs.length) (fun i=>⟨⟨Tryz.f29.ntmps,0⟩,1,[(3,.sl 0 4 0 i),(6,.d (ao 4 Cel.D xs)),(7,.i .i64 xs.length),(8,.i .i64 i)],[(0,some (.row 104 4 i fun i=>(xs.getD i default).D))]⟩) (fun i=>xs.length-i) 0 (by simp) ?_ ?_
 ·(refine Le.by [0] rfl rfl rfl rfl ?_ ?_<;>(conv=>whnf)<;>(repeat' (first|exact trivial|exact ae.rfl rfl|exact ae.sl rfl|exact⟨rfl,rfl,rfl⟩|exact fun i hi=>rfl|((with_reducible refine And.intro ?_ ?_)<;>(conv=>whnf)))))
 ·rintro i h1
  (repeat' (first|((first|refine Wp.any ac rfl ?_|(with_reducible first|refine Go.mk ?_|apply aj.of));conv=>whnf)|with_reducible exact rfl|((first|with_reducible refine Ov.ok zO ?_|refine zV ?_|with_reducible refine And.intro zC ?_);conv=>whnf)|((refine mp.b rfl rfl rfl rfl rfl rfl rfl rfl ?hb ?ho ?_);(case hb=>exact zB);(case ho=>omega);(conv=>whnf))|(with_reducible refine Or.inl ?_)|((with_reducible first|refine ag.pure (az _ (hk _).1) rfl rfl ?_|refine ag.pure (pb _ (hk _).2) rfl rfl ?_);conv=>whnf)|((refine ap (fun hc=>?_) (fun hc=>?_))<;>(try simp only[wz9]at hc)<;>(try (exfalso;omega))<;>(conv=>whnf))))
  ·refine⟨i+1,by dsimp only;omega,by dsimp only;omega,?_⟩
   (refine Le.by [15] rfl rfl rfl rfl ?_ ?_<;>(conv=>whnf)<;>(repeat' (first|exact trivial|exact ae.rfl rfl|exact ae.sl rfl|exact⟨rfl,rfl,rfl⟩|((with_reducible refine And.intro ?_ ?_)<;>(conv=>whnf)))))
   intro k hk
   simp only[bB]
   by_cases e:k<i
   ·rw[if_pos e]
   ·rw[if_neg e]
    obtain rfl:k=i:=by omega
    rw[Q13,Nat.sub_self]
    rfl
  ·obtain rfl:i=xs.length:=by omega
   exact SV.Le.sl fun j hj=>by simp only[Q19]
section
structure RLs(w:World)(ds:List D)(cs:List Value):Prop where
 len:ds.length=cs.length
 out:∀(j:Nat) (d:D) (c:Value),ds[j]?=some d→cs[j]?=some c→RD w (fun b=>b<w.heap.size) d c
theorem RLs.nil(w:World):RLs w [] []:=⟨rfl,fun j d c h=>by simp at h⟩
section
variable{H:Type}{enc:TypeId×Value→H}{P:Program}{w:World}{spare:Nat→Bool}
end
end
section
open Go.ChangeShapes Go.WideShapes Go.ChangeAt Go.RowKit
section
variable{H:Type}{enc:TypeId×Value→H}{P:Program}
theorem mj{w w':World}{base:Nat}{sp:Nat→Bool}{hd:Bool}:∀{ts:List TypeId} {vs:List Value} {ds:List (DataW H)} {ps:List MemPlace},DataW.TrodAll enc P w base sp hd ts vs ds ps→(∀p∈ps,w.sameAt w' p)→DataW.TrodAll enc P w' base sp hd ts vs ds ps
 | [],[],[],_,h,_=>h
 | t::ts,v::vs,d::ds,ps,⟨p,q,⟨n,h1⟩,h2,e⟩,hs=>⟨p,q,⟨n,DataW.trod_carry n _ _ _ h1 fun x hx=>hs x (by rw[e];exact List.mem_append_left _ hx)⟩,mj h2 fun x hx=>hs x (by rw[e];exact List.mem_append_right _ hx),e⟩
theorem kept_of{w w':World}(h:Kp w w')(may:MemPlace→Prop):w.keptBut w' may:=by
 refine⟨h.os,h.output,fun i hi=>?_⟩
 have hb:=h.block i hi
 rw[hb]
 rcases hq:w.heap[i]? with _|o
 ·simp
 ·cases o<;>simp
theorem wu{T:TypeId→Prop}(K:Kids P T)(hz:∀t e,T t→P.underlying t=some (.slice e)→0<P.cellsOf e){f:Func}{s:ChangeSpec}{W W':World}{args:Array Value}{ds gs:List (DataW H)}{before:List MemPlace}{tb:TypeId}
  (hT:∀t∈f.params.toList,T t) (hvars:s.vars=[]) (hr:f.resultTypes=#[tb]) (hb:P.underlying tb=some .bool)
  (hfn:gs=[]→(s.fn H (ds++gs)).results=[.lit (.bool true)]∧(s.fn H (ds++gs)).args=ds∧(s.fn H (ds++gs)).vars=[])
  (hW:DataW.Whole enc P f.params.toList s.vars false W args.toList ds gs before) (hk:Kp W W'):s.post enc P f false true false false W args (.bool true) W':=by
 have hW0:=hW
 obtain⟨p,q,hA,hV,rfl,hfz,_⟩:=hW
 rw[hvars]at hV
 have hgs:gs=[]∧q=[]:=by
  cases gs with
  | nil=>exact⟨rfl,hV⟩
  | cons x r=>exact hV.elim
 obtain⟨rfl,rfl⟩:=hgs
 obtain⟨h1,h2,h3⟩:=hfn rfl
 have hlt:=hW0.lt
 have hsame:∀x∈p,W.sameAt W' x:=fun x hx=>by
  have hb:=hk.block x.block (hlt x (by simpa using hx))
  cases x with
  | cell b o=>exact World.cell?_of_block hb
  | map b=>exact hb
 have hA':=mj hA hsame
 refine⟨ds,[],p++[],[],p,[],hW0,?_,?_,?_,kept_of hk _,fun h=>by cases h⟩
 ·rw[h1,hr]
  exact⟨[],[],shut_bool hb true,rfl,rfl⟩
 ·rw[h2]
  exact DataW.TrodAll.respare K hz hT hA' fun x hx=>by simpa using hlt x (by simpa using hx)
 ·rw[h3,hvars];rfl
end
end
section
open Go.ChangeShapes Go.WideShapes Go.ChangeAt Go.RowKit
theorem own:ownKnob Tryz.prog.godebug=none:=by kernel_rfl
theorem kids:Kids Tryz.prog (·<Tryz.prog.types.size):=kids_rows (by kernel_rfl) (by kernel_rfl)
theorem full:∀t e,t<Tryz.prog.types.size→Tryz.prog.underlying t=some (.slice e)→0<Tryz.prog.cellsOf e:=slices_full_of Tryz.prog (by kernel_rfl)
def shI(k:IntKind)(n:Int):Prop:=(Lit.int k n).wf=true
theorem wf_u8{n:Int}(h:shI .u8 n):0≤n∧n≤255:=by simpa[shI,Lit.wf,IntKind.min,IntKind.max,IntKind.signed,IntKind.bits]using h
structure TLe(d d':D):Prop where
 out:∀w Im v,RD w Im d v→RD w Im d' v
theorem TLe.rfl(d:D):TLe d d:=⟨fun _ _ _ h=>h⟩
theorem TLe.sv{d d':D}(h:TLe d d'):SV.Le (.d d) (.d d'):=⟨fun E nx w v hv=>by cases hv with|d _ _ hv=>exact .d _ _ (h.out _ _ _ hv)⟩
structure LsLe(ds ds':List D):Prop where
 len:ds.length=ds'.length
 out:∀(j:Nat) (d d':D),ds[j]?=some d→ds'[j]?=some d'→TLe d d'
theorem LsLe.nil:LsLe [] []:=⟨_root_.rfl,fun j d d' h=>by simp at h⟩
theorem LsLe.cons{d d':D}{ds ds':List D}(h:TLe d d')(t:LsLe ds ds'):LsLe (d::ds) (d'::ds') :=
 ⟨by simp[t.len],fun j x y hx hy=>by
  cases j with
  | zero=>simp at hx hy;subst hx hy;exact h
  | succ j=>simp at hx hy;exact t.out j x y hx hy⟩
theorem TLe.sl{z n:Nat}{f g:Nat→List D}(h:∀i,i<n→LsLe (f i) (g i)):TLe (.sl z n f) (.sl z n g):=by
 refine⟨fun w Im v hv=>?_⟩
 cases hv with
 | sl _ _ _ a cap gv hc hm hl ha hg =>
  refine .sl z n g a cap gv hc hm (fun i hi=>by rw[← (h i hi).len];exact hl i hi) ha fun i j hi hj=>?_
  have hj':j<(f i).length:=by rw[(h i hi).len];exact hj
  exact((h i hi).out j _ _ (Q0 hj') (Q0 hj)).out _ _ _ (hg i j hi hj')
end
section
namespace Dir
structure Ent where
 key:List Int
 val:Int
deriving DecidableEq,Inhabited
structure Res where
 done:Bool
 e:Int
 n:Int
deriving DecidableEq,Inhabited
structure Kc where
 op:Int
 key:List Int
 val:Int
deriving DecidableEq,Inhabited
inductive CS where
 | none
 | k0 (c:Kc)
 | kE (c:Kc) (w:Nat)
 | kF (c:Kc) (lv w:Nat)
 | kG (c:Kc) (lv w:Nat) (v:Int) (h:List Ent)
 | kH (c:Kc) (lv w:Nat) (h:List Ent)
 | kL (c:Kc) (lv w:Nat) (h:List Ent)
 | kS (c:Kc) (w:Nat) (v:Int) (m:List Ent) (n:Int)
 | s0
 | sM (lv:Nat)
 | sF (lv i:Nat)
 | sG (lv i:Nat) (v:Int) (h:List Ent)
 | sH (lv i:Nat) (up:Bool) (h:List Ent)
 | sL (lv i:Nat) (up:Bool) (h:List Ent)
 | sV (lv:Nat)
deriving Inhabited
abbrev FZ:Int:=4611686018427387904
structure Mc where
 W:Nat→Int
 Hd:Nat→List Ent
def upd{α:Type}(f:Nat→α)(i:Nat)(x:α):Nat→α:=fun j=>if j=i then x else f j
def Mc.set(M:Mc)(w:Nat)(v:Int)(h:List Ent):Mc:=⟨upd M.W w v,upd M.Hd w h⟩
structure Ops where
 sum:List Int→Int
 cut:List Ent→Nat→Nat→List Ent
 fnd:Kc→List Ent→Res ⊕ (List Ent×Int)
def plc(lv:Nat)(s:Int):Nat:=2^lv+(s%2^lv).toNat
def r0:Res:=⟨false,0,0⟩
section
variable(P:Ops)
def found(c:Kc)(w:Nat)(v:Int)(h:List Ent):CS×Res :=
 match P.fnd c h with
 | .inl r=>(.none,r)
 | .inr (m,n)=>(.kS c w v m n,r0)
def entered(c:Kc)(w:Nat)(v:Int)(h:List Ent):CS×Res :=
 if v=0∨FZ≤v then(.k0 c,r0)else found P c w v h
def toH(c:Kc)(lv:Nat)(h:List Ent):CS:=.kH c (lv+1) (plc (lv+1) (P.sum c.key)) h
def move(lv i:Nat):CS:=if i=2^lv then .sV lv else .sF lv i
def upW(lv i:Nat)(up:Bool):Nat:=2^(lv+1)+(if up then i+2^lv else i)
def on(lv i:Nat)(up:Bool)(h:List Ent):CS:=if up then move lv (i+1)else .sH lv i true h
def step(M:Mc):CS→Mc×CS×Res
 | .none=>(M,.none,r0)
 | .k0 c=>(M,if M.W 0%2=0 then .kE c (plc (M.W 0/2).toNat (P.sum c.key))else .kF c (M.W 0/2).toNat (plc (M.W 0/2).toNat (P.sum c.key)),r0)
 | .kE c w=>(M,entered P c w (M.W w) (M.Hd w))
 | .kF c lv w=>(M,if FZ≤M.W w then toH P c lv (M.Hd w)else .kG c lv w (M.W w) (M.Hd w),r0)
 | .kG c lv w v h=>if M.W w=v then(M.set w (v+FZ) h,toH P c lv h,r0)else(M,.kF c lv w,r0)
 | .kH c lv w h=>if M.W w=0 then(M,.kL c lv w h,r0)else(M,entered P c w (M.W w) (M.Hd w))
 | .kL c lv w h=>(if M.W w=0 then M.set w 1 (P.cut h lv (w-2^lv))else M,.kE c w,r0)
 | .kS c w v m n=>if M.W w=v then(M.set w (v+1) m,.none,⟨true,0,n⟩)else(M,.k0 c,r0)
 | .s0=>if M.W 0%2=1 then(M,.sF (M.W 0/2).toNat 0,r0)else if M.W 0/2=4 then(M,.none,⟨true,5,0⟩)else(M,.sM (M.W 0/2).toNat,r0)
 | .sM lv=>if M.W 0=2*lv then(M.set 0 (2*lv+1) [],.sF lv 0,r0)else(M,.s0,r0)
 | .sF lv i=>(M,if FZ≤M.W (2^lv+i)then .sH lv i false (M.Hd (2^lv+i))else .sG lv i (M.W (2^lv+i)) (M.Hd (2^lv+i)),r0)
 | .sG lv i v h=>if M.W (2^lv+i)=v then(M.set (2^lv+i) (v+FZ) h,.sH lv i false h,r0)else(M,.sF lv i,r0)
 | .sH lv i up h=>(M,if M.W (upW lv i up)=0 then .sL lv i up h else on lv i up h,r0)
 | .sL lv i up h=>(if M.W (upW lv i up)=0 then M.set (upW lv i up) 1 (P.cut h (lv+1) (upW lv i up-2^(lv+1)))else M,on lv i up h,r0)
 | .sV lv=>(if M.W 0=2*lv+1 then M.set 0 (2*lv+2) []else M,.none,⟨true,0,0⟩)
end
def okW(D:Int)(lv:Nat)(x low:Int)(B:Int):Prop :=
 0≤x∧(x<FZ→x≤B)∧(2*(lv:Int)+1<D→FZ≤x)∧(D=2*(lv:Int)+1→x≠0)∧(D=2*(lv:Int)→0<x∧x<FZ)∧(D+1=2*(lv:Int)→x=0∨(0<x∧x<FZ∧FZ≤low))∧(D+1<2*(lv:Int)→x=0)
def de(W:Nat→Int)(lv i:Nat):Int:=W (2^(lv-1)+i%2^(lv-1))
structure Iw(W:Nat→Int)(B:Int):Prop where
 d:0≤W 0∧W 0≤8
 w:∀lv i,lv≤4→i<2^lv→okW (W 0) lv (W (2^lv+i)) (de W lv i) B
def Cw(P:Ops)(W:Nat→Int):CS→Prop
 | .none=>True
 | .k0 _=>True
 | .kE _ w=>1≤w∧w<32
 | .kF c lv w=>lv≤3∧w=plc lv (P.sum c.key)∧2*(lv:Int)+1≤W 0
 | .kG c lv w v _=>lv≤3∧w=plc lv (P.sum c.key)∧2*(lv:Int)+1≤W 0∧v<FZ
 | .kH c lv w _=>1≤lv∧lv≤4∧w=plc lv (P.sum c.key)∧2*(lv:Int)-1≤W 0∧FZ≤W (plc (lv-1) (P.sum c.key))
 | .kL c lv w _=>1≤lv∧lv≤4∧w=plc lv (P.sum c.key)∧2*(lv:Int)-1≤W 0∧FZ≤W (plc (lv-1) (P.sum c.key))
 | .kS _ w v _ _=>1≤w∧w<32∧0<v∧v<FZ
 | .s0=>True
 | .sM lv=>lv≤3
 | .sF lv i=>lv≤3∧i<2^lv∧2*(lv:Int)+1≤W 0∧gone W lv i
 | .sG lv i v _=>lv≤3∧i<2^lv∧2*(lv:Int)+1≤W 0∧gone W lv i∧v<FZ
 | .sH lv i up _=>lv≤3∧i<2^lv∧2*(lv:Int)+1≤W 0∧gone W lv i∧FZ≤W (2^lv+i)∧(up=true→W (2^(lv+1)+i)≠0)
 | .sL lv i up _=>lv≤3∧i<2^lv∧2*(lv:Int)+1≤W 0∧gone W lv i∧FZ≤W (2^lv+i)∧(up=true→W (2^(lv+1)+i)≠0)
 | .sV lv=>lv≤3∧2*(lv:Int)+1≤W 0∧gone W lv (2^lv)
where
 gone (W:Nat→Int) (lv i:Nat):Prop:=∀j,j<i→FZ≤W (2^lv+j)∧W (2^(lv+1)+j)≠0∧W (2^(lv+1)+(j+2^lv))≠0
end Dir
end
namespace Dir
theorem upd_same{α:Type}(f:Nat→α)(i:Nat)(x:α):upd f i x i=x:=by simp[upd]
theorem upd_ne{α:Type}(f:Nat→α){i j:Nat}(x:α)(h:j≠i):upd f i x j=f j:=by simp[upd,h]
theorem qs{lv l0 i:Nat}(hi:i<2^lv)(h:lv<l0):2^lv+i<2^l0:=by
 have:2^(lv+1)≤2^l0:=Q16 (by omega) h
 rw[Nat.pow_succ]at this;omega
theorem bQ{lv l0 i i0:Nat}(hi:i<2^lv)(hi0:i0<2^l0)(h:2^lv+i=2^l0+i0):lv=l0∧i=i0:=by
 rcases Nat.lt_trichotomy lv l0 with h1|h1|h1
 ·have:=qs hi h1;omega
 ·subst h1;omega
 ·have:=qs hi0 h1;omega
theorem pow_pos2(n:Nat):0<2^n:=Nat.pow_pos (by omega)
theorem sh_32{lv i:Nat}(hl:lv≤4)(hi:i<2^lv):1≤2^lv+i∧2^lv+i<32:=by
 have h1:=qs (l0:=5) hi (by omega)
 have:=pow_pos2 lv
 omega
theorem plc_sh(lv:Nat)(s:Int):∃i,i<2^lv∧plc lv s=2^lv+i:=by
 refine⟨(s%2^lv).toNat,?_,rfl⟩
 have hp:(0:Int)<2^lv:=by exact_mod_cast pow_pos2 lv
 have h1:=Int.emod_nonneg s (by omega:(2^lv:Int)≠0)
 have h2:=Int.emod_lt_of_pos s hp
 have e:((2^lv:Nat):Int)=2^lv:=by norm_cast
 omega
theorem bh(lv:Nat)(s:Int):2^lv+(plc (lv+1) s-2^(lv+1))%2^lv=plc lv s:=by
 unfold plc
 congr 1
 rw[Nat.add_sub_cancel_left]
 have hp:(0:Int)<2^lv:=by exact_mod_cast pow_pos2 lv
 have e:((2^lv:Nat):Int)=2^lv:=by norm_cast
 have e2:(2^(lv+1):Int)=2^lv*2:=by rw[Int.pow_succ]
 have h1:=Int.emod_nonneg s (by omega:(2^lv:Int)≠0)
 have h2:=Int.emod_nonneg s (by omega:(2^(lv+1):Int)≠0)
 have h3:(s%2^(lv+1))%2^lv=s%2^lv:=Int.emod_emod_of_dvd s ⟨2,e2⟩
 have h4:(((s%2^(lv+1)).toNat%2^lv:Nat):Int)=s%2^lv:=by
  rw[Int.natCast_emod,Int.toNat_of_nonneg h2,e,h3]
 omega
theorem okW.low{D:Int}{lv:Nat}{x low low' B B':Int}(h:okW D lv x low B)(hl:FZ≤low→FZ≤low')(hB:B≤B'):okW D lv x low' B':=by
 unfold okW at h⊢;omega
theorem Iw.sh{W:Nat→Int}{B:Int}(h:Iw W B){lv i:Nat}(hl:lv≤4)(hi:i<2^lv):okW (W 0) lv (W (2^lv+i)) (de W lv i) B:=h.w lv i hl hi
theorem Iw.mono{W:Nat→Int}{B B':Int}(h:Iw W B)(hB:B≤B'):Iw W B':=⟨h.d,fun lv i hl hi=>(h.w lv i hl hi).low (fun h=>h) hB⟩
theorem Iw.set_sh{W:Nat→Int}{B B':Int}(h:Iw W B){l0 i0:Nat}{x:Int}(hl0:l0≤4)(hi0:i0<2^l0)(hB:B≤B')(hx:okW (W 0) l0 x (de W l0 i0) B')(hfz:FZ≤W (2^l0+i0)→FZ≤x):Iw (upd W (2^l0+i0) x) B':=by
 have h00:=sh_32 hl0 hi0
 have e0:upd W (2^l0+i0) x 0=W 0:=upd_ne _ _ (by omega)
 have hlow:∀j,FZ≤W j→FZ≤upd W (2^l0+i0) x j:=fun j hj=>by
  unfold upd
  by_cases e:j=2^l0+i0
  ·rw[if_pos e];subst e;exact hfz hj
  ·rw[if_neg e];exact hj
 refine⟨by rw[e0];exact h.d,fun lv i hl hi=>?_⟩
 rw[e0]
 by_cases e:2^lv+i=2^l0+i0
 ·obtain⟨rfl,rfl⟩:=bQ hi hi0 e
  rw[upd_same]
  exact hx.low (hlow _) (Int.le_refl _)
 ·rw[upd_ne _ _ e]
  exact(h.w lv i hl hi).low (hlow _) hB
theorem Iw.set_d{W:Nat→Int}{B d:Int}(h:Iw W B)(hd:0≤d∧d≤8)(hw:∀lv i,lv≤4→i<2^lv→okW (W 0) lv (W (2^lv+i)) (de W lv i) B→okW d lv (W (2^lv+i)) (de W lv i) B):Iw (upd W 0 d) B:=by
 refine⟨by rw[upd_same];exact hd,fun lv i hl hi=>?_⟩
 have h1:=sh_32 hl hi
 have h2:upd W 0 d (2^lv+i)=W (2^lv+i):=upd_ne _ _ (by omega)
 have h3:de (upd W 0 d) lv i=de W lv i:=upd_ne _ _ (by have:=pow_pos2 (lv-1);omega)
 rw[h2,h3,upd_same]
 exact hw lv i hl hi (h.w lv i hl hi)
theorem Iw.begin{W:Nat→Int}{B:Int}(h:Iw W B){k:Nat}(hk:k≤3)(e:W 0=2*k):Iw (upd W 0 (2*k+1)) B:=by
 refine h.set_d (by omega) fun lv i hl hi ho=>?_
 unfold okW at ho⊢;omega
theorem Iw.fin{W:Nat→Int}{B:Int}(h:Iw W B){k:Nat}(hk:k≤3)(e:W 0=2*k+1)(hg:Cw.gone W k (2^k)):Iw (upd W 0 (2*k+2)) B:=by
 refine h.set_d (by omega) fun lv i hl hi ho=>?_
 by_cases e1:lv=k
 ·subst e1
  have:=(hg i hi).1
  unfold okW at ho⊢;omega
 ·by_cases e2:lv=k+1
  ·subst e2
   have hne:W (2^(k+1)+i)≠0:=by
    by_cases hlt:i<2^k
    ·exact(hg i hlt).2.1
    ·have hj:i-2^k<2^k:=by rw[Nat.pow_succ]at hi;omega
     have:=(hg _ hj).2.2
     rwa [Nat.sub_add_cancel (by omega)]at this
   unfold okW at ho⊢;omega
  ·unfold okW at ho⊢;omega
structure Gr(W W':Nat→Int):Prop where
 d:W 0≤W' 0
 fz:∀w,FZ≤W w→FZ≤W' w
 ne:∀w,W w≠0→W' w≠0
theorem Gr.refl(W:Nat→Int):Gr W W:=⟨Int.le_refl _,fun _ h=>h,fun _ h=>h⟩
theorem Gr.gone{W W':Nat→Int}(h:Gr W W'){lv i:Nat}(hg:Cw.gone W lv i):Cw.gone W' lv i:=fun j hj=>let⟨a,b,c⟩:=hg j hj;⟨h.fz _ a,h.ne _ b,h.ne _ c⟩
theorem Gr.cw{P:Ops}{W W':Nat→Int}(h:Gr W W'){s:CS}(hs:Cw P W s):Cw P W' s:=by
 have hd:=h.d
 cases s with
 | none=>trivial
 | k0 c=>trivial
 | kE c w=>exact hs
 | kF c lv w=>obtain⟨a,b,d⟩:=hs;exact⟨a,b,by omega⟩
 | kG c lv w v m=>obtain⟨a,b,d,e⟩:=hs;exact⟨a,b,by omega,e⟩
 | kH c lv w m=>obtain⟨a,b,d,e,f⟩:=hs;exact⟨a,b,d,by omega,h.fz _ f⟩
 | kL c lv w m=>obtain⟨a,b,d,e,f⟩:=hs;exact⟨a,b,d,by omega,h.fz _ f⟩
 | kS c w v m n=>exact hs
 | s0=>trivial
 | sM lv=>exact hs
 | sF lv i=>obtain⟨a,b,d,e⟩:=hs;exact⟨a,b,by omega,h.gone e⟩
 | sG lv i v m=>obtain⟨a,b,d,e,f⟩:=hs;exact⟨a,b,by omega,h.gone e,f⟩
 | sH lv i up m=>obtain⟨a,b,d,e,f,g⟩:=hs;exact⟨a,b,by omega,h.gone e,h.fz _ f,fun hu=>h.ne _ (g hu)⟩
 | sL lv i up m=>obtain⟨a,b,d,e,f,g⟩:=hs;exact⟨a,b,by omega,h.gone e,h.fz _ f,fun hu=>h.ne _ (g hu)⟩
 | sV lv=>obtain⟨a,b,d⟩:=hs;exact⟨a,by omega,h.gone d⟩
theorem Gr.set{W:Nat→Int}{w:Nat}{x:Int}(hd:w=0→W 0≤x)(hf:FZ≤W w→FZ≤x)(hn:W w≠0→x≠0):Gr W (upd W w x):=by
 refine⟨?_,fun j hj=>?_,fun j hj=>?_⟩
 ·unfold upd
  by_cases e:0=w
  ·rw[if_pos e];exact hd e.symm
  ·rw[if_neg e];exact Int.le_refl _
 ·unfold upd
  by_cases e:j=w
  ·rw[if_pos e];subst e;exact hf hj
  ·rw[if_neg e];exact hj
 ·unfold upd
  by_cases e:j=w
  ·rw[if_pos e];subst e;exact hn hj
  ·rw[if_neg e];exact hj
inductive Chg(W W':Nat→Int)(s':CS)(r:Res):Prop
 | no (h:W'=W)
 | d (h1:W'=upd W 0 (W 0+1)) (h2:W 0<8)
 | fz (w:Nat) (h0:1≤w∧w<16) (h1:0<W w∧W w<FZ) (h2:W'=upd W w (W w+FZ))
 | lay (w:Nat) (h0:1≤w∧w<32) (h1:W w=0) (h2:W'=upd W w 1)
 | key (w:Nat) (h0:1≤w∧w<32) (h1:0<W w∧W w<FZ) (h2:W'=upd W w (W w+1)) (h3:s'=.none) (h4:r.done=true)
theorem sh_16{lv i:Nat}(hl:lv≤3)(hi:i<2^lv):1≤2^lv+i∧2^lv+i<16:=by
 have h1:=qs (l0:=4) hi (by omega)
 have:=pow_pos2 lv
 omega
theorem aK{w:Nat}(h:1≤w∧w<32):∃lv i,lv≤4∧i<2^lv∧w=2^lv+i:=by
 by_cases h1:w<2
 ·exact⟨0,w-1,by omega,by omega,by omega⟩
 by_cases h2:w<4
 ·exact⟨1,w-2,by omega,by omega,by omega⟩
 by_cases h3:w<8
 ·exact⟨2,w-4,by omega,by omega,by omega⟩
 by_cases h4:w<16
 ·exact⟨3,w-8,by omega,by omega,by omega⟩
 ·exact⟨4,w-16,by omega,by omega,by omega⟩
theorem bM{W:Nat→Int}{B:Int}(h:Iw W B){lv i:Nat}(hl:lv≤3)(hi:i<2^lv)(hd:2*(lv:Int)+1≤W 0){v:Int}(hv:v<FZ)(e:W (2^lv+i)=v) :
  (0<v)∧W 0=2*lv+1∧Iw (upd W (2^lv+i) (v+FZ)) B:=by
 have ho:=h.sh (by omega:lv≤4) hi
 rw[e]at ho
 have h1:0<v∧W 0=2*lv+1:=by unfold okW at ho;omega
 refine⟨h1.1,h1.2,h.set_sh (by omega) hi (Int.le_refl _) ?_ (by rw[e];omega)⟩
 unfold okW at ho⊢;omega
theorem lJ{W:Nat→Int}{B:Int}(h:Iw W B)(hB:1≤B){lv i:Nat}(h1:1≤lv)(hl:lv≤4)(hi:i<2^lv)(hd:2*(lv:Int)-1≤W 0)(hlow:FZ≤de W lv i)(e:W (2^lv+i)=0) :
  Iw (upd W (2^lv+i) 1) B:=by
 have ho:=h.sh hl hi
 rw[e]at ho
 have hF:FZ=4611686018427387904:=rfl
 refine h.set_sh hl hi (Int.le_refl _) ?_ (by rw[e];omega)
 unfold okW at ho⊢;omega
theorem ki{W:Nat→Int}{B:Int}(h:Iw W B){w:Nat}(hw:1≤w∧w<32)(hB:B+1<FZ)(hv:0<W w∧W w<FZ):Iw (upd W w (W w+1)) (B+1):=by
 obtain⟨lv,i,hl,hi,rfl⟩:=aK hw
 have ho:=h.sh hl hi
 refine h.set_sh hl hi (by omega) ?_ (by omega)
 unfold okW at ho⊢;omega
end Dir
namespace Dir
structure cC(P:Ops)(W:Nat→Int)(B:Int)(M':Mc)(s':CS)(r:Res):Prop where
 iw:Iw M'.W (B+1)
 cw:Cw P M'.W s'
 gr:Gr W M'.W
 chg:Chg W M'.W s' r
theorem cC.same{P:Ops}{M:Mc}{B:Int}{s':CS}{r:Res}(h:Iw M.W B)(hc:Cw P M.W s'):cC P M.W B M s' r:=⟨h.mono (by omega),hc,.refl _,.no rfl⟩
theorem cH{P:Ops}{W:Nat→Int}{c:Kc}{w:Nat}{v:Int}{h:List Ent}(hw:1≤w∧w<32)(hv:0≤v):Cw P W (entered P c w v h).1:=by
 unfold entered
 split
 ·trivial
 ·unfold found
  split
  ·trivial
  ·exact⟨hw.1,hw.2,by omega,by omega⟩
theorem mM{P:Ops}{W:Nat→Int}{lv i:Nat}(hl:lv≤3)(hi:i<2^lv)(hd:2*(lv:Int)+1≤W 0)(hg:Cw.gone W lv (i+1)):Cw P W (move lv (i+1)):=by
 unfold move
 split
 ·rename_i e;rw[e]at hg;exact⟨hl,hd,hg⟩
 ·exact⟨hl,by omega,hd,hg⟩
theorem ip{W:Nat→Int}{lv i:Nat}(h:Cw.gone W lv i)(h1:FZ≤W (2^lv+i))(h2:W (2^(lv+1)+i)≠0)(h3:W (2^(lv+1)+(i+2^lv))≠0):Cw.gone W lv (i+1):=fun j hj=>by
 by_cases e:j=i
 ·subst e;exact⟨h1,h2,h3⟩
 ·exact h j (by omega)
theorem upW_sh{lv i:Nat}{up:Bool}(hi:i<2^lv):∃j,j<2^(lv+1)∧upW lv i up=2^(lv+1)+j∧j%2^lv=i:=by
 have hp:=Nat.pow_succ 2 lv
 unfold upW
 cases up with
 | true=>exact⟨i+2^lv,by omega,rfl,by rw[Nat.add_mod_right,Nat.mod_eq_of_lt hi]⟩
 | false=>exact⟨i,by omega,rfl,Nat.mod_eq_of_lt hi⟩
theorem mL{P:Ops}{W:Nat→Int}{lv i:Nat}{up:Bool}{h:List Ent}(hl:lv≤3)(hi:i<2^lv)(hd:2*(lv:Int)+1≤W 0)(hg:Cw.gone W lv i)(hf:FZ≤W (2^lv+i))
  (hu:up=true→W (2^(lv+1)+i)≠0) (hn:W (upW lv i up)≠0):Cw P W (on lv i up h):=by
 unfold on
 cases up with
 | true =>
  refine mM hl hi hd (ip hg hf (hu rfl) ?_)
  simpa[upW]using hn
 | false=>exact⟨hl,hi,hd,hg,hf,fun _=>by simpa[upW]using hn⟩
theorem cN{P:Ops}(hP:∀c h r,P.fnd c h=.inl r→r.done=true){M:Mc}{B:Int}(h:Iw M.W B)(hB:1≤B∧B+1<FZ){s:CS}(hs:Cw P M.W s) :
  cC P M.W B (step P M s).1 (step P M s).2.1 (step P M s).2.2:=by
 have hF:FZ=4611686018427387904:=rfl
 have hd:=h.d
 cases s with
 | none=>exact .same h trivial
 | k0 c =>
  have hk:(M.W 0/2).toNat≤4:=by omega
  obtain⟨i,h1,h2⟩:=plc_sh (M.W 0/2).toNat (P.sum c.key)
  have:=sh_32 hk h1
  refine .same h ?_
  show Cw P M.W (if _ then _ else _)
  split
  ·rw[h2];exact this
  ·exact⟨by omega,rfl,by omega⟩
 | kE c w =>
  obtain⟨lv,i,hl,hi,rfl⟩:=aK hs
  have:=h.sh hl hi
  exact .same h (cH hs (by unfold okW at this;omega))
 | kF c lv w =>
  obtain⟨a,b,d⟩:=hs
  refine .same h ?_
  show Cw P M.W (if _ then _ else _)
  split
  ·exact⟨by omega,by omega,rfl,by omega,by rw[Nat.add_sub_cancel,← b];assumption⟩
  ·exact⟨a,b,d,by omega⟩
 | kG c lv w v m =>
  obtain⟨a,b,d,e⟩:=hs
  obtain⟨i,h1,h2⟩:=plc_sh lv (P.sum c.key)
  show cC P M.W B (if _ then _ else _:Mc×CS×Res).1 _ _
  by_cases hm:M.W w=v
  ·have hb:=b
   rw[h2]at hb
   subst hb
   obtain⟨g1,g2,g3⟩:=bM h a h1 d e hm
   have g4:Gr M.W (upd M.W (2^lv+i) (v+FZ)):=.set (fun e0=>by have:=sh_16 a h1;omega) (fun _=>by omega) (fun _=>by omega)
   simp only[step,if_pos hm]
   have hd2:=g4.d
   refine⟨g3.mono (by omega),⟨by omega,by omega,rfl,?_,?_⟩,g4,.fz _ (sh_16 a h1) (by omega) (by rw[hm];rfl)⟩
   ·show _≤upd M.W _ _ 0;omega
   ·rw[Nat.add_sub_cancel,h2];show FZ≤upd M.W _ _ _;rw[upd_same];omega
  ·simp only[step,if_neg hm]
   exact .same h ⟨a,b,d⟩
 | kH c lv w m =>
  obtain⟨a,b,d,e,f⟩:=hs
  obtain⟨i,h1,h2⟩:=plc_sh lv (P.sum c.key)
  have hw:=sh_32 b h1
  rw[← h2,← d]at hw
  have ho:=h.sh b h1
  rw[← h2,← d]at ho
  show cC P M.W B (if _ then _ else _:Mc×CS×Res).1 _ _
  by_cases hm:M.W w=0
  ·simp only[step,if_pos hm];exact .same h ⟨a,b,d,e,f⟩
  ·simp only[step,if_neg hm];exact .same h (cH hw (by unfold okW at ho;omega))
 | kL c lv w m =>
  obtain⟨a,b,d,e,f⟩:=hs
  obtain⟨i,h1,h2⟩:=plc_sh lv (P.sum c.key)
  have hw:=sh_32 b h1
  have hlow:FZ≤de M.W lv i:=by
   have h3:=bh (lv-1) (P.sum c.key)
   rw[Nat.sub_add_cancel a,h2,Nat.add_sub_cancel_left]at h3
   unfold de;rw[h3];exact f
  rw[h2]at d
  subst d
  by_cases hm:M.W (2^lv+i)=0
  ·simp only[step,if_pos hm]
   refine⟨(lJ h hB.1 a b h1 e hlow hm).mono (by omega),hw,.set (fun e0=>by omega) (fun _=>by omega) (fun _=>by omega),.lay _ hw hm rfl⟩
  ·simp only[step,if_neg hm];exact .same h hw
 | kS c w v m n =>
  obtain⟨a,b,d,e⟩:=hs
  by_cases hm:M.W w=v
  ·simp only[step,if_pos hm]
   subst hm
   exact⟨ki h ⟨a,b⟩ hB.2 ⟨d,e⟩,trivial,.set (fun e0=>by omega) (fun _=>by omega) (fun _=>by omega),.key _ ⟨a,b⟩ ⟨d,e⟩ rfl rfl rfl⟩
  ·simp only[step,if_neg hm];exact .same h trivial
 | s0 =>
  show cC P M.W B (if _ then _ else _:Mc×CS×Res).1 _ _
  by_cases h1:M.W 0%2=1
  ·simp only[step,if_pos h1]
   exact .same h ⟨by omega,pow_pos2 _,by omega,fun j hj=>by omega⟩
  ·by_cases h2:M.W 0/2=4
   ·simp only[step,if_neg h1,if_pos h2];exact .same h trivial
   ·simp only[step,if_neg h1,if_neg h2]
    refine .same h ?_
    show _≤_
    omega
 | sM lv =>
  by_cases hm:M.W 0=2*lv
  ·simp only[step,if_pos hm]
   have hl:lv≤3:=hs
   have g:=h.begin hl hm
   have h2:(M.set 0 (2*lv+1) []).W 0=2*lv+1:=by simp[Mc.set,upd]
   refine⟨g.mono (by omega),⟨hl,pow_pos2 _,by omega,fun j hj=>by omega⟩,.set (fun _=>by omega) (fun _=>by omega) (fun _=>by omega),.d ?_ (by omega)⟩
   rw[hm];rfl
  ·simp only[step,if_neg hm];exact .same h trivial
 | sF lv i =>
  obtain⟨a,b,d,e⟩:=hs
  refine .same h ?_
  show Cw P M.W (if _ then _ else _)
  split
  ·exact⟨a,b,d,e,by assumption,fun hf=>by simp at hf⟩
  ·exact⟨a,b,d,e,by omega⟩
 | sG lv i v m =>
  obtain⟨a,b,d,e,f⟩:=hs
  by_cases hm:M.W (2^lv+i)=v
  ·obtain⟨g1,g2,g3⟩:=bM h a b d f hm
   have g4:Gr M.W (upd M.W (2^lv+i) (v+FZ)):=.set (fun e0=>by have:=sh_16 a b;omega) (fun _=>by omega) (fun _=>by omega)
   simp only[step,if_pos hm]
   have hd2:=g4.d
   exact⟨g3.mono (by omega),⟨a,b,by show _≤upd M.W _ _ 0;omega,g4.gone e,by show FZ≤upd M.W _ _ _;rw[upd_same];omega,fun hf=>by simp at hf⟩,g4,.fz _ (sh_16 a b) (by omega) (by rw[hm];rfl)⟩
  ·simp only[step,if_neg hm];exact .same h ⟨a,b,d,e⟩
 | sH lv i up m =>
  obtain⟨a,b,d,e,f,g⟩:=hs
  refine .same h ?_
  show Cw P M.W (if _ then _ else _)
  split
  ·exact⟨a,b,d,e,f,g⟩
  ·exact mL a b d e f g (by assumption)
 | sL lv i up m =>
  obtain⟨a,b,d,e,f,g⟩:=hs
  obtain⟨j,h1,h2,h3⟩:=upW_sh (up:=up) b
  have hw:=sh_32 (by omega:lv+1≤4) h1
  by_cases hm:M.W (upW lv i up)=0
  ·simp only[step,if_pos hm]
   have hlow:FZ≤de M.W (lv+1) j:=by unfold de;rw[Nat.add_sub_cancel,h3];exact f
   have g4:Gr M.W (upd M.W (upW lv i up) 1):=.set (fun e0=>by omega) (fun _=>by omega) (fun _=>by omega)
   have hd2:=g4.d
   refine⟨?_,mL a b (by show _≤upd M.W _ _ 0;omega) (g4.gone e) (g4.fz _ f) (fun hu=>g4.ne _ (g hu)) (by show upd M.W _ _ _≠0;rw[upd_same];omega),g4,.lay _ (by omega) hm rfl⟩
   have:=lJ h hB.1 (by omega:1≤lv+1) (by omega) h1 (by omega) hlow (by rw[← h2];exact hm)
   rw[← h2]at this
   exact this.mono (by omega)
  ·simp only[step,if_neg hm];exact .same h (mL a b d e f g hm)
 | sV lv =>
  obtain⟨a,b,d⟩:=hs
  by_cases hm:M.W 0=2*lv+1
  ·simp only[step,if_pos hm]
   refine⟨(h.fin a hm d).mono (by omega),trivial,.set (fun _=>by omega) (fun _=>by omega) (fun _=>by omega),.d ?_ (by omega)⟩
   rw[hm];show upd M.W 0 _=upd M.W 0 _;congr 1
  ·simp only[step,if_neg hm];exact .same h trivial
end Dir
namespace Dir
def sumN(n:Nat)(f:Nat→Nat):Nat :=
 match n with
 | 0=>0
 | n+1=>sumN n f+f n
def remW(x:Int)(w:Nat):Nat:=if w=0 then(8-x).toNat else if w<16 then(if x=0 then 2 else if x<FZ then 1 else 0)else if x=0 then 1 else 0
def rem(W:Nat→Int):Nat:=sumN 32 fun w=>remW (W w) w
def TH(x:Int):Nat:=if x=0 then 4 else if x<FZ then 2 else 8
def TF(x y:Int):Nat:=TH y+if x<FZ then 2 else 1
def TE(x:Int):Nat:=if x≠0∧x<FZ then 2 else 8
def U(lv i:Nat):Nat:=6*(2^lv-i)+1
def T(P:Ops)(W:Nat→Int):CS→Nat
 | .none=>53
 | .k0 _=>if W 0%2=0 then 3 else 7
 | .kE _ w=>TE (W w)
 | .kF c lv w=>TF (W w) (W (plc (lv+1) (P.sum c.key)))
 | .kG c lv w v _=>if W w=v then 1+TH (W (plc (lv+1) (P.sum c.key)))else 1+TF (W w) (W (plc (lv+1) (P.sum c.key)))
 | .kH _ _ w _=>TH (W w)
 | .kL _ _ w _=>1+if W w=0 then 2 else TE (W w)
 | .kS _ w v _ _=>if W w=v then 1 else 8
 | .s0=>52
 | .sM lv=>if W 0=2*lv then 51 else 53
 | .sF lv i=>U lv i
 | .sG lv i v _=>if W (2^lv+i)=v then U lv i-1 else U lv i+1
 | .sH lv i up _=>U lv i-(if up then 4 else 2)
 | .sL lv i up _=>U lv i-(if up then 5 else 3)
 | .sV _=>1
end Dir
end Go.Proofs.YtgkpjebgcfjfnaaGreat
