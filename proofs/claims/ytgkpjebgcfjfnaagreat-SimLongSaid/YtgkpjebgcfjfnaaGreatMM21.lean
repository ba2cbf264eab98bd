/- Lemmas of Ct5, Ct5p, Ct6, Ct7. No condition. -/
import Derived.Test.YtgkpjebgcfjfnaaGreatMM20
set_option linter.unusedVariables false
set_option linter.unusedSimpArgs false
set_option linter.unusedSectionVars false
set_option maxHeartbeats 80000000
set_option maxRecDepth 100000
namespace Go.Proofs.YtgkpjebgcfjfnaaGreat
open Go.RowKit
section
def jq:SV:=.iref [iF 0 2,.d (.fn (.func 22) [])] 0
def iS(M:Core.Mc)(nl:Nat)(f:Nat→List D)(clk cnt:Int):List (Nat×Option Blk):=[(0,some (ce 1 3 34 nl clk cnt)),(1,some (b9 34 M.W)),(2,some (f5 M.Hd)),(3,some (bA nl f))]
variable{ps:List Pol}{room:Int}
def mP(h:List Cel):List D:=[ao 4 Cel.D h]
theorem la(zs:List (List Cel))(c:List Cel):∀k,k<zs.length+1→bB zs.length (fun i=>mP (zs.getD i default)) (fun i=>bf (mP c) 1 (0+i)) k=mP ((zs++[c]).getD k default):=fun k hk=>by
 simp only[bB]
 by_cases e:k<zs.length
 ·rw[if_pos e,Q1,Q1,Q11 e]
 ·rw[if_neg e]
  obtain rfl:k=zs.length:=by omega
  have:(zs++[c]).getD zs.length default=c:=by simp
  rw[Nat.sub_self,this];rfl
theorem ig(M:Core.Mc)(nl:Nat)(f:Nat→List D)(clk cnt:Int)(h0:0≤M.W 0)(h8:M.W 0≤8) :
  Fun TC 45 4 [jq] (iS M nl f clk cnt) 4 (.tup [.i .i64 (Core.lvl M),.b (decide (M.W 0%2=1))]) (iS M nl f clk cnt):=by
 have qr:(M.W 0).tmod 2=M.W 0%2:=Q6 h0
 have ql:M.W 0/2=(Core.lvl M:Int):=by unfold Core.lvl;omega
 refine Fun.mk' Tryz.func45 rfl rfl zN (by decide) ?_
 (repeat' (first|((first|refine Wp.any ac rfl ?_|(with_reducible first|refine Go.mk ?_|apply aj.of|refine Ov.ok zO ?_|refine And.intro zC ?_));conv=>whnf)|((refine ab.fn (b7 nl M.W M.Hd f clk cnt 0 (by decide)) [0,1,2,3] rfl rfl rfl rfl rfl ?ha ?hh ?_);(case ha=>exact zA);(case hh=>exact zH);(conv=>whnf))|(with_reducible refine Ov.tdivC (by omega) ?_)))
 rw[qr,ql]
 (refine af.sealB [0,1,2,3] rfl rfl rfl ?_ ?_);(focus((conv=>whnf);(repeat' (first|exact zE))));(focus((conv=>whnf);(repeat' (first|exact zE|((refine And.intro ?_ ?_)<;>(conv=>whnf))))))
theorem fi(ps:List Pol)(room:Int)(M:Core.Mc)(i:Nat):(List.range (i+1)).flatMap (Core.partL (aa ps room) M)=(List.range i).flatMap (Core.partL (aa ps room) M)++Core.partL (aa ps room) M i:=by
 rw[List.range_succ,List.flatMap_append];simp
theorem eo(ps:List Pol)(room:Int)(M:Core.Mc):∀i,((List.range i).flatMap (Core.partL (aa ps room) M)).length≤2*i
 | 0=>by simp
 | i+1=>by
  rw[fi ps room,Q9]
  have:=eo ps room M i
  have:(Core.partL (aa ps room) M i).length≤2:=by unfold Core.partL;split<;>simp
  omega
theorem rv(ps:List Pol)(room:Int)(M:Core.Mc)(nl:Nat)(f:Nat→List D)(clk cnt:Int)(h0:0≤M.W 0)(h8:M.W 0≤8)(he:M.W 0%2=0) :
  Fun TC 28 4 [jq] (iS M nl f clk cnt) 4 (.d (ao 1 mP (Core.allL (aa ps room) M))) (iS M nl f clk cnt):=by
 have hL:=ig M nl f clk cnt h0 h8
 rw[decide_eq_false (by omega)]at hL
 have hlv:Core.lvl M≤4:=by unfold Core.lvl;omega
 have hp4:2^Core.lvl M≤2^4:=Q16 (by omega) hlv
 have hsh:=gK hlv
 have e2:((2^Core.lvl M:Nat):Int)=2^Core.lvl M:=by simp
 refine Fun.mk' Tryz.func28 rfl rfl zN (by decide) ?_
 (repeat' (first|((first|refine Wp.any ac rfl ?_|(with_reducible first|refine Go.mk ?_|apply aj.of|refine And.intro zC ?_));conv=>whnf)|((refine ab.fn (hL) [0,1,2,3] rfl rfl rfl rfl rfl ?ha ?hh ?_);(case ha=>exact zA);(case hh=>exact zH);(conv=>whnf))))
 refine Wp.le (Le.virt 3 36 1 (fun i=>mP (([]:List (List Cel)).getD i default)) (by decide) rfl) ?_
 refine Wp.loopP (ι:=Nat) (fun i=>i≤2^Core.lvl M) (fun i=>⟨⟨Tryz.f28.ntmps,4⟩,5,[(0,jq),(3,.sl 4 1 0 ((List.range i).flatMap (Core.partL (aa ps room) M)).length),(4,.i .i64 (Core.lvl M)),(5,.b false),(19,.i .i64 (2^Core.lvl M)),(20,.i .i64 i)],
  iS M nl f clk cnt++[(4,some (aS 36 1 mP ((List.range i).flatMap (Core.partL (aa ps room) M))))]⟩) (fun i=>2^Core.lvl M-i) 0 (Nat.zero_le _) ?_ ?_
 ·(refine Le.by [0,1,2,3,4] rfl rfl rfl rfl ?_ ?_<;>(conv=>whnf)<;>(repeat' (first|exact trivial|exact ae.rfl rfl|exact ae.ptr rfl|exact ae.sl rfl|((refine ae.iref ?_);(conv=>whnf))|exact⟨rfl,rfl,rfl⟩|exact fun i hi=>rfl|((with_reducible refine And.intro ?_ ?_)<;>(conv=>whnf)))))
  rw[hsh];exact ae.rfl rfl
 ·rintro i h1
  have hpl:=Core.plc_32 hlv (i:Int)
  have hfl:=eo ps room M i
  (repeat' (first|((first|refine Wp.any ac rfl ?_|(with_reducible first|refine Go.mk ?_|apply aj.of|refine Ov.ok zO ?_)|refine zV ?_|with_reducible refine And.intro zC ?_);conv=>whnf)|((with_reducible refine And.intro ?hb ?_);(case hb=>exact zz9);(conv=>whnf))|((with_reducible refine ag.pure (b5 _ hlv _) rfl rfl ?_);conv=>whnf)|((refine ag.fn (b7 nl M.W M.Hd f clk cnt (Dir.plc (Core.lvl M) (i:Int)) (Nat.lt_trans hpl.2 (by decide))) [0,1,2,3] [0,1,2,3] rfl rfl rfl rfl rfl ?ha ?hh ?hs ?_);(case ha=>exact zA);(case hh=>exact zH);(case hs=>exact zK);(conv=>whnf))|((refine ap (fun hc=>?_) (fun hc=>?_))<;>(try simp only[wz9]at hc)<;>(try (exfalso;omega))<;>(conv=>whnf))))
  ·have hi:i<2^Core.lvl M:=by omega
   have hw:Dir.plc (Core.lvl M) (i:Int)=2^Core.lvl M+i:=by rw[cd (by omega) (by omega)];rfl
   have hpt:Core.partL (aa ps room) M i=[M.Hd (Dir.plc (Core.lvl M) (i:Int))]:=by unfold Core.partL;rw[if_pos (.inl he),hw]
   refine⟨i+1,by dsimp only;omega,by dsimp only;omega,?_⟩
   dsimp only
   rw[fi ps room,hpt]
   (refine Le.by [0,1,2,3,20] rfl rfl rfl rfl ?_ ?_<;>(conv=>whnf)<;>(repeat' (first|exact trivial|exact ae.rfl rfl|exact ae.ptr rfl|exact ae.sl rfl|((refine ae.iref ?_);(conv=>whnf))|exact⟨rfl,rfl,rfl⟩|exact fun i hi=>rfl|((with_reducible refine And.intro ?_ ?_)<;>(conv=>whnf)))))
   ·rw[Q9];exact ae.sl rfl
   all_goals first|exact la _ _|rfl|(simp;done)
  ·obtain rfl:i=2^Core.lvl M:=by omega
   rw[show Core.allL (aa ps room) M=(List.range (2^Core.lvl M)).flatMap (Core.partL (aa ps room) M)from rfl]
   (refine af.sealB [0,1,2,3] rfl rfl rfl ?_ ?_);(focus((conv=>whnf);(repeat' (first|exact zE))));(focus((conv=>whnf);(repeat' (first|exact zE|((refine And.intro ?_ ?_)<;>(conv=>whnf))))))
theorem sA(zs:List (List Cel))(a b:List Cel):∀k,k<zs.length+1+1→bB (zs.length+1) (bB zs.length (fun i=>mP (zs.getD i default)) (fun i=>bf (mP a) 1 (0+i))) (fun i=>bf (mP b) 1 (0+i)) k=mP ((zs++[a,b]).getD k default):=fun k hk=>by
 by_cases e:k<zs.length+1
 ·rw[bB,if_pos e,la _ _ _ e]
  congr 1
  rw[show zs++[a,b]=(zs++[a])++[b]by simp,Q1,Q1,Q11 (l₁:=zs++[a]) (by simpa using e)]
 ·rw[bB,if_neg e]
  obtain rfl:k=zs.length+1:=by omega
  have:(zs++[a,b]).getD (zs.length+1) default=b:=by simp[List.getD]
  rw[Nat.sub_self,this];rfl
theorem rt(ps:List Pol)(room:Int)(M:Core.Mc)(nl:Nat)(f:Nat→List D)(clk cnt:Int)(h0:0≤M.W 0)(h8:M.W 0≤8)(hH:∀w,(M.Hd w).length≤16777216)(he:M.W 0%2=1) :
  Fun TC 28 4 [jq] (iS M nl f clk cnt) 4 (.d (ao 1 mP (Core.allL (aa ps room) M))) (iS M nl f clk cnt):=by
 have hL:=ig M nl f clk cnt h0 h8
 rw[decide_eq_true he]at hL
 have hlv:Core.lvl M≤3:=by unfold Core.lvl;omega
 have hp4:2^Core.lvl M≤2^3:=Q16 (by omega) hlv
 have hsh:=gK (lv:=Core.lvl M) (by omega)
 have e2:((2^Core.lvl M:Nat):Int)=2^Core.lvl M:=by simp
 refine Fun.mk' Tryz.func28 rfl rfl zN (by decide) ?_
 (repeat' (first|((first|refine Wp.any ac rfl ?_|(with_reducible first|refine Go.mk ?_|apply aj.of|refine And.intro zC ?_));conv=>whnf)|((refine ab.fn (hL) [0,1,2,3] rfl rfl rfl rfl rfl ?ha ?hh ?_);(case ha=>exact zA);(case hh=>exact zH);(conv=>whnf))))
 refine Wp.le (Le.virt 3 36 1 (fun i=>mP (([]:List (List Cel)).getD i default)) (by decide) rfl) ?_
 refine Wp.loopP (ι:=Nat) (fun i=>i≤2^Core.lvl M) (fun i=>⟨⟨Tryz.f28.ntmps,4⟩,5,[(0,jq),(3,.sl 4 1 0 ((List.range i).flatMap (Core.partL (aa ps room) M)).length),(4,.i .i64 (Core.lvl M)),(5,.b true),(19,.i .i64 (2^Core.lvl M)),(20,.i .i64 i)],
  iS M nl f clk cnt++[(4,some (aS 36 1 mP ((List.range i).flatMap (Core.partL (aa ps room) M))))]⟩) (fun i=>2^Core.lvl M-i) 0 (Nat.zero_le _) ?_ ?_
 ·(refine Le.by [0,1,2,3,4] rfl rfl rfl rfl ?_ ?_<;>(conv=>whnf)<;>(repeat' (first|exact trivial|exact ae.rfl rfl|exact ae.ptr rfl|exact ae.sl rfl|((refine ae.iref ?_);(conv=>whnf))|exact⟨rfl,rfl,rfl⟩|exact fun i hi=>rfl|((with_reducible refine And.intro ?_ ?_)<;>(conv=>whnf)))))
  rw[hsh];exact ae.rfl rfl
 ·rintro i h1
  have hpl:=Core.plc_32 (by omega:Core.lvl M≤4) (i:Int)
  have hq1:=Core.plc_32 (by omega:Core.lvl M+1≤4) (i:Int)
  have hq2:=Core.plc_32 (by omega:Core.lvl M+1≤4) ((i:Int)+IntKind.i64.wrap (1*2^min ((Core.lvl M:Nat):Int).toNat IntKind.i64.bits))
  have hfl:=eo ps room M i
  have hHp:=hH (Dir.plc (Core.lvl M) (i:Int))
  have hcut:Pure TC 22 [.d (ao 4 Cel.D (M.Hd (Dir.plc (Core.lvl M) (i:Int)))),.i .i64 ((Core.lvl M:Int)+1),.i .i64 (i:Int)] (.d (ao 4 Cel.D (ga (M.Hd (Dir.plc (Core.lvl M) (i:Int))) (Core.lvl M+1) i))):=gD _ (Core.lvl M+1) i (by omega) hHp
  have hcut2:Pure TC 22 [.d (ao 4 Cel.D (M.Hd (Dir.plc (Core.lvl M) (i:Int)))),.i .i64 ((Core.lvl M:Int)+1),.i .i64 ((i:Int)+IntKind.i64.wrap (1*2^min ((Core.lvl M:Nat):Int).toNat IntKind.i64.bits))] (.d (ao 4 Cel.D (ga (M.Hd (Dir.plc (Core.lvl M) (i:Int))) (Core.lvl M+1) (i+2^Core.lvl M)))):=by
   have:=gD (M.Hd (Dir.plc (Core.lvl M) (i:Int))) (Core.lvl M+1) (i+2^Core.lvl M) (by omega) hHp
   rw[hsh]
   rwa [show(((i+2^Core.lvl M:Nat):Nat):Int)=(i:Int)+2^Core.lvl M by rw[Int.natCast_add,e2]]at this
  (repeat' (first|((first|refine Wp.any ac rfl ?_|(with_reducible first|refine Go.mk ?_|apply aj.of|refine Ov.ok zO ?_)|refine zV ?_|with_reducible refine And.intro zC ?_);conv=>whnf)|((with_reducible refine And.intro ?hb ?_);(case hb=>exact zz9);(conv=>whnf))|((with_reducible first|refine ag.pure (b5 _ (by omega:Core.lvl M≤4) _) rfl rfl ?_|refine ag.pure (ie _ hlv _) rfl rfl ?_|refine ab.pure (hcut) rfl rfl ?_|refine ab.pure (hcut2) rfl rfl ?_);conv=>whnf)|((refine ag.fn (b7 nl M.W M.Hd f clk cnt (Dir.plc (Core.lvl M) (i:Int)) (Nat.lt_trans hpl.2 (by decide))) [0,1,2,3] [0,1,2,3] rfl rfl rfl rfl rfl ?ha ?hh ?hs ?_);(case ha=>exact zA);(case hh=>exact zH);(case hs=>exact zK);(conv=>whnf))|((refine ag.fn (b7 nl M.W M.Hd f clk cnt (Dir.plc (Core.lvl M+1) (i:Int)) (Nat.lt_trans hq1.2 (by decide))) [0,1,2,3] [0,1,2,3] rfl rfl rfl rfl rfl ?ha ?hh ?hs ?_);(case ha=>exact zA);(case hh=>exact zH);(case hs=>exact zK);(conv=>whnf))|((refine ag.fn (b7 nl M.W M.Hd f clk cnt (Dir.plc (Core.lvl M+1) ((i:Int)+IntKind.i64.wrap (1*2^min ((Core.lvl M:Nat):Int).toNat IntKind.i64.bits))) (Nat.lt_trans hq2.2 (by decide))) [0,1,2,3] [0,1,2,3] rfl rfl rfl rfl rfl ?ha ?hh ?hs ?_);(case ha=>exact zA);(case hh=>exact zH);(case hs=>exact zK);(conv=>whnf))|((with_reducible refine Wp.loopN 4 ?_);conv=>whnf)|((refine ap (fun hc=>?_) (fun hc=>?_))<;>(try simp only[wz9]at hc)<;>(try (exfalso;omega))<;>(conv=>whnf))))
  rotate_right
  ·obtain rfl:i=2^Core.lvl M:=by omega
   rw[show Core.allL (aa ps room) M=(List.range (2^Core.lvl M)).flatMap (Core.partL (aa ps room) M)from rfl]
   (refine af.sealB [0,1,2,3] rfl rfl rfl ?_ ?_);(focus((conv=>whnf);(repeat' (first|exact zE))));(focus((conv=>whnf);(repeat' (first|exact zE|((refine And.intro ?_ ?_)<;>(conv=>whnf))))))
  all_goals
   have hi:i<2^Core.lvl M:=by omega
   have hpp:2^(Core.lvl M+1)=2^Core.lvl M*2:=Nat.pow_succ 2 _
   have hpi:(2:Int)^(Core.lvl M+1)=2^Core.lvl M*2:=Int.pow_succ 2 _
   have hw:Dir.plc (Core.lvl M) (i:Int)=2^Core.lvl M+i:=by rw[cd (by omega) (by omega)];rfl
   have hw1:Dir.plc (Core.lvl M+1) (i:Int)=2^(Core.lvl M+1)+i:=by rw[cd (by omega) (by omega)];rfl
   have hw2:Dir.plc (Core.lvl M+1) ((i:Int)+IntKind.i64.wrap (1*2^min ((Core.lvl M:Nat):Int).toNat IntKind.i64.bits))=2^(Core.lvl M+1)+(i+2^Core.lvl M):=by rw[hsh,cd (by omega) (by omega)];omega
   have hpt:Core.partL (aa ps room) M i=if M.W (Dir.plc (Core.lvl M) (i:Int))<4611686018427387904 then[M.Hd (Dir.plc (Core.lvl M) (i:Int))]else[if M.W (Dir.plc (Core.lvl M+1) (i:Int))=0 then ga (M.Hd (Dir.plc (Core.lvl M) (i:Int))) (Core.lvl M+1) i else M.Hd (Dir.plc (Core.lvl M+1) (i:Int)),
    if M.W (Dir.plc (Core.lvl M+1) ((i:Int)+IntKind.i64.wrap (1*2^min ((Core.lvl M:Nat):Int).toNat IntKind.i64.bits)))=0 then ga (M.Hd (Dir.plc (Core.lvl M) (i:Int))) (Core.lvl M+1) (i+2^Core.lvl M)else M.Hd (Dir.plc (Core.lvl M+1) ((i:Int)+IntKind.i64.wrap (1*2^min ((Core.lvl M:Nat):Int).toNat IntKind.i64.bits)))]:=by
    unfold Core.partL Core.nxt
    rw[hw,hw1,hw2]
    by_cases hq:M.W (2^Core.lvl M+i)<4611686018427387904
    ·rw[if_pos hq,if_pos (.inr hq)]
    ·rw[if_neg hq,if_neg (by intro h;rcases h with h|h;omega;exact hq h)];rfl
   refine⟨i+1,by dsimp only;omega,by dsimp only;omega,?_⟩
   dsimp only
   rw[fi ps room,hpt]
  ·rw[if_pos (by assumption)]
   (refine Le.by [0,1,2,3,20] rfl rfl rfl rfl ?_ ?_<;>(conv=>whnf)<;>(repeat' (first|exact trivial|exact ae.rfl rfl|exact ae.ptr rfl|exact ae.sl rfl|((refine ae.iref ?_);(conv=>whnf))|exact⟨rfl,rfl,rfl⟩|exact fun i hi=>rfl|((with_reducible refine And.intro ?_ ?_)<;>(conv=>whnf)))))
   ·rw[Q9];exact ae.sl rfl
   all_goals first|exact la _ _|rfl|(simp;done)
  all_goals
   rw[if_neg (by assumption)]
   first
    | rw[if_pos (by assumption),if_pos (by assumption)]
    | rw[if_pos (by assumption),if_neg (by assumption)]
    | rw[if_neg (by assumption),if_pos (by assumption)]
    | rw[if_neg (by assumption),if_neg (by assumption)]
   (refine Le.by [0,1,2,3,53] rfl rfl rfl rfl ?_ ?_<;>(conv=>whnf)<;>(repeat' (first|exact trivial|exact ae.rfl rfl|exact ae.ptr rfl|exact ae.sl rfl|((refine ae.iref ?_);(conv=>whnf))|exact⟨rfl,rfl,rfl⟩|exact fun i hi=>rfl|((with_reducible refine And.intro ?_ ?_)<;>(conv=>whnf)))))
   ·rw[Q9];exact ae.sl rfl
   all_goals first|exact sA _ _ _|rfl|(simp;done)
end
namespace Core
def lts(a b:Cel):Prop:=bk (idn a) (idn b)<0
def insC(e:Cel):List Cel→List Cel
 | []=>[e]
 | x::r=>if bk (idn e) (idn x)<0 then e::x::r else x::insC e r
def sortC(l:List Cel):List Cel:=l.foldr insC []
theorem ii(e:Cel):∀l,(insC e l).Perm (e::l)
 | []=>.refl _
 | x::r=>by
  unfold insC;split
  ·exact .refl _
  ·exact((ii e r).cons x).trans (.swap e x r)
theorem sortC_perm:∀l,(sortC l).Perm l
 | []=>.refl _
 | x::r=>(ii x _).trans ((sortC_perm r).cons x)
theorem cmp_eq:∀{a b:List Int},bk a b=0→a=b
 | [],[],_=>rfl
 | [],_::_,h=>by simp[bk]at h
 | _::_,[],h=>by simp[bk]at h
 | x::a,y::b,h=>by
  simp only[bk]at h
  split at h
  ·cases h
  ·split at h
   ·cases h
   ·have:x=y:=by omega
    rw[this,cmp_eq h]
theorem xM:∀a b:List Int,bk b a=- bk a b
 | [],[]=>rfl
 | [],_::_=>rfl
 | _::_,[]=>rfl
 | x::a,y::b=>by
  simp only[bk]
  by_cases h1:x<y
  ·rw[if_pos h1,if_neg (by omega),if_pos h1];rfl
  ·by_cases h2:y<x
   ·rw[if_pos h2,if_neg h1,if_pos h2]
   ·rw[if_neg h1,if_neg h2,if_neg h2,if_neg h1];exact xM a b
theorem oD:∀{a b c:List Int},bk a b<0→bk b c<0→bk a c<0
 | [],[],_,h,_=>by simp[bk]at h
 | [],_::_,[],_,h=>by simp[bk]at h
 | [],_::_,_::_,_,_=>by simp[bk]
 | _::_,[],_,h,_=>by simp[bk]at h
 | _::_,_::_,[],_,h=>by simp[bk]at h
 | x :: a,y::b,z::c,h1,h2=>by
  simp only[bk]at h1 h2⊢
  by_cases e1:x<y
  ·by_cases e2:y<z
   ·rw[if_pos (by omega)];omega
   ·by_cases e3:z<y
    ·rw[if_neg e2,if_pos e3]at h2;omega
    ·rw[if_pos (by omega)];omega
  ·by_cases e4:y<x
   ·rw[if_neg e1,if_pos e4]at h1;omega
   ·rw[if_neg e1,if_neg e4]at h1
    by_cases e2:y<z
    ·rw[if_pos (by omega)];omega
    ·by_cases e3:z<y
     ·rw[if_neg e2,if_pos e3]at h2;omega
     ·rw[if_neg e2,if_neg e3]at h2
      rw[if_neg (by omega),if_neg (by omega)];exact oD h1 h2
theorem lts_tr{a b c:Cel}(h1:lts a b)(h2:lts b c):lts a c:=oD h1 h2
theorem xv{a b:Cel}(h:idn a≠idn b)(hn:¬lts a b):lts b a:=by
 unfold lts at *
 have:=xM (idn a) (idn b)
 have h0:bk (idn a) (idn b)≠0:=fun e=>h (cmp_eq e)
 omega
theorem oc{e:Cel}:∀{l:List Cel},l.Pairwise lts→(∀x∈l,idn x≠idn e)→(insC e l).Pairwise lts
 | [],_,_=>List.pairwise_singleton _ _
 | x::r,h,hk=>by
  obtain⟨h1,h2⟩:=List.pairwise_cons.1 h
  unfold insC;split
  ·rename_i hlt
   refine List.pairwise_cons.2 ⟨fun y hy=>?_,h⟩
   rcases Q22 hy with rfl|hy
   ·exact hlt
   ·exact oD hlt (h1 y hy)
  ·rename_i hlt
   refine List.pairwise_cons.2 ⟨fun y hy=>?_,oc h2 fun z hz=>hk z (by simp[hz])⟩
   rcases Q22 ((ii e r).mem_iff.1 hy)with rfl|hy
   ·exact xv (hk x (by simp)).symm hlt
   ·exact h1 y hy
theorem ly:∀{l:List Cel},l.Pairwise (fun a b=>idn a≠idn b)→(sortC l).Pairwise lts
 | [],_=>.nil
 | x::r,h=>by
  obtain⟨h1,h2⟩:=List.pairwise_cons.1 h
  exact oc (ly h2) fun y hy=>(h1 y ((sortC_perm r).mem_iff.1 hy)).symm
theorem nB:∀{xs ys:List Cel},xs.Pairwise lts→ys.Pairwise lts→xs.Perm ys→xs=ys
 | [],ys,_,_,hp=>by rw[List.nil_perm.1 hp]
 | x::xs,[],_,_,hp=>by have:=hp.length_eq;simp at this
 | x :: xs,y::ys,h1,h2,hp=>by
  obtain⟨a1,a2⟩:=List.pairwise_cons.1 h1
  obtain⟨b1,b2⟩:=List.pairwise_cons.1 h2
  have e:x=y:=by
   rcases Q22 (hp.mem_iff.1 (List.mem_cons_self ..))with e|hx
   ·exact e
   ·rcases Q22 (hp.mem_iff.2 (List.mem_cons_self ..))with e|hy
    ·exact e.symm
    ·have g1:=a1 y hy
     have g2:=b1 x hx
     have g3:bk (idn x) (idn x)<0:=oD g1 g2
     rw[be]at g3;omega
  subst e
  rw[nB a2 b2 (List.perm_cons _ |>.1 hp)]
structure Sink(xs zs:List Cel)(i j:Nat):Prop where
 p:zs.Perm xs
 s:∃A x B C,zs=A++x::(B++C)∧A.length=j∧A.length+B.length=i∧(A++B).Pairwise lts∧∀b∈B,lts x b
theorem Sink.start{xs zs:List Cel}{i:Nat}(hp:zs.Perm xs)(hs:(zs.take i).Pairwise lts)(hi:i<zs.length):Sink xs zs i i:=by
 refine⟨hp,zs.take i,zs[i],[],zs.drop (i+1),?_,by simp;omega,by simp;omega,by simpa using hs,by simp⟩
 rw[List.nil_append,← List.drop_eq_getElem_cons hi,List.take_append_drop]
theorem set_mid(A:List Cel)(x y:Cel)(T:List Cel):((A++y::x::T).set (A.length+1) y).set A.length x=A++x::y::T:=by
 induction A with
 | nil=>rfl
 | cons a A ih=>simp[ih]
theorem Sink.swap{xs zs:List Cel}{i j:Nat}(h:Sink xs zs i (j+1))(hlt:lts (zs.getD (j+1) default) (zs.getD j default)):Sink xs ((zs.set (j+1) (zs.getD j default)).set j (zs.getD (j+1) default)) i j:=by
 obtain⟨hp,A,x,B,C,rfl,h2,h3,h4,h5⟩:=h
 obtain⟨A',y,rfl⟩:∃A' y,A=A'++[y]:=by
  rcases List.eq_nil_or_concat A with rfl|⟨A',y,rfl⟩
  ·simp at h2
  ·exact⟨A',y,by simp⟩
 have hl:A'.length=j:=by simpa using h2
 have e0:A'++[y]++x::(B++C)=A'++y::x::(B++C):=by simp
 rw[e0]at hlt hp⊢
 have g1:(A'++y::x::(B++C)).getD j default=y:=by rw[← hl];simp[List.getD]
 have g2:(A'++y::x::(B++C)).getD (j+1) default=x:=by rw[← hl];simp[List.getD]
 rw[g1,g2]at hlt⊢
 rw[← hl,set_mid]
 refine⟨?_,A',x,y::B,C,by simp,rfl,by simp at h3⊢;omega,by simpa using h4,fun b hb=>?_⟩
 ·refine List.Perm.trans ?_ hp
  exact List.Perm.append_left _ (.swap y x _)
 ·rcases Q22 hb with rfl|hb
  ·exact hlt
  ·exact h5 b hb
theorem Sink.stop{xs zs:List Cel}{i j:Nat}(hd:xs.Pairwise (fun a b=>idn a≠idn b))(h:Sink xs zs i j)(hn:0<j→¬lts (zs.getD j default) (zs.getD (j-1) default)):zs.Perm xs∧(zs.take (i+1)).Pairwise lts:=by
 obtain⟨hp,A,x,B,C,rfl,h2,h3,h4,h5⟩:=h
 refine⟨hp,?_⟩
 have hd':(A++x::(B++C)).Pairwise (fun a b=>idn a≠idn b):=hp.symm.pairwise hd fun {a b} hab e=>hab e.symm
 have e:(A++x::(B++C)).take (i+1)=A++x::B:=by
  rw[List.take_append,Q21 (by omega),show i+1-A.length=B.length+1 by omega,List.take_succ_cons,List.take_append,Q21 (Q4 _)]
  simp
 rw[e]
 obtain⟨q1,q2,q3⟩:=List.pairwise_append.1 h4
 have hax:∀a∈A,lts a x:=by
  rcases List.eq_nil_or_concat A with rfl|⟨A',y,rfl⟩
  ·simp
  ·have hl:A'.length+1=j:=by simpa using h2
   have g1:(A'++[y]++x::(B++C)).getD (j-1) default=y:=by rw[← hl];simp[List.getD]
   have g2:(A'++[y]++x::(B++C)).getD j default=x:=by rw[← hl];simp[List.getD]
   rw[List.concat_eq_append]at *
   have hn:=hn (by omega)
   rw[g1,g2]at hn
   have hyx:lts y x:=by
    refine xv ?_ hn
    rw[List.append_assoc]at hd'
    have h9:(y::x::(B++C)).Pairwise (fun a b=>idn a≠idn b):=(List.pairwise_append.1 hd').2.1
    exact((List.pairwise_cons.1 h9).1 x (by simp)).symm
   intro a ha
   rcases List.mem_append.1 ha with ha|ha
   ·exact lts_tr ((List.pairwise_append.1 q1).2.2 a ha y (by simp)) hyx
   ·obtain rfl:a=y:=by simpa using ha
    exact hyx
 refine List.pairwise_append.2 ⟨q1,List.pairwise_cons.2 ⟨h5,q2⟩,fun a ha b hb=>?_⟩
 rcases Q22 hb with rfl|hb
 ·exact hax a ha
 ·exact q3 a ha b hb
theorem sort_done{xs zs:List Cel}(hd:xs.Pairwise (fun a b=>idn a≠idn b))(hp:zs.Perm xs)(hs:zs.Pairwise lts):zs=sortC xs :=
 nB hs (ly hd) (hp.trans (sortC_perm xs).symm)
end Core
theorem nP{a b:Cel}(ha:gj a.pol a.key)(hb:gj b.pol b.key):mJ a b<0↔Core.lts a b:=by
 unfold mJ Core.lts
 rw[cF ha,cF hb];rfl
theorem vW{p:Prop}[Decidable p]{a b:List D}{o:Nat}{vs:List D}{k:List D→Prop}(hp:¬p)(h:cy b o vs k):cy (if p then a else b) o vs k:=by rw[if_neg hp];exact h
theorem v4{zs:List Cel}{j:Nat}(hj:j+1<zs.length)(i:Nat):(if i=j then Cel.D (zs.getD (j+1) default)else if i=j+1 then Cel.D (zs.getD j default)else Cel.D (zs.getD i default))=Cel.D (((zs.set (j+1) (zs.getD j default)).set j (zs.getD (j+1) default)).getD i default):=by
 by_cases h1:i=j
 ·subst h1
  rw[if_pos rfl]
  simp[Q1,List.getElem?_set]
  rw[if_pos (by omega)];rfl
 ·rw[if_neg h1]
  have h1':¬j=i:=fun e=>h1 e.symm
  by_cases h2:i=j+1
  ·subst h2
   rw[if_pos rfl]
   simp[Q1,List.getElem?_set]
   rw[if_pos (by omega)];rfl
  ·rw[if_neg h2]
   have h2':¬j+1=i:=fun e=>h2 e.symm
   simp only[Q1,List.getElem?_set,if_neg h1',if_neg h2']
theorem rA(xs:List Cel)(hB:∀c∈xs,IsB c.key∧gj c.pol c.key)(hd:xs.Pairwise (fun a b=>idn a≠idn b))(hx1:xs.length≤1000000) :
  Fun TC 64 1 [.sl 0 4 0 xs.length,.i .i64 0,.i .i64 xs.length,.d (.fn (.func 31) [])] [(0,some (aS 104 4 Cel.D xs))] 1 (.tup []) [(0,some (aS 104 4 Cel.D (Core.sortC xs)))]:=by
 refine Fun.mk' Tryz.func64 rfl rfl zN (by decide) ?_
 have hlen:∀{zs:List Cel},zs.Perm xs→zs.length=xs.length:=fun h=>h.length_eq
 have hBy:∀{zs:List Cel},zs.Perm xs→∀k,IsB (zs.getD k default).key:=fun {zs} h k=>by
  by_cases hk:k<zs.length
  ·rw[Q1,Q0 hk]
   exact(hB _ (h.mem_iff.1 (Q14 hk))).1
  ·rw[Q1,List.getElem?_eq_none (by omega)];intro y hy;exact absurd hy (by simp[default,instInhabitedCel.default])
 have hOk:∀{zs:List Cel},zs.Perm xs→∀k,k<xs.length→gj (zs.getD k default).pol (zs.getD k default).key:=fun {zs} h k hk=>by
  have hk:k<zs.length:=by rw[hlen h];exact hk
  rw[Q1,Q0 hk]
  exact(hB _ (h.mem_iff.1 (Q14 hk))).2
 (repeat' (first|((first|refine Wp.any ac rfl ?_|(with_reducible first|refine Go.mk ?_|apply aj.of|refine Ov.ok zO ?_));conv=>whnf)))
 refine Wp.loopP (ι:=Nat×List Cel) (fun k=>1≤k.1∧k.1≤max xs.length 1∧k.2.Perm xs∧(k.2.take k.1).Pairwise Core.lts) (fun k=>⟨⟨Tryz.f64.ntmps,1⟩,1,[(0,.sl 0 4 0 xs.length),(1,.i .i64 0),(2,.i .i64 xs.length),(3,.d (.fn (.func 31) [])),(8,.i .i64 k.1)],[(0,some (.row 104 4 xs.length fun i=>Cel.D (k.2.getD i default)))]⟩) (fun k=>xs.length-k.1) (1,xs)
  ⟨Q4 _,by omega,.refl _,by cases xs<;>simp⟩ ?_ ?_
 ·(refine Le.by [0] rfl rfl rfl rfl ?_ ?_<;>(conv=>whnf)<;>(repeat' (first|exact trivial|exact ae.rfl rfl|exact ae.sl rfl|exact⟨rfl,rfl,rfl⟩|exact fun i hi=>rfl|((with_reducible refine And.intro ?_ ?_)<;>(conv=>whnf)))))
 ·rintro⟨i,zs⟩ ⟨h1,h2,h3,h4⟩
  dsimp only at h1 h2 h3 h4⊢
  have hl:=hlen h3
  (repeat' (first|((first|refine Wp.any ac rfl ?_|(with_reducible first|refine Go.mk ?_|apply aj.of));conv=>whnf)|((refine ap (fun hc=>?_) (fun hc=>?_))<;>(try simp only[wz9]at hc)<;>(try (exfalso;omega))<;>(conv=>whnf))))
  ·refine Wp.loopP (ι:=Nat×List Cel) (fun k=>k.1≤i∧Core.Sink xs k.2 i k.1) (fun k=>⟨⟨Tryz.f64.ntmps,1⟩,1,[(0,.sl 0 4 0 xs.length),(1,.i .i64 0),(2,.i .i64 xs.length),(3,.d (.fn (.func 31) [])),(8,.i .i64 i),(9,.i .i64 k.1)],[(0,some (.row 104 4 xs.length fun i=>Cel.D (k.2.getD i default)))]⟩) (fun k=>k.1) (i,zs)
    ⟨Q4 _,.start h3 h4 (by show i<zs.length;omega)⟩ ?_ ?_
   ·(refine Le.by [0] rfl rfl rfl rfl ?_ ?_<;>(conv=>whnf)<;>(repeat' (first|exact trivial|exact ae.rfl rfl|exact ae.sl rfl|exact⟨rfl,rfl,rfl⟩|exact fun i hi=>rfl|((with_reducible refine And.intro ?_ ?_)<;>(conv=>whnf)))))
   ·rintro⟨j,ys⟩ ⟨g1,g2⟩
    dsimp only at g1 g2⊢
    have hl2:=hlen g2.p
    (repeat' (first|((first|refine Wp.any ac rfl ?_|(with_reducible first|refine Go.mk ?_|apply aj.of|refine Ov.ok zO ?_)|refine zV ?_|(with_reducible first|refine And.intro zC ?_|refine ag.pure (jI (ys.getD _ default) (ys.getD _ default) (hBy g2.p _) (hBy g2.p _)) rfl rfl ?_)|refine vW (by omega) ?_);conv=>whnf)|((refine ap (fun hc=>?_) (fun hc=>?_))<;>(try simp only[wz9]at hc)<;>(try (exfalso;omega))<;>(conv=>whnf))))
    ·obtain⟨m,rfl⟩:∃m,j=m+1:=⟨j-1,by omega⟩
     have e3:((m+1:Nat):Int)-1=(m:Int):=by omega
     have e1:0+((m+1:Nat):Int).toNat=m+1:=by omega
     have e2:0+((m:Nat):Int).toNat=m:=by omega
     rw[e3]at hc⊢
     rw[e1,e2]at hc⊢
     refine⟨(m,(ys.set (m+1) (ys.getD m default)).set m (ys.getD (m+1) default)),⟨by dsimp only;omega,?_⟩,by dsimp only;omega,?_⟩
     ·exact g2.swap ((nP (hOk g2.p _ (by omega)) (hOk g2.p _ (by omega))).1 hc)
     ·dsimp only
      (refine Le.by [0] rfl rfl rfl rfl ?_ ?_<;>(conv=>whnf)<;>(repeat' (first|exact trivial|exact ae.rfl rfl|exact ae.sl rfl|exact⟨rfl,rfl,rfl⟩|((with_reducible refine And.intro ?_ ?_)<;>(conv=>whnf)))))
      all_goals exact fun i hi=>v4 (by omega) i
    ·have e1:0+((j:Nat):Int).toNat=j:=by omega
     have e2:0+((j:Int)-1).toNat=j-1:=by omega
     rw[e1,e2]at hc
     obtain⟨k1,k2⟩:=g2.stop hd fun _ h=>hc ((nP (hOk g2.p _ (by omega)) (hOk g2.p _ (by omega))).2 h)
     refine⟨(i+1,ys),⟨by dsimp only;omega,by dsimp only;omega,k1,k2⟩,by dsimp only;omega,?_⟩
     dsimp only
     (refine Le.by [0] rfl rfl rfl rfl ?_ ?_<;>(conv=>whnf)<;>(repeat' (first|exact trivial|exact ae.rfl rfl|exact ae.sl rfl|exact⟨rfl,rfl,rfl⟩|exact fun i hi=>rfl|((with_reducible refine And.intro ?_ ?_)<;>(conv=>whnf)))))
    ·obtain⟨k1,k2⟩:=g2.stop hd fun h=>by omega
     refine⟨(i+1,ys),⟨by dsimp only;omega,by dsimp only;omega,k1,k2⟩,by dsimp only;omega,?_⟩
     dsimp only
     (refine Le.by [0] rfl rfl rfl rfl ?_ ?_<;>(conv=>whnf)<;>(repeat' (first|exact trivial|exact ae.rfl rfl|exact ae.sl rfl|exact⟨rfl,rfl,rfl⟩|exact fun i hi=>rfl|((with_reducible refine And.intro ?_ ?_)<;>(conv=>whnf)))))
  ·have hz:zs.take i=zs:=Q21 (by omega)
   rw[hz]at h4
   obtain rfl:=Core.sort_done hd h3 h4
   have hl9:xs.length=(Core.sortC xs).length:=hl.symm
   rw[show aS 104 4 Cel.D (Core.sortC xs)=.row 104 4 (Core.sortC xs).length (fun i=>Cel.D ((Core.sortC xs).getD i default))from rfl,← hl9]
   (refine af.sealB [0] rfl rfl rfl ?_ ?_);(focus((conv=>whnf);(repeat' (first|exact zE))));(focus((conv=>whnf);(repeat' (first|exact zE|((refine And.intro ?_ ?_)<;>(conv=>whnf))))))
theorem pdq_C(xs:List Cel)(lim:Int)(hB:∀c∈xs,IsB c.key∧gj c.pol c.key)(hd:xs.Pairwise (fun a b=>idn a≠idn b))(hx1:xs.length≤12) :
  Fun TC 47 1 [.sl 0 4 0 xs.length,.i .i64 0,.i .i64 xs.length,.i .i64 lim,.d (.fn (.func 31) [])] [(0,some (aS 104 4 Cel.D xs))] 1 (.tup []) [(0,some (aS 104 4 Cel.D (Core.sortC xs)))]:=by
 have hI:=rA xs hB hd (by omega)
 refine Fun.mk' Tryz.func47 rfl rfl zN (by decide) ?_
 (repeat' (first|((first|refine Wp.any ac rfl ?_|(with_reducible first|refine Go.mk ?_|apply aj.of|refine Ov.ok zO ?_));conv=>whnf)|((refine ab.fn (hI) [0] rfl rfl rfl rfl rfl ?ha ?hh ?_);(case ha=>exact zA);(case hh=>exact zH);(conv=>whnf))|((with_reducible refine Wp.loopN 2 ?_);conv=>whnf)|((refine ap (fun hc=>?_) (fun hc=>?_))<;>(try simp only[wz9]at hc)<;>(try (exfalso;omega))<;>(conv=>whnf))))
 all_goals(refine af.sealB [0] rfl rfl rfl ?_ ?_);(focus((conv=>whnf);(repeat' (first|exact zE))));(focus((conv=>whnf);(repeat' (first|exact zE|((refine And.intro ?_ ?_)<;>(conv=>whnf))))))
theorem sq(n:Nat)(h:n≤12):∃r:Int,Pure TC 73 [.i .u64 n] (.i .i64 r):=by
 apply Exists.intro
 case h =>
  refine Pure.mk' Tryz.func73 rfl rfl zN ?_
  (repeat' (first|((first|refine Wp.any ac rfl ?_|(with_reducible first|refine Go.mk ?_|apply aj.of|refine Ov.ok zO ?_));conv=>whnf)|((with_reducible refine And.intro ⟨?_,?_⟩ ?_);(exact Int.ofNat_le.2 (Nat.zero_le _));(exact Int.ofNat_lt.2 (Nat.lt_of_lt_of_le (show n<256 by omega) zN));(conv=>whnf))|((with_reducible refine Ov.mk ?_);conv=>whnf)|((refine ap (fun hc=>?_) (fun hc=>?_))<;>(try simp only[wz9]at hc)<;>(try (exfalso;omega))<;>(conv=>whnf))))
  exact SV.Le.i rfl
theorem sort_C(xs:List Cel)(hB:∀c∈xs,IsB c.key∧gj c.pol c.key)(hd:xs.Pairwise (fun a b=>idn a≠idn b))(hx1:xs.length≤12) :
  Fun TC 30 1 [.sl 0 4 0 xs.length,.d (.fn (.func 31) [])] [(0,some (aS 104 4 Cel.D xs))] 1 (.tup []) [(0,some (aS 104 4 Cel.D (Core.sortC xs)))]:=by
 obtain⟨r,hb⟩:=sq xs.length hx1
 have hI:=pdq_C xs r hB hd (by omega)
 refine Fun.mk' Tryz.func30 rfl rfl zN (by decide) ?_
 (repeat' (first|((first|refine Wp.any ac rfl ?_|(with_reducible first|refine Go.mk ?_|apply aj.of|refine Ov.ok zO ?_));conv=>whnf)|((refine ab.fn (hI) [0] rfl rfl rfl rfl rfl ?ha ?hh ?_);(case ha=>exact zA);(case hh=>exact zH);(conv=>whnf))|((with_reducible refine ab.pure (hb) rfl rfl ?_);conv=>whnf)|(with_reducible refine ab.inline Tryz.func48 rfl rfl rfl (zzb rfl) ?_)))
 all_goals(refine af.sealB [0] rfl rfl rfl ?_ ?_);(focus((conv=>whnf);(repeat' (first|exact zE))));(focus((conv=>whnf);(repeat' (first|exact zE|((refine And.intro ?_ ?_)<;>(conv=>whnf))))))
end Go.Proofs.YtgkpjebgcfjfnaaGreat
