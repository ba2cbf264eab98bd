/- Lemmas of Cd3d, Cd4, Cd5, Cd6, Cd6a. No condition. -/
import Derived.Test.YtlkccdlgnpkjpaaGreatMO16
set_option linter.unusedVariables false
set_option linter.unusedSimpArgs false
set_option linter.unusedSectionVars false
set_option maxHeartbeats 80000000
set_option maxRecDepth 100000
namespace Go.Proofs.YtlkccdlgnpkjpaaGreat
open Go.RowKit
theorem yT{ps:List Pol}{room:Int}{g:Nat→SV}{M:Core.Mc}{xs:Nat→XB}{nl:Nat}{f:Nat→List D}{cnt:Int}{x:Core.X}{s:Core.CS}(w:Nat)(hw:w<64)(hM:COK ps room w g M xs nl cnt)(hn:s≠.none)(hs:okC ps M x s)
  (hg:g w=SV.ren (at4 (4+6)) (cl (aa ps room) w x s)) (hx:xs 6=⟨9,xF w x⟩) :
  ∃a,Fun TC 76 14 [.ptr 0 3,.i .i64 w] (ao ps room g M xs nl f cnt)
   15 (rsS (Core.step (aa ps room) M x s).r)
   (a6 ps room (Dir.upd g w (SV.ren (at4 (4+6)) (cl (aa ps room) w (Core.step (aa ps room) M x s).x (Core.step (aa ps room) M x s).s))) (Core.step (aa ps room) M x s).M (xsU xs 6 ⟨9,xF w (Core.step (aa ps room) M x s).x⟩) nl f cnt a):=by
 obtain⟨n,caps,a,e,hF⟩:=b8 (f:=f) (hM.perm 6 (by decide)) hn hs
 have q5:=hM.g;have qo:=hM.o
 have hlt5:SV.Lt 5 (.fn (.func n) caps):=e▸ez (aa ps room) w x s
 rw[e]at hg
 have hg2:av ps room g (w+3)=.fn (.func n) (SV.renL (at4 (4+6)) caps):=hg
 have hlt:SV.Lt 13 (.fn (.func n) (SV.renL (at4 (4+6)) caps)):=aZ hlt5 (fun l hl=>bH hl (by decide) (by decide)) rfl
 have ef:=cK (aa ps room) w (Core.step (aa ps room) M x s).x (Core.step (aa ps room) M x s).s
 refine⟨a,?_⟩
 rw[← b6 hx]
 generalize Core.step (aa ps room) M x s=Q at hF ef⊢
 obtain⟨M',x',s',r⟩:=Q
 dsimp only at hF ef⊢
 rw[show xsU (xsU xs 6 ⟨9,xF w x⟩) 6 ⟨9,xF w x'⟩=xsU xs 6 ⟨9,xF w x'⟩by funext i;unfold xsU;cases Nat.beq i 6<;>rfl]
 generalize hy:cl (aa ps room) (w:Int) x' s'=y at hF ef⊢
 refine Fun.mk' Tryz.func76 rfl rfl zN (by decide) ?_
 rcases ef with rfl|⟨n2,caps2,rfl,lt2⟩
 all_goals
  (repeat' (first|((with_reducible refine And.intro (cg (show jE _ _ _ _=true by kernel_rfl) ?hE ?hF ?hH) ?_);(case hE=>exact ux);(case hF=>exact zz8);(case hH=>exact zz8);(conv=>whnf))|((first|refine Wp.any ac rfl ?_|(with_reducible first|refine Go.mk ?_|apply ai.of|refine And.intro zC ?_));conv=>whnf)|(with_reducible refine Or.inl ?_)|((with_reducible refine IxA.ptr ?_);conv=>whnf)|((refine At.mk' (w+3) (by show 3+((w:Nat):Int).toNat*1=w+3;omega) ?_);(refine And.intro (by omega) ?_);(rw[hg2]);(conv=>whnf))|((refine ag.new (hF) [0,1,2,3,10,5,6,7,8,9,4,11,12,13] [] rfl rfl rfl rfl rfl rfl ?ha ?hh ?hs ?_);(case ha=>exact uw);(case hh=>exact uv);(case hs=>exact trivial);(conv=>whnf))|((refine And.intro (by first|exact .of rfl|exact aZ lt2 (fun l hl=>by rcases l with _|_|_|_|_|l<;>first|exact zN|omega) rfl) ?_);conv=>whnf)|((refine At.mk' (w+3) (by show 3+((w:Nat):Int).toNat*1=w+3;omega) ?_);(refine And.intro (by omega) ?_);conv=>whnf)))
 all_goals
  apply af.seal14
  case hH =>
   conv=>whnf
   refine And.intro ?c0 ?_
   case c0 =>
    conv=>whnf
    first
     | exact⟨⟨rfl,zzb rfl⟩,aw q5 (SV.ren_lt (fun l hl=>bH hl (by decide) (by decide)) lt2) (a9 lt2 (fun l hl=>by rcases l with _|_|_|_|_|l<;>first|exact⟨by decide,rfl⟩|rfl|omega)) (fun l hl=>bw hl) (fun l hl=>by rcases l with _|_|_|_|_|_|_|_|_|_|_|_|_|l<;>first|exact⟨by decide,rfl⟩|rfl|omega)⟩
     | exact⟨⟨rfl,zzb rfl⟩,aw q5 (.of rfl) rfl (fun l hl=>bw hl) (fun l hl=>by rcases l with _|_|_|_|_|_|_|_|_|_|_|_|_|l<;>first|exact⟨by decide,rfl⟩|rfl|omega)⟩
   conv=>whnf
   (repeat' (first|exact zK9|exact ax (qo _) rfl|((refine And.intro ?_ ?_)<;>(conv=>whnf))))
  case hx=>(conv=>whnf);(repeat' (first|exact zK9|((refine aj.agg ?_);(conv=>whnf))|((refine And.intro ?_ ?_)<;>(conv=>whnf))))
  case hd=>exact rfl
theorem yS{ps:List Pol}{room:Int}{g:Nat→SV}{M:Core.Mc}{xs:Nat→XB}{nl:Nat}{f:Nat→List D}{cnt:Int}{x:Core.X}{s:Core.CS}(w:Nat)(hw:w<64)(hM:COK ps room w g M xs nl cnt)(hn:s≠.none)(hs:okC ps M x s)
  (hg:g w=SV.ren (at4 (4+7)) (cl (aa ps room) w x s)) (hx:xs 7=⟨9,xF w x⟩) :
  ∃a,Fun TC 76 14 [.ptr 0 3,.i .i64 w] (ao ps room g M xs nl f cnt)
   15 (rsS (Core.step (aa ps room) M x s).r)
   (a6 ps room (Dir.upd g w (SV.ren (at4 (4+7)) (cl (aa ps room) w (Core.step (aa ps room) M x s).x (Core.step (aa ps room) M x s).s))) (Core.step (aa ps room) M x s).M (xsU xs 7 ⟨9,xF w (Core.step (aa ps room) M x s).x⟩) nl f cnt a):=by
 obtain⟨n,caps,a,e,hF⟩:=b8 (f:=f) (hM.perm 7 (by decide)) hn hs
 have q5:=hM.g;have qo:=hM.o
 have hlt5:SV.Lt 5 (.fn (.func n) caps):=e▸ez (aa ps room) w x s
 rw[e]at hg
 have hg2:av ps room g (w+3)=.fn (.func n) (SV.renL (at4 (4+7)) caps):=hg
 have hlt:SV.Lt 13 (.fn (.func n) (SV.renL (at4 (4+7)) caps)):=aZ hlt5 (fun l hl=>bH hl (by decide) (by decide)) rfl
 have ef:=cK (aa ps room) w (Core.step (aa ps room) M x s).x (Core.step (aa ps room) M x s).s
 refine⟨a,?_⟩
 rw[← b6 hx]
 generalize Core.step (aa ps room) M x s=Q at hF ef⊢
 obtain⟨M',x',s',r⟩:=Q
 dsimp only at hF ef⊢
 rw[show xsU (xsU xs 7 ⟨9,xF w x⟩) 7 ⟨9,xF w x'⟩=xsU xs 7 ⟨9,xF w x'⟩by funext i;unfold xsU;cases Nat.beq i 7<;>rfl]
 generalize hy:cl (aa ps room) (w:Int) x' s'=y at hF ef⊢
 refine Fun.mk' Tryz.func76 rfl rfl zN (by decide) ?_
 rcases ef with rfl|⟨n2,caps2,rfl,lt2⟩
 all_goals
  (repeat' (first|((with_reducible refine And.intro (cg (show jE _ _ _ _=true by kernel_rfl) ?hE ?hF ?hH) ?_);(case hE=>exact ux);(case hF=>exact zz8);(case hH=>exact zz8);(conv=>whnf))|((first|refine Wp.any ac rfl ?_|(with_reducible first|refine Go.mk ?_|apply ai.of|refine And.intro zC ?_));conv=>whnf)|(with_reducible refine Or.inl ?_)|((with_reducible refine IxA.ptr ?_);conv=>whnf)|((refine At.mk' (w+3) (by show 3+((w:Nat):Int).toNat*1=w+3;omega) ?_);(refine And.intro (by omega) ?_);(rw[hg2]);(conv=>whnf))|((refine ag.new (hF) [0,1,2,3,11,5,6,7,8,9,10,4,12,13] [] rfl rfl rfl rfl rfl rfl ?ha ?hh ?hs ?_);(case ha=>exact uw);(case hh=>exact uv);(case hs=>exact trivial);(conv=>whnf))|((refine And.intro (by first|exact .of rfl|exact aZ lt2 (fun l hl=>by rcases l with _|_|_|_|_|l<;>first|exact zN|omega) rfl) ?_);conv=>whnf)|((refine At.mk' (w+3) (by show 3+((w:Nat):Int).toNat*1=w+3;omega) ?_);(refine And.intro (by omega) ?_);conv=>whnf)))
 all_goals
  apply af.seal14
  case hH =>
   conv=>whnf
   refine And.intro ?c0 ?_
   case c0 =>
    conv=>whnf
    first
     | exact⟨⟨rfl,zzb rfl⟩,aw q5 (SV.ren_lt (fun l hl=>bH hl (by decide) (by decide)) lt2) (a9 lt2 (fun l hl=>by rcases l with _|_|_|_|_|l<;>first|exact⟨by decide,rfl⟩|rfl|omega)) (fun l hl=>bw hl) (fun l hl=>by rcases l with _|_|_|_|_|_|_|_|_|_|_|_|_|l<;>first|exact⟨by decide,rfl⟩|rfl|omega)⟩
     | exact⟨⟨rfl,zzb rfl⟩,aw q5 (.of rfl) rfl (fun l hl=>bw hl) (fun l hl=>by rcases l with _|_|_|_|_|_|_|_|_|_|_|_|_|l<;>first|exact⟨by decide,rfl⟩|rfl|omega)⟩
   conv=>whnf
   (repeat' (first|exact zK9|exact ax (qo _) rfl|((refine And.intro ?_ ?_)<;>(conv=>whnf))))
  case hx=>(conv=>whnf);(repeat' (first|exact zK9|((refine aj.agg ?_);(conv=>whnf))|((refine And.intro ?_ ?_)<;>(conv=>whnf))))
  case hd=>exact rfl
theorem yR{ps:List Pol}{room:Int}{g:Nat→SV}{M:Core.Mc}{xs:Nat→XB}{nl:Nat}{f:Nat→List D}{cnt:Int}{x:Core.X}{s:Core.CS}(w:Nat)(hw:w<64)(hM:COK ps room w g M xs nl cnt)(hn:s≠.none)(hs:okC ps M x s)
  (hg:g w=SV.ren (at4 (4+8)) (cl (aa ps room) w x s)) (hx:xs 8=⟨9,xF w x⟩) :
  ∃a,Fun TC 76 14 [.ptr 0 3,.i .i64 w] (ao ps room g M xs nl f cnt)
   15 (rsS (Core.step (aa ps room) M x s).r)
   (a6 ps room (Dir.upd g w (SV.ren (at4 (4+8)) (cl (aa ps room) w (Core.step (aa ps room) M x s).x (Core.step (aa ps room) M x s).s))) (Core.step (aa ps room) M x s).M (xsU xs 8 ⟨9,xF w (Core.step (aa ps room) M x s).x⟩) nl f cnt a):=by
 obtain⟨n,caps,a,e,hF⟩:=b8 (f:=f) (hM.perm 8 (by decide)) hn hs
 have q5:=hM.g;have qo:=hM.o
 have hlt5:SV.Lt 5 (.fn (.func n) caps):=e▸ez (aa ps room) w x s
 rw[e]at hg
 have hg2:av ps room g (w+3)=.fn (.func n) (SV.renL (at4 (4+8)) caps):=hg
 have hlt:SV.Lt 13 (.fn (.func n) (SV.renL (at4 (4+8)) caps)):=aZ hlt5 (fun l hl=>bH hl (by decide) (by decide)) rfl
 have ef:=cK (aa ps room) w (Core.step (aa ps room) M x s).x (Core.step (aa ps room) M x s).s
 refine⟨a,?_⟩
 rw[← b6 hx]
 generalize Core.step (aa ps room) M x s=Q at hF ef⊢
 obtain⟨M',x',s',r⟩:=Q
 dsimp only at hF ef⊢
 rw[show xsU (xsU xs 8 ⟨9,xF w x⟩) 8 ⟨9,xF w x'⟩=xsU xs 8 ⟨9,xF w x'⟩by funext i;unfold xsU;cases Nat.beq i 8<;>rfl]
 generalize hy:cl (aa ps room) (w:Int) x' s'=y at hF ef⊢
 refine Fun.mk' Tryz.func76 rfl rfl zN (by decide) ?_
 rcases ef with rfl|⟨n2,caps2,rfl,lt2⟩
 all_goals
  (repeat' (first|((with_reducible refine And.intro (cg (show jE _ _ _ _=true by kernel_rfl) ?hE ?hF ?hH) ?_);(case hE=>exact ux);(case hF=>exact zz8);(case hH=>exact zz8);(conv=>whnf))|((first|refine Wp.any ac rfl ?_|(with_reducible first|refine Go.mk ?_|apply ai.of|refine And.intro zC ?_));conv=>whnf)|(with_reducible refine Or.inl ?_)|((with_reducible refine IxA.ptr ?_);conv=>whnf)|((refine At.mk' (w+3) (by show 3+((w:Nat):Int).toNat*1=w+3;omega) ?_);(refine And.intro (by omega) ?_);(rw[hg2]);(conv=>whnf))|((refine ag.new (hF) [0,1,2,3,12,5,6,7,8,9,10,11,4,13] [] rfl rfl rfl rfl rfl rfl ?ha ?hh ?hs ?_);(case ha=>exact uw);(case hh=>exact uv);(case hs=>exact trivial);(conv=>whnf))|((refine And.intro (by first|exact .of rfl|exact aZ lt2 (fun l hl=>by rcases l with _|_|_|_|_|l<;>first|exact zN|omega) rfl) ?_);conv=>whnf)|((refine At.mk' (w+3) (by show 3+((w:Nat):Int).toNat*1=w+3;omega) ?_);(refine And.intro (by omega) ?_);conv=>whnf)))
 all_goals
  apply af.seal14
  case hH =>
   conv=>whnf
   refine And.intro ?c0 ?_
   case c0 =>
    conv=>whnf
    first
     | exact⟨⟨rfl,zzb rfl⟩,aw q5 (SV.ren_lt (fun l hl=>bH hl (by decide) (by decide)) lt2) (a9 lt2 (fun l hl=>by rcases l with _|_|_|_|_|l<;>first|exact⟨by decide,rfl⟩|rfl|omega)) (fun l hl=>bw hl) (fun l hl=>by rcases l with _|_|_|_|_|_|_|_|_|_|_|_|_|l<;>first|exact⟨by decide,rfl⟩|rfl|omega)⟩
     | exact⟨⟨rfl,zzb rfl⟩,aw q5 (.of rfl) rfl (fun l hl=>bw hl) (fun l hl=>by rcases l with _|_|_|_|_|_|_|_|_|_|_|_|_|l<;>first|exact⟨by decide,rfl⟩|rfl|omega)⟩
   conv=>whnf
   (repeat' (first|exact zK9|exact ax (qo _) rfl|((refine And.intro ?_ ?_)<;>(conv=>whnf))))
  case hx=>(conv=>whnf);(repeat' (first|exact zK9|((refine aj.agg ?_);(conv=>whnf))|((refine And.intro ?_ ?_)<;>(conv=>whnf))))
  case hd=>exact rfl
theorem qM{ps:List Pol}{room:Int}{g:Nat→SV}{M:Core.Mc}{xs:Nat→XB}{nl:Nat}{f:Nat→List D}{cnt:Int}{x:Core.X}{s:Core.CS}(w q:Nat)(hw:w<64)(hq:q<9)(hM:COK ps room w g M xs nl cnt)(hn:s≠.none)(hs:okC ps M x s)
  (hg:g w=SV.ren (at4 (4+q)) (cl (aa ps room) w x s)) (hx:xs q=⟨9,xF w x⟩) :
  ∃a,Fun TC 76 14 [.ptr 0 3,.i .i64 w] (ao ps room g M xs nl f cnt)
   15 (rsS (Core.step (aa ps room) M x s).r)
   (a6 ps room (Dir.upd g w (SV.ren (at4 (4+q)) (cl (aa ps room) w (Core.step (aa ps room) M x s).x (Core.step (aa ps room) M x s).s))) (Core.step (aa ps room) M x s).M (xsU xs q ⟨9,xF w (Core.step (aa ps room) M x s).x⟩) nl f cnt a):=by
 rcases q with _|_|_|_|_|_|_|_|_|q
 ·exact yZ w hw hM hn hs hg hx
 ·exact yY w hw hM hn hs hg hx
 ·exact yX w hw hM hn hs hg hx
 ·exact yW w hw hM hn hs hg hx
 ·exact yV w hw hM hn hs hg hx
 ·exact yU w hw hM hn hs hg hx
 ·exact yT w hw hM hn hs hg hx
 ·exact yS w hw hM hn hs hg hx
 ·exact yR w hw hM hn hs hg hx
 ·omega
def isC:Core.CS→Bool
 | .none=>false
 | _=>true
theorem mR{s:Core.CS}(h:isC s=true):s≠.none:=by rintro rfl;cases h
theorem mQ{s:Core.CS}(h:isC s=false):s=.none:=by cases s<;>first|rfl|cases h
theorem cl_pend(P:Core.Ops)(who:Int)(x:Core.X)(ℓ:Nat)(s:Core.CS):(SV.ren (at4 ℓ) (cl P who x s)=eN∧isC s=false)∨∃n caps,SV.ren (at4 ℓ) (cl P who x s)=.fn (.func n) caps∧isC s=true:=by
 cases s with
 | none=>exact .inl ⟨rfl,rfl⟩
 | sH lv i up m=>cases up<;>exact .inr ⟨_,_,rfl,rfl⟩
 | sL lv i up m=>cases up<;>exact .inr ⟨_,_,rfl,rfl⟩
 | _=>exact .inr ⟨_,_,rfl,rfl⟩
theorem gI{ps:List Pol}{room who:Int}{g:Nat→SV}{M:Core.Mc}{xs:Nat→XB}{nl nl0:Nat}{f:Nat→List D}{cnt cnt0:Int}{x:Core.X}{s:Core.CS}{ℓ:Nat}(w:Nat)(hw:w<64)(hM:COK ps room who g M xs nl0 cnt0)(hg:g w=SV.ren (at4 ℓ) (cl (aa ps room) w x s)) :
  Fun TC 18 14 [.ptr 0 0,.i .i64 w] (ao ps room g M xs nl f cnt) 14 (.b (isC s)) (ao ps room g M xs nl f cnt):=by
 have q5:=hM.g;have qo:=hM.o
 refine Fun.mk' Tryz.func18 rfl rfl zN (by decide) ?_
 have hg2:av ps room g (w+3)=SV.ren (at4 ℓ) (cl (aa ps room) w x s):=hg
 rcases cl_pend (aa ps room) w x ℓ s with⟨e,e2⟩|⟨n,caps,e,e2⟩
 all_goals
  rw[e]at hg2
  rw[e2]
  (repeat' (first|((first|refine Wp.any ac rfl ?_|(with_reducible first|refine Go.mk ?_|apply ai.of|refine And.intro zC ?_|refine IxA.ptr ?_|refine ab.pure (bG _) rfl rfl ?_));conv=>whnf)|((refine At.mk' (w+3) (by show 3+((w:Nat):Int).toNat*1=w+3;omega) ?_);(refine And.intro (by omega) ?_);(rw[hg2]);(conv=>whnf))|((refine aq (fun hc=>?_) (fun hc=>?_))<;>(try simp only[wz9]at hc)<;>(try (exfalso;omega))<;>(conv=>whnf))))
  ((refine af.sealB [0,1,2,3,4,5,6,7,8,9,10,11,12,13] rfl rfl rfl ?_ ?_);(focus((conv=>whnf);(repeat' (first|exact aj.d))));(focus((conv=>whnf);(repeat' (first|exact zD9|exact a7 (qo _)|((refine And.intro ?_ ?_)<;>(conv=>whnf)))))))
theorem dw{ps:List Pol}{room who:Int}{g:Nat→SV}{M:Core.Mc}{o:Nat→XB}{nl nl0:Nat}{f:Nat→List D}{cnt cnt0:Int}{x:Core.X}(hM:COK ps room who g M o nl0 cnt0)(hk:x.op≠5→x.op≠6→Core.Kx ps x) :
  Fun TC 75 14 [.ptr 4 0] (ao ps room g M (a8 who x o) nl f cnt) 14 (cl (aa ps room) who x (Core.first x)) (ao ps room g M (a8 who x o) nl f cnt):=by
 have q5:=hM.g;have qo:=hM.o
 by_cases h6:x.op=6
 ·rw[show Core.first x=.s0 from if_pos h6]
  refine Fun.mk' Tryz.func75 rfl rfl zN (by decide) ?_
  (repeat' (first|((first|refine Wp.any ac rfl ?_|(with_reducible first|refine Go.mk ?_|apply ai.of)|refine zV ?_);conv=>whnf)|((with_reducible refine At.mk' _ rfl ?_);(refine And.intro zN ?_);conv=>whnf)|((with_reducible refine ag.funM (rK (aa ps room) x _) rfl rfl ?_);conv=>whnf)|((refine aq (fun hc=>?_) (fun hc=>?_))<;>(try simp only[wz9]at hc)<;>(try (exfalso;omega))<;>(conv=>whnf))))
  ((refine af.sealB [0,1,2,3,4,5,6,7,8,9,10,11,12,13] rfl rfl rfl ?_ ?_);(focus((conv=>whnf);(repeat' (first|exact zD9|((refine aj.fn ?_);(conv=>whnf))|((refine aj.iref ?_);(conv=>whnf))|((refine And.intro ?_ ?_)<;>(conv=>whnf))))));(focus((conv=>whnf);(repeat' (first|exact zD9|exact a7 (qo _)|((refine And.intro ?_ ?_)<;>(conv=>whnf)))))))
 ·by_cases h5:x.op=5
  ·rw[show Core.first x=.e0 by unfold Core.first;rw[if_neg h6,if_pos h5]]
   refine Fun.mk' Tryz.func75 rfl rfl zN (by decide) ?_
   (repeat' (first|((first|refine Wp.any ac rfl ?_|(with_reducible first|refine Go.mk ?_|apply ai.of));conv=>whnf)|((with_reducible refine At.mk' _ rfl ?_);(refine And.intro zN ?_);conv=>whnf)|((refine aq (fun hc=>?_) (fun hc=>?_))<;>(try simp only[wz9]at hc)<;>(try (exfalso;omega))<;>(conv=>whnf))))
   ((refine af.sealB [0,1,2,3,4,5,6,7,8,9,10,11,12,13] rfl rfl rfl ?_ ?_);(focus((conv=>whnf);(repeat' (first|exact zD9|((refine aj.ptr rfl rfl ?_);(conv=>whnf))|((refine aj.fn ?_);(conv=>whnf))|((refine And.intro ?_ ?_)<;>(conv=>whnf))))));(focus((conv=>whnf);(repeat' (first|exact zD9|exact a7 (qo _)|((refine And.intro ?_ ?_)<;>(conv=>whnf)))))))
  ·rw[show Core.first x=.k0 .key by unfold Core.first;rw[if_neg h6,if_neg h5]]
   have hB:=tX (x:=x) (nl:=nl) (f:=f) (cnt:=cnt) hM (hk h5 h6)
   refine Fun.mk' Tryz.func75 rfl rfl zN (by decide) ?_
   (repeat' (first|((first|refine Wp.any ac rfl ?_|(with_reducible first|refine Go.mk ?_|apply ai.of));conv=>whnf)|((with_reducible refine At.mk' _ rfl ?_);(refine And.intro zN ?_);conv=>whnf)|((apply ab.fn14 (h:=hB));(case hh=>exact zz1);(case ha=>exact zA);(case hd=>exact rfl);(case hlive=>exact rfl);(case hkeys=>exact rfl);(case hlt=>exact rfl);(conv=>whnf))|((refine aq (fun hc=>?_) (fun hc=>?_))<;>(try simp only[wz9]at hc)<;>(try (exfalso;omega))<;>(conv=>whnf))))
   ((refine af.sealB [0,1,2,3,4,5,6,7,8,9,10,11,12,13] rfl rfl rfl ?_ ?_);(focus((conv=>whnf);(repeat' (first|exact zD9|((refine aj.fn ?_);(conv=>whnf))|((refine aj.iref ?_);(conv=>whnf))|((refine And.intro ?_ ?_)<;>(conv=>whnf))))));(focus((conv=>whnf);(repeat' (first|exact zD9|exact ax (qo _) rfl|((refine And.intro ?_ ?_)<;>(conv=>whnf)))))))
def aX(w:Nat):Nat:=if w<8 then w else 8
theorem eL(w:Nat):aX w<9:=by unfold aX;split<;>omega
def gOf(P:Core.Ops)(B:Nat)(S:Nat→Core.Wk):Nat→SV:=fun j=>SV.ren (at4 (B+aX j)) (cl P j (S j).x (S j).s)
theorem mY{P:Core.Ops}{B:Nat}(hB:4≤B)(S:Nat→Core.Wk)(j:Nat):SV.Lt (B+9) (gOf P B S j) :=
 SV.ren_lt (fun l hl=>bH hl (by have:=eL j;omega) (by omega)) (ez P j _ _)
theorem oi(P:Core.Ops)(S:Nat→Core.Wk):∀j,SV.Lt 13 (gOf P 4 S j):=mY (Q4 4) S
theorem gOf_upd(P:Core.Ops)(B:Nat)(S:Nat→Core.Wk)(w:Nat)(x:Core.X)(s:Core.CS):Dir.upd (gOf P B S) w (SV.ren (at4 (B+aX w)) (cl P w x s))=gOf P B (Dir.upd S w ⟨x,s⟩):=by
 funext j
 unfold gOf Dir.upd
 by_cases h:j=w
 ·subst h;rw[if_pos rfl,if_pos rfl]
 ·rw[if_neg h,if_neg h]
def gp(ps:List Pol)(room:Int)(S:Nat→Core.Wk)(M:Core.Mc)(o:Nat→XB)(nl:Nat)(f:Nat→List D)(cnt:Int):List (Nat×Option Blk) :=
  [(0,some (.cf 23 67 (av ps room (gOf (aa ps room) 14 S)))),(1,some (cu 2 23 34 nl M.clk cnt)),(2,some (co 34 M.W)),(3,some (gK M.Hd)),
   (4,none),(5,none),(6,none),(7,none),(8,none),(9,none),(10,none),(11,none),(12,none),(13,none),
   (14,some (xB (o 0))),(15,some (xB (o 1))),(16,some (xB (o 2))),(17,some (xB (o 3))),(18,some (xB (o 4))),(19,some (xB (o 5))),(20,some (xB (o 6))),(21,some (xB (o 7))),(22,some (xB (o 8))),(23,some (bK nl f))]
theorem iP{St':St}{ps:List Pol}{room:Int}{S:Nat→Core.Wk}{b b':Nat}{L:List Nat}{π:Nat→Nat}(hb:4≤b')(h4:∀l,l<4→l<L.length∧L.getD l 0=l∧π l=l)(hq:∀q,q<9→b'+q<L.length∧L.getD (b'+q) 0=π (b+q)) :
  ∀j,j<67→aj St' L (SV.ren π (av ps room (gOf (aa ps room) b S) j)) (av ps room (gOf (aa ps room) b' S) j)∧SV.Lt (b'+9) (av ps room (gOf (aa ps room) b' S) j):=fun j _=>by
 have hl:∀x,SV.Lt 4 x→aj St' L (SV.ren π x) x:=fun x hx=>by
  have:=aj.renX (S:=St') (π1:=π) (π2:=fun l=>l) (L:=L) hx fun l hl=>⟨(h4 l hl).1,by rw[(h4 l hl).2.1,(h4 l hl).2.2]⟩
  rwa [SV.ren_same (π:=fun l=>l) (m:=4) (fun _ _=>rfl) hx]at this
 rcases j with _|_|_|j
 ·exact⟨aj.d,.of rfl⟩
 ·exact⟨aj.d,.of rfl⟩
 ·exact⟨hl _ (.of rfl),(show SV.Lt 4 ar from .of rfl).mono (by omega)⟩
 ·refine⟨?_,mY hb S j⟩
  show aj St' L (SV.ren π (SV.ren (at4 (b+aX j)) (cl (aa ps room) j (S j).x (S j).s))) (SV.ren (at4 (b'+aX j)) (cl (aa ps room) j (S j).x (S j).s))
  rw[SV.ren_ren]
  refine aj.renX (ez _ _ _ _) fun l hl=>?_
  by_cases e:l=4
  ·subst e;exact hq _ (eL j)
  ·rw[eF (by omega),eF (by omega),(h4 l (by omega)).2.2];exact⟨(h4 l (by omega)).1,(h4 l (by omega)).2.1⟩
theorem aj.slX{S:St}{L:List Nat}{l z o n i:Nat}(h1:i<L.length)(h2:L.getD i 0=l):aj S L (.sl l z o n) (.sl i z o n) :=
 ⟨fun O E a w v hs hv=>by
  subst h2
  cases hv with
  | sl _ _ _ _ ad cap hl hc hm ha h0=>exact .sl _ _ _ _ _ _ h1 hc hm ha h0⟩
theorem af.seal24{S:St}{x r:SV}{H':List (Nat×Option Blk)}{l:Nat}(hH:qw S [0,1,2,3,4,5,6,7,8,9,10,11,12,13,4,5,6,7,8,9,10,11,12,l] [] H')(hx:aj S [0,1,2,3,4,5,6,7,8,9,10,11,12,13,4,5,6,7,8,9,10,11,12,l] x r)(hd:bq (fb [0,1,2,3,4,5,6,7,8,9,10,11,12,13,4,5,6,7,8,9,10,11,12,l] [] H')=true):af 14 S x 24 r H' :=
 af.sealC _ [] rfl rfl hd hx hH
theorem aj.sl24{S:St}{l z o n:Nat}:aj S [0,1,2,3,4,5,6,7,8,9,10,11,12,13,4,5,6,7,8,9,10,11,12,l] (.sl l z o n) (.sl 23 z o n):=.slX (by simp) rfl
theorem rh{xs:Nat→XB}(h:∀i j,SV.Lt 1 ((xs i).f j))(q:Nat)(who:Int)(x:Core.X):∀i j,SV.Lt 1 ((xsU xs q ⟨9,xF who x⟩ i).f j):=fun i j=>by
 unfold xsU
 cases Nat.beq i q with
 | true=>exact cN who x j
 | false=>exact h i j
theorem tH{ps:List Pol}{room:Int}{S:Nat→Core.Wk}{M:Core.Mc}{xs:Nat→XB}{nl:Nat}{f:Nat→List D}{cnt:Int}(w:Nat)(hw:w<64)(hM:COK ps room w (gOf (aa ps room) 4 S) M xs nl cnt)(hn:isC (S w).s=true)(hs:okC ps M (S w).x (S w).s)(hx:xs (aX w)=⟨9,xF w (S w).x⟩) :
  ∃a,Fun TC 47 14 [.ptr 0 0,.i .i64 w] (ao ps room (gOf (aa ps room) 4 S) M xs nl f cnt)
   24 (.tup [rsS (Core.step (aa ps room) M (S w).x (S w).s).r,.i .i64 0])
   (gp ps room (Core.nx (aa ps room) M S w) (Core.mx (aa ps room) M S w) (xsU xs (aX w) ⟨9,xF w (Core.step (aa ps room) M (S w).x (S w).s).x⟩) (aC nl) (bO nl f a) (cnt+1)):=by
 obtain⟨a,hS⟩:=qM (f:=f) w (aX w) hw (eL w) hM (mR hn) hs rfl hx
 rw[gOf_upd]at hS
 have hP:=gI (nl:=nl) (f:=f) (cnt:=cnt) w hw hM rfl
 rw[hn]at hP
 have q5:=hM.g;have qo:=hM.o
 refine⟨a,?_⟩
 have qo':=rh qo (aX w) w (Core.step (aa ps room) M (S w).x (S w).s).x
 unfold Core.nx Core.mx
 generalize Core.step (aa ps room) M (S w).x (S w).s=Q at hS qo'⊢
 obtain⟨M',x',s',r⟩:=Q
 dsimp only at hS qo'⊢
 generalize Dir.upd S w ⟨x',s'⟩=S' at hS⊢
 generalize xsU xs (aX w) ⟨9,xF w x'⟩=xs' at hS qo'⊢
 refine Fun.mk' Tryz.func47 rfl rfl zN (by decide) ?_
 (repeat' (first|((first|refine Wp.any ac rfl ?_|(with_reducible first|refine Go.mk ?_|apply ai.of|refine ab.pure (bG _) rfl rfl ?_));conv=>whnf)|((apply ab.fn14 (h:=hP));(case hh=>exact zz1);(case ha=>exact zA);(case hd=>exact rfl);(case hlive=>exact rfl);(case hkeys=>exact rfl);(case hlt=>exact rfl);(conv=>whnf))|((apply ab.fn14 (h:=hS));(case hh=>exact zz17);(case ha=>exact zA);(case hd=>exact rfl);(case hlive=>exact rfl);(case hkeys=>exact rfl);(case hlt=>exact rfl);(conv=>whnf))|((refine aq (fun hc=>?_) (fun hc=>?_))<;>(try simp only[wz9]at hc)<;>(try (exfalso;omega))<;>(conv=>whnf))))
 apply af.seal24
 case hH =>
  conv=>whnf
  refine And.intro ?c0 ?_
  case c0 =>
   conv=>whnf
   exact⟨⟨rfl,zzb rfl⟩,iP (by decide) (fun l hl=>by rcases l with _|_|_|_|l<;>first|exact⟨zzb rfl,rfl,rfl⟩|exact⟨zzb rfl,rfl⟩|rfl|omega) (fun q hq=>by rcases q with _|_|_|_|_|_|_|_|_|q<;>first|exact⟨zzb rfl,rfl⟩|rfl|omega)⟩
  conv=>whnf
  (repeat' (first|exact trivial|exact aj.d|exact aj.sl24|exact aj.slL rfl|exact⟨rfl,rfl,rfl⟩|exact⟨rfl,zzb rfl⟩|exact ax (qo' _) rfl|exact fun i hi=>gy.refl _|((refine And.intro ?_ ?_)<;>(conv=>whnf))))
 case hx=>(conv=>whnf);(repeat' (first|exact trivial|exact aj.d|((refine aj.agg ?_);(conv=>whnf))|((refine aj.tup ?_);(conv=>whnf))|((refine And.intro ?_ ?_)<;>(conv=>whnf))))
 case hd=>exact rfl
def aJ(op pol:Int)(key:List Int)(n:Int):Core.X:=⟨op,pol,key,n,cC (bW pol key),false,0⟩
@[reducible] def jc(op pol:Int)(key:List Int)(n:Int):SV:=.agg [.i .u8 op,.i .i64 pol,.d (am 1 (aM .u8) key),.i .i64 n]
def Busy(S:Nat→Core.Wk):Prop:=∀j,(S j).s≠.none→j<8∨j=9
theorem nN{S:Nat→Core.Wk}(h:Busy S){w j:Nat}(hw:w<8∨w=9)(hj:(S j).s≠.none)(hne:j≠w):aX j≠aX w:=by
 have:=h j hj
 unfold aX
 split<;>split<;>omega
theorem cd(P:Core.Ops)(who:Int)(x:Core.X):∃n cs,cl P who x (Core.first x)=.fn (.func n) cs∧SV.Lt 5 (.fn (.func n) cs):=by
 rcases cK P who x (Core.first x)with h|h
 ·exfalso
  unfold Core.first at h
  split at h
  ·cases h
  ·split at h
   ·cases h
   ·cases h
 ·exact h
def g1(P:Core.Ops)(q:Nat)(S:Nat→Core.Wk)(w:Nat):Nat→SV:=fun j=>if j=w then eN else SV.ren (fun l=>bif Nat.beq l 4 then 4+q else l) (gOf P 4 S j)
theorem g1_lt{P:Core.Ops}{q:Nat}(hq:q<9)(S:Nat→Core.Wk)(w j:Nat):SV.Lt 13 (g1 P q S w j):=by
 unfold g1
 split
 ·exact .of rfl
 ·exact SV.ren_lt (fun l hl=>by cases Nat.beq l 4<;>simp only[cond_true,cond_false]<;>omega) (oi P S j)
theorem g1_arg{ps:List Pol}{room:Int}{S:Nat→Core.Wk}{w q:Nat}(hq:q<9)(hn:(S w).s=.none)(hne:∀j,(S j).s≠.none→j≠w→aX j≠q){L:List Nat}(h4:∀l,l<4→l<L.length∧L.getD l 0=l)
  (H:∀k,k<9→k≠q→(if k=0 then 4+q else 4+k)<L.length∧L.getD (if k=0 then 4+q else 4+k) 0=4+k) :
  ∀j,j<67→ae L (av ps room (gOf (aa ps room) 4 S) j) (av ps room (g1 (aa ps room) q S w) j)∧SV.Lt 13 (av ps room (g1 (aa ps room) q S w) j):=fun j _=>by
 refine⟨?_,aR (g1_lt hq S w) j⟩
 have hl:∀x,SV.Lt 4 x→ae L x x:=fun x hx=>by
  have:=ae.renX (π1:=fun l=>l) (π2:=fun l=>l) (L:=L) hx h4
  rwa [SV.ren_same (π:=fun l=>l) (m:=4) (fun _ _=>rfl) hx]at this
 rcases j with _|_|_|j
 ·exact hl _ (.of rfl)
 ·exact hl _ (.of rfl)
 ·exact hl _ (.of rfl)
 ·show ae L (gOf _ 4 S j) (g1 _ q S w j)
  unfold g1
  by_cases hj:j=w
  ·subst hj
   rw[if_pos rfl]
   show ae L (SV.ren (at4 (4+aX j)) (cl (aa ps room) j (S j).x (S j).s)) eN
   rw[hn]
   exact hl eN (.of rfl)
  ·rw [if_neg hj]
   by_cases hs:(S j).s=.none
   ·show ae L (SV.ren (at4 (4+aX j)) (cl (aa ps room) j (S j).x (S j).s)) (SV.ren _ (SV.ren (at4 (4+aX j)) (cl (aa ps room) j (S j).x (S j).s)))
    rw[hs]
    exact hl eN (.of rfl)
   ·have hk:=H (aX j) (eL j) (hne j hs hj)
    show ae L (SV.ren (at4 (4+aX j)) (cl (aa ps room) j (S j).x (S j).s)) (SV.ren _ (SV.ren (at4 (4+aX j)) (cl (aa ps room) j (S j).x (S j).s)))
    rw[SV.ren_ren]
    refine ae.renX (ez _ _ _ _) fun l hl=>?_
    by_cases e:l=4
    ·subst e
     show(bif Nat.beq (4+aX j) 4 then 4+q else 4+aX j)<L.length∧L.getD (bif Nat.beq (4+aX j) 4 then 4+q else 4+aX j) 0=4+aX j
     by_cases h0:aX j=0
     ·rw[h0]at hk⊢;exact hk
     ·rw[if_neg h0]at hk
      have:Nat.beq (4+aX j) 4=false:=by
       cases e:Nat.beq (4+aX j) 4 with
       | false=>rfl
       | true=>have:=Q2 e;omega
      rw[this];exact hk
    ·rw[eF (by omega)]
     have:Nat.beq l 4=false:=by
      cases e2:Nat.beq l 4 with
      | false=>rfl
      | true=>exact absurd (Q2 e2) e
     rw[this];exact h4 l (by omega)
theorem dq{St':St}{ps:List Pol}{room:Int}{S:Nat→Core.Wk}{w q ℓ:Nat}(hw:aX w=q)(hn:(S w).s=.none)(hne:∀j,(S j).s≠.none→j≠w→aX j≠q){L:List Nat}{π:Nat→Nat}{x:Core.X}{s:Core.CS}{y:SV}
  (hy:y=SV.ren (at4 ℓ) (cl (aa ps room) w x s)) (h4:∀l,l<4→l<L.length∧L.getD l 0=l∧π l=l) (hℓ:14+q<L.length∧L.getD (14+q) 0=ℓ)
  (H:∀k,k<9→k≠q→14+k<L.length∧L.getD (14+k) 0=π (if k=0 then 4+q else 4+k)) :
  ∀j,j<67→aj St' L (bif Nat.beq j (w+3)then y else SV.ren π (av ps room (g1 (aa ps room) q S w) j)) (av ps room (gOf (aa ps room) 14 (Dir.upd S w ⟨x,s⟩)) j)∧SV.Lt 23 (av ps room (gOf (aa ps room) 14 (Dir.upd S w ⟨x,s⟩)) j):=fun j _=>by
 have hl:∀x,SV.Lt 4 x→aj St' L (SV.ren π x) x:=fun x hx=>by
  have:=aj.renX (S:=St') (π1:=π) (π2:=fun l=>l) (L:=L) hx fun l hl=>⟨(h4 l hl).1,by rw[(h4 l hl).2.1,(h4 l hl).2.2]⟩
  rwa [SV.ren_same (π:=fun l=>l) (m:=4) (fun _ _=>rfl) hx]at this
 have hb:∀i,i≠w+3→Nat.beq i (w+3)=false:=fun i hi=>by
  cases e:Nat.beq i (w+3)with
  | false=>rfl
  | true=>exact absurd (Q2 e) hi
 rcases j with _|_|_|j
 ·rw[hb 0 (by omega)];exact⟨aj.d,.of rfl⟩
 ·rw[hb 1 (by omega)];exact⟨aj.d,.of rfl⟩
 ·rw[hb 2 (by omega)];exact⟨hl _ (.of rfl),(show SV.Lt 4 ar from .of rfl).mono (by decide)⟩
 ·refine⟨?_,mY (by decide) _ j⟩
  show aj St' L _ (gOf (aa ps room) 14 (Dir.upd S w ⟨x,s⟩) j)
  by_cases hj:j=w
  ·subst hj
   rw[show Nat.beq (j+1+1+1) (j+3)=true from Nat.beq_refl _,cond_true,hy]
   show aj St' L _ (SV.ren (at4 (14+aX j)) (cl (aa ps room) j (Dir.upd S j ⟨x,s⟩ j).x (Dir.upd S j ⟨x,s⟩ j).s))
   rw[Dir.upd_same,hw]
   refine aj.renX (ez _ _ _ _) fun l hl=>?_
   by_cases e:l=4
   ·subst e;exact hℓ
   ·rw[eF (by omega),eF (by omega)];exact⟨(h4 l (by omega)).1,(h4 l (by omega)).2.1⟩
  ·rw [hb (j+3) (by omega),cond_false]
   show aj St' L (SV.ren π (g1 (aa ps room) q S w j)) (SV.ren (at4 (14+aX j)) (cl (aa ps room) j (Dir.upd S w ⟨x,s⟩ j).x (Dir.upd S w ⟨x,s⟩ j).s))
   rw[Dir.upd_ne _ _ hj]
   unfold g1
   rw[if_neg hj]
   by_cases hs:(S j).s=.none
   ·show aj St' L (SV.ren π (SV.ren _ (SV.ren (at4 (4+aX j)) (cl (aa ps room) j (S j).x (S j).s)))) _
    rw[hs]
    exact hl eN (.of rfl)
   ·have hk:=H (aX j) (eL j) (hne j hs hj)
    show aj St' L (SV.ren π (SV.ren _ (SV.ren (at4 (4+aX j)) (cl (aa ps room) j (S j).x (S j).s)))) _
    rw[SV.ren_ren,SV.ren_ren]
    refine aj.renX (ez _ _ _ _) fun l hl=>?_
    by_cases e:l=4
    ·subst e
     show 14+aX j<L.length∧L.getD (14+aX j) 0=π (bif Nat.beq (4+aX j) 4 then 4+q else 4+aX j)
     by_cases h0:aX j=0
     ·rw[h0]at hk⊢;exact hk
     ·rw[if_neg h0]at hk
      have:Nat.beq (4+aX j) 4=false:=by
       cases e:Nat.beq (4+aX j) 4 with
       | false=>rfl
       | true=>have:=Q2 e;omega
      rw[this];exact hk
    ·rw[eF (by omega),eF (by omega)]
     have:Nat.beq l 4=false:=by
      cases e2:Nat.beq l 4 with
      | false=>rfl
      | true=>exact absurd (Q2 e2) e
     rw[this,cond_false,(h4 l (by omega)).2.2];exact⟨(h4 l (by omega)).1,(h4 l (by omega)).2.1⟩
theorem COK.g1{ps:List Pol}{room who:Int}{g:Nat→SV}{M:Core.Mc}{xs:Nat→XB}{nl:Nat}{cnt:Int}(h:COK ps room who g M xs nl cnt)(q:Nat)(hq:q<9)(S:Nat→Core.Wk)(w:Nat):COK ps room who (g1 (aa ps room) q S w) M (oq q xs) nl cnt :=
 ⟨h.w0,h.w1,h.nl,h.c0,h.c1,g1_lt hq S w,fun i j=>by unfold oq;cases Nat.beq (i+1) q<;>exact h.o _ _,h.d0,h.d1,h.hd,h.ps,h.room,h.c32,h.c33⟩
theorem di{π:Nat→Nat}{F:Fn}{cs:List SV}{b k:Nat}(h:SV.Lt 5 (.fn F cs))(hπ:∀l,l<5→π l<k)(hb:b=k):SV.Lt b (.fn F (SV.renL π cs)):=by
 subst hb
 have:=SV.ren_lt hπ h
 unfold SV.ren at this
 exact this
end Go.Proofs.YtlkccdlgnpkjpaaGreat
