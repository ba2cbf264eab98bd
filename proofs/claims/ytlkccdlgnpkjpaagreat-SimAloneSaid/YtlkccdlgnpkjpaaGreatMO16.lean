/- Lemmas of Cd3, Cd3b, Cd3c. No condition. -/
import Derived.Test.YtlkccdlgnpkjpaaGreatMO15
set_option linter.unusedVariables false
set_option linter.unusedSimpArgs false
set_option linter.unusedSectionVars false
set_option maxHeartbeats 80000000
set_option maxRecDepth 100000
namespace Go.Proofs.YtlkccdlgnpkjpaaGreat
open Go.RowKit
def xsU(xs:Nat→XB)(q:Nat)(Z:XB):Nat→XB:=fun i=>bif Nat.beq i q then Z else xs i
theorem b6{xs:Nat→XB}{q:Nat}{Z:XB}(h:xs q=Z):xsU xs q Z=xs:=by
 funext i
 unfold xsU
 cases e:Nat.beq i q with
 | true=>have:=Q2 e;subst this;exact h.symm
 | false=>rfl
theorem aZ{π:Nat→Nat}{F:Fn}{cs:List SV}{b:Nat}(h:SV.Lt 5 (.fn F cs))(hπ:∀l,l<5→π l<13)(hb:b=13):SV.Lt b (.fn F (SV.renL π cs)):=by
 subst hb
 have:=SV.ren_lt hπ h
 unfold SV.ren at this
 exact this
theorem a9{π σ:Nat→Nat}{F:Fn}{cs:List SV}(h:SV.Lt 5 (.fn F cs))(hπ:∀l,l<5→π l=σ l):SV.fn F (SV.renL π cs)=SV.ren σ (.fn F cs):=by
 have:=SV.ren_congr hπ h
 unfold SV.ren at this⊢
 exact this
theorem COK.perm{ps:List Pol}{room who:Int}{g:Nat→SV}{M:Core.Mc}{xs:Nat→XB}{nl:Nat}{cnt:Int}(h:COK ps room who g M xs nl cnt)(q:Nat)(hq:q<9):COK ps room who (fun j=>SV.ren (swp q) (g j)) M (oq q xs) nl cnt :=
 ⟨h.w0,h.w1,h.nl,h.c0,h.c1,fun j=>SV.ren_lt (fun l hl=>by
  unfold swp
  cases Nat.beq l 4<;>cases Nat.beq l (4+q)<;>simp only[cond_true,cond_false]<;>omega) (h.g j),fun i j=>by unfold oq;cases Nat.beq (i+1) q<;>exact h.o _ _,h.d0,h.d1,h.hd,h.ps,h.room,h.c32,h.c33⟩
theorem yZ{ps:List Pol}{room:Int}{g:Nat→SV}{M:Core.Mc}{xs:Nat→XB}{nl:Nat}{f:Nat→List D}{cnt:Int}{x:Core.X}{s:Core.CS}(w:Nat)(hw:w<64)(hM:COK ps room w g M xs nl cnt)(hn:s≠.none)(hs:okC ps M x s)
  (hg:g w=SV.ren (at4 (4+0)) (cl (aa ps room) w x s)) (hx:xs 0=⟨9,xF w x⟩) :
  ∃a,Fun TC 76 14 [.ptr 0 3,.i .i64 w] (ao ps room g M xs nl f cnt)
   15 (rsS (Core.step (aa ps room) M x s).r)
   (a6 ps room (Dir.upd g w (SV.ren (at4 (4+0)) (cl (aa ps room) w (Core.step (aa ps room) M x s).x (Core.step (aa ps room) M x s).s))) (Core.step (aa ps room) M x s).M (xsU xs 0 ⟨9,xF w (Core.step (aa ps room) M x s).x⟩) nl f cnt a):=by
 obtain⟨n,caps,a,e,hF⟩:=b8 (f:=f) (hM.perm 0 (by decide)) hn hs
 have q5:=hM.g;have qo:=hM.o
 have hlt5:SV.Lt 5 (.fn (.func n) caps):=e▸ez (aa ps room) w x s
 rw[e]at hg
 have hg2:av ps room g (w+3)=.fn (.func n) (SV.renL (at4 (4+0)) caps):=hg
 have hlt:SV.Lt 13 (.fn (.func n) (SV.renL (at4 (4+0)) caps)):=aZ hlt5 (fun l hl=>bH hl (by decide) (by decide)) rfl
 have ef:=cK (aa ps room) w (Core.step (aa ps room) M x s).x (Core.step (aa ps room) M x s).s
 refine⟨a,?_⟩
 rw[← b6 hx]
 generalize Core.step (aa ps room) M x s=Q at hF ef⊢
 obtain⟨M',x',s',r⟩:=Q
 dsimp only at hF ef⊢
 rw[show xsU (xsU xs 0 ⟨9,xF w x⟩) 0 ⟨9,xF w x'⟩=xsU xs 0 ⟨9,xF w x'⟩by funext i;unfold xsU;cases Nat.beq i 0<;>rfl]
 generalize hy:cl (aa ps room) (w:Int) x' s'=y at hF ef⊢
 refine Fun.mk' Tryz.func76 rfl rfl zN (by decide) ?_
 rcases ef with rfl|⟨n2,caps2,rfl,lt2⟩
 all_goals
  (repeat' (first|((with_reducible refine And.intro (cg (show jE _ _ _ _=true by kernel_rfl) ?hE ?hF ?hH) ?_);(case hE=>exact ux);(case hF=>exact zz8);(case hH=>exact zz8);(conv=>whnf))|((first|refine Wp.any ac rfl ?_|(with_reducible first|refine Go.mk ?_|apply ai.of|refine And.intro zC ?_));conv=>whnf)|(with_reducible refine Or.inl ?_)|((with_reducible refine IxA.ptr ?_);conv=>whnf)|((refine At.mk' (w+3) (by show 3+((w:Nat):Int).toNat*1=w+3;omega) ?_);(refine And.intro (by omega) ?_);(rw[hg2]);(conv=>whnf))|((refine ag.new (hF) [0,1,2,3,4,5,6,7,8,9,10,11,12,13] [] rfl rfl rfl rfl rfl rfl ?ha ?hh ?hs ?_);(case ha=>exact uw);(case hh=>exact uv);(case hs=>exact trivial);(conv=>whnf))|((refine And.intro (by first|exact .of rfl|exact aZ lt2 (fun l hl=>by rcases l with _|_|_|_|_|l<;>first|exact zN|omega) rfl) ?_);conv=>whnf)|((refine At.mk' (w+3) (by show 3+((w:Nat):Int).toNat*1=w+3;omega) ?_);(refine And.intro (by omega) ?_);conv=>whnf)))
 all_goals
  apply af.seal14
  case hH =>
   conv=>whnf
   refine And.intro ?c0 ?_
   case c0 =>
    conv=>whnf
    first
     | exact⟨⟨rfl,zzb rfl⟩,aw q5 (SV.ren_lt (fun l hl=>bH hl (by decide) (by decide)) lt2) (a9 lt2 (fun l hl=>by rcases l with _|_|_|_|_|l<;>first|exact⟨by decide,rfl⟩|rfl|omega)) (fun l hl=>bw hl) (fun l hl=>by rcases l with _|_|_|_|_|_|_|_|_|_|_|_|_|l<;>first|exact⟨by decide,rfl⟩|rfl|omega)⟩
     | exact⟨⟨rfl,zzb rfl⟩,aw q5 (.of rfl) rfl (fun l hl=>bw hl) (fun l hl=>by rcases l with _|_|_|_|_|_|_|_|_|_|_|_|_|l<;>first|exact⟨by decide,rfl⟩|rfl|omega)⟩
   conv=>whnf
   (repeat' (first|exact zK9|exact ax (qo _) rfl|((refine And.intro ?_ ?_)<;>(conv=>whnf))))
  case hx=>(conv=>whnf);(repeat' (first|exact zK9|((refine aj.agg ?_);(conv=>whnf))|((refine And.intro ?_ ?_)<;>(conv=>whnf))))
  case hd=>exact rfl
theorem yY{ps:List Pol}{room:Int}{g:Nat→SV}{M:Core.Mc}{xs:Nat→XB}{nl:Nat}{f:Nat→List D}{cnt:Int}{x:Core.X}{s:Core.CS}(w:Nat)(hw:w<64)(hM:COK ps room w g M xs nl cnt)(hn:s≠.none)(hs:okC ps M x s)
  (hg:g w=SV.ren (at4 (4+1)) (cl (aa ps room) w x s)) (hx:xs 1=⟨9,xF w x⟩) :
  ∃a,Fun TC 76 14 [.ptr 0 3,.i .i64 w] (ao ps room g M xs nl f cnt)
   15 (rsS (Core.step (aa ps room) M x s).r)
   (a6 ps room (Dir.upd g w (SV.ren (at4 (4+1)) (cl (aa ps room) w (Core.step (aa ps room) M x s).x (Core.step (aa ps room) M x s).s))) (Core.step (aa ps room) M x s).M (xsU xs 1 ⟨9,xF w (Core.step (aa ps room) M x s).x⟩) nl f cnt a):=by
 obtain⟨n,caps,a,e,hF⟩:=b8 (f:=f) (hM.perm 1 (by decide)) hn hs
 have q5:=hM.g;have qo:=hM.o
 have hlt5:SV.Lt 5 (.fn (.func n) caps):=e▸ez (aa ps room) w x s
 rw[e]at hg
 have hg2:av ps room g (w+3)=.fn (.func n) (SV.renL (at4 (4+1)) caps):=hg
 have hlt:SV.Lt 13 (.fn (.func n) (SV.renL (at4 (4+1)) caps)):=aZ hlt5 (fun l hl=>bH hl (by decide) (by decide)) rfl
 have ef:=cK (aa ps room) w (Core.step (aa ps room) M x s).x (Core.step (aa ps room) M x s).s
 refine⟨a,?_⟩
 rw[← b6 hx]
 generalize Core.step (aa ps room) M x s=Q at hF ef⊢
 obtain⟨M',x',s',r⟩:=Q
 dsimp only at hF ef⊢
 rw[show xsU (xsU xs 1 ⟨9,xF w x⟩) 1 ⟨9,xF w x'⟩=xsU xs 1 ⟨9,xF w x'⟩by funext i;unfold xsU;cases Nat.beq i 1<;>rfl]
 generalize hy:cl (aa ps room) (w:Int) x' s'=y at hF ef⊢
 refine Fun.mk' Tryz.func76 rfl rfl zN (by decide) ?_
 rcases ef with rfl|⟨n2,caps2,rfl,lt2⟩
 all_goals
  (repeat' (first|((with_reducible refine And.intro (cg (show jE _ _ _ _=true by kernel_rfl) ?hE ?hF ?hH) ?_);(case hE=>exact ux);(case hF=>exact zz8);(case hH=>exact zz8);(conv=>whnf))|((first|refine Wp.any ac rfl ?_|(with_reducible first|refine Go.mk ?_|apply ai.of|refine And.intro zC ?_));conv=>whnf)|(with_reducible refine Or.inl ?_)|((with_reducible refine IxA.ptr ?_);conv=>whnf)|((refine At.mk' (w+3) (by show 3+((w:Nat):Int).toNat*1=w+3;omega) ?_);(refine And.intro (by omega) ?_);(rw[hg2]);(conv=>whnf))|((refine ag.new (hF) [0,1,2,3,5,4,6,7,8,9,10,11,12,13] [] rfl rfl rfl rfl rfl rfl ?ha ?hh ?hs ?_);(case ha=>exact uw);(case hh=>exact uv);(case hs=>exact trivial);(conv=>whnf))|((refine And.intro (by first|exact .of rfl|exact aZ lt2 (fun l hl=>by rcases l with _|_|_|_|_|l<;>first|exact zN|omega) rfl) ?_);conv=>whnf)|((refine At.mk' (w+3) (by show 3+((w:Nat):Int).toNat*1=w+3;omega) ?_);(refine And.intro (by omega) ?_);conv=>whnf)))
 all_goals
  apply af.seal14
  case hH =>
   conv=>whnf
   refine And.intro ?c0 ?_
   case c0 =>
    conv=>whnf
    first
     | exact⟨⟨rfl,zzb rfl⟩,aw q5 (SV.ren_lt (fun l hl=>bH hl (by decide) (by decide)) lt2) (a9 lt2 (fun l hl=>by rcases l with _|_|_|_|_|l<;>first|exact⟨by decide,rfl⟩|rfl|omega)) (fun l hl=>bw hl) (fun l hl=>by rcases l with _|_|_|_|_|_|_|_|_|_|_|_|_|l<;>first|exact⟨by decide,rfl⟩|rfl|omega)⟩
     | exact⟨⟨rfl,zzb rfl⟩,aw q5 (.of rfl) rfl (fun l hl=>bw hl) (fun l hl=>by rcases l with _|_|_|_|_|_|_|_|_|_|_|_|_|l<;>first|exact⟨by decide,rfl⟩|rfl|omega)⟩
   conv=>whnf
   (repeat' (first|exact zK9|exact ax (qo _) rfl|((refine And.intro ?_ ?_)<;>(conv=>whnf))))
  case hx=>(conv=>whnf);(repeat' (first|exact zK9|((refine aj.agg ?_);(conv=>whnf))|((refine And.intro ?_ ?_)<;>(conv=>whnf))))
  case hd=>exact rfl
theorem yX{ps:List Pol}{room:Int}{g:Nat→SV}{M:Core.Mc}{xs:Nat→XB}{nl:Nat}{f:Nat→List D}{cnt:Int}{x:Core.X}{s:Core.CS}(w:Nat)(hw:w<64)(hM:COK ps room w g M xs nl cnt)(hn:s≠.none)(hs:okC ps M x s)
  (hg:g w=SV.ren (at4 (4+2)) (cl (aa ps room) w x s)) (hx:xs 2=⟨9,xF w x⟩) :
  ∃a,Fun TC 76 14 [.ptr 0 3,.i .i64 w] (ao ps room g M xs nl f cnt)
   15 (rsS (Core.step (aa ps room) M x s).r)
   (a6 ps room (Dir.upd g w (SV.ren (at4 (4+2)) (cl (aa ps room) w (Core.step (aa ps room) M x s).x (Core.step (aa ps room) M x s).s))) (Core.step (aa ps room) M x s).M (xsU xs 2 ⟨9,xF w (Core.step (aa ps room) M x s).x⟩) nl f cnt a):=by
 obtain⟨n,caps,a,e,hF⟩:=b8 (f:=f) (hM.perm 2 (by decide)) hn hs
 have q5:=hM.g;have qo:=hM.o
 have hlt5:SV.Lt 5 (.fn (.func n) caps):=e▸ez (aa ps room) w x s
 rw[e]at hg
 have hg2:av ps room g (w+3)=.fn (.func n) (SV.renL (at4 (4+2)) caps):=hg
 have hlt:SV.Lt 13 (.fn (.func n) (SV.renL (at4 (4+2)) caps)):=aZ hlt5 (fun l hl=>bH hl (by decide) (by decide)) rfl
 have ef:=cK (aa ps room) w (Core.step (aa ps room) M x s).x (Core.step (aa ps room) M x s).s
 refine⟨a,?_⟩
 rw[← b6 hx]
 generalize Core.step (aa ps room) M x s=Q at hF ef⊢
 obtain⟨M',x',s',r⟩:=Q
 dsimp only at hF ef⊢
 rw[show xsU (xsU xs 2 ⟨9,xF w x⟩) 2 ⟨9,xF w x'⟩=xsU xs 2 ⟨9,xF w x'⟩by funext i;unfold xsU;cases Nat.beq i 2<;>rfl]
 generalize hy:cl (aa ps room) (w:Int) x' s'=y at hF ef⊢
 refine Fun.mk' Tryz.func76 rfl rfl zN (by decide) ?_
 rcases ef with rfl|⟨n2,caps2,rfl,lt2⟩
 all_goals
  (repeat' (first|((with_reducible refine And.intro (cg (show jE _ _ _ _=true by kernel_rfl) ?hE ?hF ?hH) ?_);(case hE=>exact ux);(case hF=>exact zz8);(case hH=>exact zz8);(conv=>whnf))|((first|refine Wp.any ac rfl ?_|(with_reducible first|refine Go.mk ?_|apply ai.of|refine And.intro zC ?_));conv=>whnf)|(with_reducible refine Or.inl ?_)|((with_reducible refine IxA.ptr ?_);conv=>whnf)|((refine At.mk' (w+3) (by show 3+((w:Nat):Int).toNat*1=w+3;omega) ?_);(refine And.intro (by omega) ?_);(rw[hg2]);(conv=>whnf))|((refine ag.new (hF) [0,1,2,3,6,5,4,7,8,9,10,11,12,13] [] rfl rfl rfl rfl rfl rfl ?ha ?hh ?hs ?_);(case ha=>exact uw);(case hh=>exact uv);(case hs=>exact trivial);(conv=>whnf))|((refine And.intro (by first|exact .of rfl|exact aZ lt2 (fun l hl=>by rcases l with _|_|_|_|_|l<;>first|exact zN|omega) rfl) ?_);conv=>whnf)|((refine At.mk' (w+3) (by show 3+((w:Nat):Int).toNat*1=w+3;omega) ?_);(refine And.intro (by omega) ?_);conv=>whnf)))
 all_goals
  apply af.seal14
  case hH =>
   conv=>whnf
   refine And.intro ?c0 ?_
   case c0 =>
    conv=>whnf
    first
     | exact⟨⟨rfl,zzb rfl⟩,aw q5 (SV.ren_lt (fun l hl=>bH hl (by decide) (by decide)) lt2) (a9 lt2 (fun l hl=>by rcases l with _|_|_|_|_|l<;>first|exact⟨by decide,rfl⟩|rfl|omega)) (fun l hl=>bw hl) (fun l hl=>by rcases l with _|_|_|_|_|_|_|_|_|_|_|_|_|l<;>first|exact⟨by decide,rfl⟩|rfl|omega)⟩
     | exact⟨⟨rfl,zzb rfl⟩,aw q5 (.of rfl) rfl (fun l hl=>bw hl) (fun l hl=>by rcases l with _|_|_|_|_|_|_|_|_|_|_|_|_|l<;>first|exact⟨by decide,rfl⟩|rfl|omega)⟩
   conv=>whnf
   (repeat' (first|exact zK9|exact ax (qo _) rfl|((refine And.intro ?_ ?_)<;>(conv=>whnf))))
  case hx=>(conv=>whnf);(repeat' (first|exact zK9|((refine aj.agg ?_);(conv=>whnf))|((refine And.intro ?_ ?_)<;>(conv=>whnf))))
  case hd=>exact rfl
theorem yW{ps:List Pol}{room:Int}{g:Nat→SV}{M:Core.Mc}{xs:Nat→XB}{nl:Nat}{f:Nat→List D}{cnt:Int}{x:Core.X}{s:Core.CS}(w:Nat)(hw:w<64)(hM:COK ps room w g M xs nl cnt)(hn:s≠.none)(hs:okC ps M x s)
  (hg:g w=SV.ren (at4 (4+3)) (cl (aa ps room) w x s)) (hx:xs 3=⟨9,xF w x⟩) :
  ∃a,Fun TC 76 14 [.ptr 0 3,.i .i64 w] (ao ps room g M xs nl f cnt)
   15 (rsS (Core.step (aa ps room) M x s).r)
   (a6 ps room (Dir.upd g w (SV.ren (at4 (4+3)) (cl (aa ps room) w (Core.step (aa ps room) M x s).x (Core.step (aa ps room) M x s).s))) (Core.step (aa ps room) M x s).M (xsU xs 3 ⟨9,xF w (Core.step (aa ps room) M x s).x⟩) nl f cnt a):=by
 obtain⟨n,caps,a,e,hF⟩:=b8 (f:=f) (hM.perm 3 (by decide)) hn hs
 have q5:=hM.g;have qo:=hM.o
 have hlt5:SV.Lt 5 (.fn (.func n) caps):=e▸ez (aa ps room) w x s
 rw[e]at hg
 have hg2:av ps room g (w+3)=.fn (.func n) (SV.renL (at4 (4+3)) caps):=hg
 have hlt:SV.Lt 13 (.fn (.func n) (SV.renL (at4 (4+3)) caps)):=aZ hlt5 (fun l hl=>bH hl (by decide) (by decide)) rfl
 have ef:=cK (aa ps room) w (Core.step (aa ps room) M x s).x (Core.step (aa ps room) M x s).s
 refine⟨a,?_⟩
 rw[← b6 hx]
 generalize Core.step (aa ps room) M x s=Q at hF ef⊢
 obtain⟨M',x',s',r⟩:=Q
 dsimp only at hF ef⊢
 rw[show xsU (xsU xs 3 ⟨9,xF w x⟩) 3 ⟨9,xF w x'⟩=xsU xs 3 ⟨9,xF w x'⟩by funext i;unfold xsU;cases Nat.beq i 3<;>rfl]
 generalize hy:cl (aa ps room) (w:Int) x' s'=y at hF ef⊢
 refine Fun.mk' Tryz.func76 rfl rfl zN (by decide) ?_
 rcases ef with rfl|⟨n2,caps2,rfl,lt2⟩
 all_goals
  (repeat' (first|((with_reducible refine And.intro (cg (show jE _ _ _ _=true by kernel_rfl) ?hE ?hF ?hH) ?_);(case hE=>exact ux);(case hF=>exact zz8);(case hH=>exact zz8);(conv=>whnf))|((first|refine Wp.any ac rfl ?_|(with_reducible first|refine Go.mk ?_|apply ai.of|refine And.intro zC ?_));conv=>whnf)|(with_reducible refine Or.inl ?_)|((with_reducible refine IxA.ptr ?_);conv=>whnf)|((refine At.mk' (w+3) (by show 3+((w:Nat):Int).toNat*1=w+3;omega) ?_);(refine And.intro (by omega) ?_);(rw[hg2]);(conv=>whnf))|((refine ag.new (hF) [0,1,2,3,7,5,6,4,8,9,10,11,12,13] [] rfl rfl rfl rfl rfl rfl ?ha ?hh ?hs ?_);(case ha=>exact uw);(case hh=>exact uv);(case hs=>exact trivial);(conv=>whnf))|((refine And.intro (by first|exact .of rfl|exact aZ lt2 (fun l hl=>by rcases l with _|_|_|_|_|l<;>first|exact zN|omega) rfl) ?_);conv=>whnf)|((refine At.mk' (w+3) (by show 3+((w:Nat):Int).toNat*1=w+3;omega) ?_);(refine And.intro (by omega) ?_);conv=>whnf)))
 all_goals
  apply af.seal14
  case hH =>
   conv=>whnf
   refine And.intro ?c0 ?_
   case c0 =>
    conv=>whnf
    first
     | exact⟨⟨rfl,zzb rfl⟩,aw q5 (SV.ren_lt (fun l hl=>bH hl (by decide) (by decide)) lt2) (a9 lt2 (fun l hl=>by rcases l with _|_|_|_|_|l<;>first|exact⟨by decide,rfl⟩|rfl|omega)) (fun l hl=>bw hl) (fun l hl=>by rcases l with _|_|_|_|_|_|_|_|_|_|_|_|_|l<;>first|exact⟨by decide,rfl⟩|rfl|omega)⟩
     | exact⟨⟨rfl,zzb rfl⟩,aw q5 (.of rfl) rfl (fun l hl=>bw hl) (fun l hl=>by rcases l with _|_|_|_|_|_|_|_|_|_|_|_|_|l<;>first|exact⟨by decide,rfl⟩|rfl|omega)⟩
   conv=>whnf
   (repeat' (first|exact zK9|exact ax (qo _) rfl|((refine And.intro ?_ ?_)<;>(conv=>whnf))))
  case hx=>(conv=>whnf);(repeat' (first|exact zK9|((refine aj.agg ?_);(conv=>whnf))|((refine And.intro ?_ ?_)<;>(conv=>whnf))))
  case hd=>exact rfl
theorem yV{ps:List Pol}{room:Int}{g:Nat→SV}{M:Core.Mc}{xs:Nat→XB}{nl:Nat}{f:Nat→List D}{cnt:Int}{x:Core.X}{s:Core.CS}(w:Nat)(hw:w<64)(hM:COK ps room w g M xs nl cnt)(hn:s≠.none)(hs:okC ps M x s)
  (hg:g w=SV.ren (at4 (4+4)) (cl (aa ps room) w x s)) (hx:xs 4=⟨9,xF w x⟩) :
  ∃a,Fun TC 76 14 [.ptr 0 3,.i .i64 w] (ao ps room g M xs nl f cnt)
   15 (rsS (Core.step (aa ps room) M x s).r)
   (a6 ps room (Dir.upd g w (SV.ren (at4 (4+4)) (cl (aa ps room) w (Core.step (aa ps room) M x s).x (Core.step (aa ps room) M x s).s))) (Core.step (aa ps room) M x s).M (xsU xs 4 ⟨9,xF w (Core.step (aa ps room) M x s).x⟩) nl f cnt a):=by
 obtain⟨n,caps,a,e,hF⟩:=b8 (f:=f) (hM.perm 4 (by decide)) hn hs
 have q5:=hM.g;have qo:=hM.o
 have hlt5:SV.Lt 5 (.fn (.func n) caps):=e▸ez (aa ps room) w x s
 rw[e]at hg
 have hg2:av ps room g (w+3)=.fn (.func n) (SV.renL (at4 (4+4)) caps):=hg
 have hlt:SV.Lt 13 (.fn (.func n) (SV.renL (at4 (4+4)) caps)):=aZ hlt5 (fun l hl=>bH hl (by decide) (by decide)) rfl
 have ef:=cK (aa ps room) w (Core.step (aa ps room) M x s).x (Core.step (aa ps room) M x s).s
 refine⟨a,?_⟩
 rw[← b6 hx]
 generalize Core.step (aa ps room) M x s=Q at hF ef⊢
 obtain⟨M',x',s',r⟩:=Q
 dsimp only at hF ef⊢
 rw[show xsU (xsU xs 4 ⟨9,xF w x⟩) 4 ⟨9,xF w x'⟩=xsU xs 4 ⟨9,xF w x'⟩by funext i;unfold xsU;cases Nat.beq i 4<;>rfl]
 generalize hy:cl (aa ps room) (w:Int) x' s'=y at hF ef⊢
 refine Fun.mk' Tryz.func76 rfl rfl zN (by decide) ?_
 rcases ef with rfl|⟨n2,caps2,rfl,lt2⟩
 all_goals
  (repeat' (first|((with_reducible refine And.intro (cg (show jE _ _ _ _=true by kernel_rfl) ?hE ?hF ?hH) ?_);(case hE=>exact ux);(case hF=>exact zz8);(case hH=>exact zz8);(conv=>whnf))|((first|refine Wp.any ac rfl ?_|(with_reducible first|refine Go.mk ?_|apply ai.of|refine And.intro zC ?_));conv=>whnf)|(with_reducible refine Or.inl ?_)|((with_reducible refine IxA.ptr ?_);conv=>whnf)|((refine At.mk' (w+3) (by show 3+((w:Nat):Int).toNat*1=w+3;omega) ?_);(refine And.intro (by omega) ?_);(rw[hg2]);(conv=>whnf))|((refine ag.new (hF) [0,1,2,3,8,5,6,7,4,9,10,11,12,13] [] rfl rfl rfl rfl rfl rfl ?ha ?hh ?hs ?_);(case ha=>exact uw);(case hh=>exact uv);(case hs=>exact trivial);(conv=>whnf))|((refine And.intro (by first|exact .of rfl|exact aZ lt2 (fun l hl=>by rcases l with _|_|_|_|_|l<;>first|exact zN|omega) rfl) ?_);conv=>whnf)|((refine At.mk' (w+3) (by show 3+((w:Nat):Int).toNat*1=w+3;omega) ?_);(refine And.intro (by omega) ?_);conv=>whnf)))
 all_goals
  apply af.seal14
  case hH =>
   conv=>whnf
   refine And.intro ?c0 ?_
   case c0 =>
    conv=>whnf
    first
     | exact⟨⟨rfl,zzb rfl⟩,aw q5 (SV.ren_lt (fun l hl=>bH hl (by decide) (by decide)) lt2) (a9 lt2 (fun l hl=>by rcases l with _|_|_|_|_|l<;>first|exact⟨by decide,rfl⟩|rfl|omega)) (fun l hl=>bw hl) (fun l hl=>by rcases l with _|_|_|_|_|_|_|_|_|_|_|_|_|l<;>first|exact⟨by decide,rfl⟩|rfl|omega)⟩
     | exact⟨⟨rfl,zzb rfl⟩,aw q5 (.of rfl) rfl (fun l hl=>bw hl) (fun l hl=>by rcases l with _|_|_|_|_|_|_|_|_|_|_|_|_|l<;>first|exact⟨by decide,rfl⟩|rfl|omega)⟩
   conv=>whnf
   (repeat' (first|exact zK9|exact ax (qo _) rfl|((refine And.intro ?_ ?_)<;>(conv=>whnf))))
  case hx=>(conv=>whnf);(repeat' (first|exact zK9|((refine aj.agg ?_);(conv=>whnf))|((refine And.intro ?_ ?_)<;>(conv=>whnf))))
  case hd=>exact rfl
theorem yU{ps:List Pol}{room:Int}{g:Nat→SV}{M:Core.Mc}{xs:Nat→XB}{nl:Nat}{f:Nat→List D}{cnt:Int}{x:Core.X}{s:Core.CS}(w:Nat)(hw:w<64)(hM:COK ps room w g M xs nl cnt)(hn:s≠.none)(hs:okC ps M x s)
  (hg:g w=SV.ren (at4 (4+5)) (cl (aa ps room) w x s)) (hx:xs 5=⟨9,xF w x⟩) :
  ∃a,Fun TC 76 14 [.ptr 0 3,.i .i64 w] (ao ps room g M xs nl f cnt)
   15 (rsS (Core.step (aa ps room) M x s).r)
   (a6 ps room (Dir.upd g w (SV.ren (at4 (4+5)) (cl (aa ps room) w (Core.step (aa ps room) M x s).x (Core.step (aa ps room) M x s).s))) (Core.step (aa ps room) M x s).M (xsU xs 5 ⟨9,xF w (Core.step (aa ps room) M x s).x⟩) nl f cnt a):=by
 obtain⟨n,caps,a,e,hF⟩:=b8 (f:=f) (hM.perm 5 (by decide)) hn hs
 have q5:=hM.g;have qo:=hM.o
 have hlt5:SV.Lt 5 (.fn (.func n) caps):=e▸ez (aa ps room) w x s
 rw[e]at hg
 have hg2:av ps room g (w+3)=.fn (.func n) (SV.renL (at4 (4+5)) caps):=hg
 have hlt:SV.Lt 13 (.fn (.func n) (SV.renL (at4 (4+5)) caps)):=aZ hlt5 (fun l hl=>bH hl (by decide) (by decide)) rfl
 have ef:=cK (aa ps room) w (Core.step (aa ps room) M x s).x (Core.step (aa ps room) M x s).s
 refine⟨a,?_⟩
 rw[← b6 hx]
 generalize Core.step (aa ps room) M x s=Q at hF ef⊢
 obtain⟨M',x',s',r⟩:=Q
 dsimp only at hF ef⊢
 rw[show xsU (xsU xs 5 ⟨9,xF w x⟩) 5 ⟨9,xF w x'⟩=xsU xs 5 ⟨9,xF w x'⟩by funext i;unfold xsU;cases Nat.beq i 5<;>rfl]
 generalize hy:cl (aa ps room) (w:Int) x' s'=y at hF ef⊢
 refine Fun.mk' Tryz.func76 rfl rfl zN (by decide) ?_
 rcases ef with rfl|⟨n2,caps2,rfl,lt2⟩
 all_goals
  (repeat' (first|((with_reducible refine And.intro (cg (show jE _ _ _ _=true by kernel_rfl) ?hE ?hF ?hH) ?_);(case hE=>exact ux);(case hF=>exact zz8);(case hH=>exact zz8);(conv=>whnf))|((first|refine Wp.any ac rfl ?_|(with_reducible first|refine Go.mk ?_|apply ai.of|refine And.intro zC ?_));conv=>whnf)|(with_reducible refine Or.inl ?_)|((with_reducible refine IxA.ptr ?_);conv=>whnf)|((refine At.mk' (w+3) (by show 3+((w:Nat):Int).toNat*1=w+3;omega) ?_);(refine And.intro (by omega) ?_);(rw[hg2]);(conv=>whnf))|((refine ag.new (hF) [0,1,2,3,9,5,6,7,8,4,10,11,12,13] [] rfl rfl rfl rfl rfl rfl ?ha ?hh ?hs ?_);(case ha=>exact uw);(case hh=>exact uv);(case hs=>exact trivial);(conv=>whnf))|((refine And.intro (by first|exact .of rfl|exact aZ lt2 (fun l hl=>by rcases l with _|_|_|_|_|l<;>first|exact zN|omega) rfl) ?_);conv=>whnf)|((refine At.mk' (w+3) (by show 3+((w:Nat):Int).toNat*1=w+3;omega) ?_);(refine And.intro (by omega) ?_);conv=>whnf)))
 all_goals
  apply af.seal14
  case hH =>
   conv=>whnf
   refine And.intro ?c0 ?_
   case c0 =>
    conv=>whnf
    first
     | exact⟨⟨rfl,zzb rfl⟩,aw q5 (SV.ren_lt (fun l hl=>bH hl (by decide) (by decide)) lt2) (a9 lt2 (fun l hl=>by rcases l with _|_|_|_|_|l<;>first|exact⟨by decide,rfl⟩|rfl|omega)) (fun l hl=>bw hl) (fun l hl=>by rcases l with _|_|_|_|_|_|_|_|_|_|_|_|_|l<;>first|exact⟨by decide,rfl⟩|rfl|omega)⟩
     | exact⟨⟨rfl,zzb rfl⟩,aw q5 (.of rfl) rfl (fun l hl=>bw hl) (fun l hl=>by rcases l with _|_|_|_|_|_|_|_|_|_|_|_|_|l<;>first|exact⟨by decide,rfl⟩|rfl|omega)⟩
   conv=>whnf
   (repeat' (first|exact zK9|exact ax (qo _) rfl|((refine And.intro ?_ ?_)<;>(conv=>whnf))))
  case hx=>(conv=>whnf);(repeat' (first|exact zK9|((refine aj.agg ?_);(conv=>whnf))|((refine And.intro ?_ ?_)<;>(conv=>whnf))))
  case hd=>exact rfl
end Go.Proofs.YtlkccdlgnpkjpaaGreat
