/- Lemmas of Cd6b, Cd6c, Cd6d. No condition. -/
import Derived.Test.YtlkccdlgnpkjpaaGreatMO18
set_option linter.unusedVariables false
set_option linter.unusedSimpArgs false
set_option linter.unusedSectionVars false
set_option maxHeartbeats 80000000
set_option maxRecDepth 100000
namespace Go.Proofs.YtlkccdlgnpkjpaaGreat
open Go.RowKit
theorem core_S0{ps:List Pol}{room:Int}{S:Nat→Core.Wk}{M:Core.Mc}{xs:Nat→XB}{nl:Nat}{f:Nat→List D}{cnt:Int}(w:Nat)(hw:w<64)(hM:COK ps room w (gOf (aa ps room) 4 S) M xs nl cnt)(hn:(S w).s=.none)(hne:∀j,(S j).s≠.none→j≠w→aX j≠0)(hsl:aX w=0)
  (op pol:Int) (key:List Int) (n:Int) (hE:l7 ps op pol key n=0) (hkl:key.length≤16777216) (hk:op≠5→op≠6→Core.Kx ps (aJ op pol key n)) :
  Fun TC 46 14 [.ptr 0 0,.i .i64 w,jc op pol key n] (ao ps room (gOf (aa ps room) 4 S) M xs nl f cnt)
   24 (.i .i64 0) (gp ps room (Dir.upd S w ⟨aJ op pol key n,Core.first (aJ op pol key n)⟩) M (xsU xs 0 ⟨9,xF w (aJ op pol key n)⟩) nl f cnt):=by
 have q5:=hM.g;have qo:=hM.o
 have hC:=aV ps op pol key n
 rw[hE]at hC
 have hg2:av ps room (gOf (aa ps room) 4 S) (w+3)=eN:=by
  show SV.ren _ (cl _ _ _ (S w).s)=eN
  rw[hn];rfl
 have hF:=dw (nl:=nl) (f:=f) (cnt:=cnt) (x:=aJ op pol key n) (hM.g1 0 (by decide) S w) hk
 obtain⟨n2,caps2,e2,lt2⟩:=cd (aa ps room) w (aJ op pol key n)
 rw[e2]at hF
 have hB:=au key hkl
 refine Fun.mk' Tryz.func46 rfl rfl zN (by decide) ?_
 (repeat' (first|((with_reducible refine And.intro (ce (e:=26) (show jD _ _ _ _ _=true by kernel_rfl) ?hE ?hF ?hH) ?_);(case hE=>exact ut);(case hF=>exact zz9);(case hH=>exact zz9);(conv=>whnf))|((first|refine Wp.any ac rfl ?_|(with_reducible first|refine Go.mk ?_|apply ai.of|refine And.intro zC ?_));conv=>whnf)|(with_reducible refine Or.inl ?_)|((with_reducible first|refine IxA.ptr ?_|refine ab.pure (bG _) rfl rfl ?_|refine ab.pure (hC) rfl rfl ?_|refine ag.pure (ci _ _) rfl rfl ?_|refine ab.pure (hB) rfl rfl ?_);conv=>whnf)|((refine ag.fn (hF) [0,1,2,3,26,5,6,7,8,9,10,11,12,13] [] rfl rfl rfl rfl rfl ?ha ?hh ?hs ?_);(case ha=>exact ur);(case hh=>exact uq);(case hs=>exact trivial);(conv=>whnf))|((refine At.mk' (w+3) (by show 3+((w:Nat):Int).toNat*1=w+3;omega) ?_);(refine And.intro (by omega) ?_);(rw[hg2]);(conv=>whnf))|((refine And.intro (by exact di lt2 (fun l hl=>by rcases l with _|_|_|_|_|l<;>first|exact zN|omega) rfl) ?_);conv=>whnf)|((refine At.mk' (w+3) (by show 3+((w:Nat):Int).toNat*1=w+3;omega) ?_);(refine And.intro (by omega) ?_);conv=>whnf)|((with_reducible refine At.mk' _ rfl ?_);(refine And.intro zN ?_);conv=>whnf)|((refine aq (fun hc=>?_) (fun hc=>?_))<;>(try simp only[wz9]at hc)<;>(try (exfalso;omega))<;>(conv=>whnf))))
 refine af.sealC [0,1,2,3,4,5,6,7,8,9,10,11,12,13,26,5,6,7,8,9,10,11,12,13] [] rfl rfl rfl ?_ ?_
 ·conv=>whnf
  (repeat' (first|exact aj.d))
 ·conv=>whnf
  refine And.intro ?c0 ?_
  case c0 =>
   conv=>whnf
   exact⟨⟨rfl,zzb rfl⟩,dq hsl hn hne (by rw[e2];exact a9 lt2 (fun l hl=>by rcases l with _|_|_|_|_|l<;>first|rfl|omega)) (fun l hl=>by rcases l with _|_|_|_|l<;>first|exact⟨zzb rfl,rfl,rfl⟩|exact⟨zzb rfl,rfl⟩|omega) ⟨zzb rfl,rfl⟩ (fun k hk hne'=>by rcases k with _|_|_|_|_|_|_|_|_|k<;>first|exact⟨zzb rfl,rfl⟩|exact absurd rfl hne'|omega)⟩
  conv=>whnf
  (repeat' (first|exact zM9|exact ax (qo _) rfl|((refine And.intro ?_ ?_)<;>(conv=>whnf))))
theorem core_S1{ps:List Pol}{room:Int}{S:Nat→Core.Wk}{M:Core.Mc}{xs:Nat→XB}{nl:Nat}{f:Nat→List D}{cnt:Int}(w:Nat)(hw:w<64)(hM:COK ps room w (gOf (aa ps room) 4 S) M xs nl cnt)(hn:(S w).s=.none)(hne:∀j,(S j).s≠.none→j≠w→aX j≠1)(hsl:aX w=1)
  (op pol:Int) (key:List Int) (n:Int) (hE:l7 ps op pol key n=0) (hkl:key.length≤16777216) (hk:op≠5→op≠6→Core.Kx ps (aJ op pol key n)) :
  Fun TC 46 14 [.ptr 0 0,.i .i64 w,jc op pol key n] (ao ps room (gOf (aa ps room) 4 S) M xs nl f cnt)
   24 (.i .i64 0) (gp ps room (Dir.upd S w ⟨aJ op pol key n,Core.first (aJ op pol key n)⟩) M (xsU xs 1 ⟨9,xF w (aJ op pol key n)⟩) nl f cnt):=by
 have q5:=hM.g;have qo:=hM.o
 have hC:=aV ps op pol key n
 rw[hE]at hC
 have hg2:av ps room (gOf (aa ps room) 4 S) (w+3)=eN:=by
  show SV.ren _ (cl _ _ _ (S w).s)=eN
  rw[hn];rfl
 have hF:=dw (nl:=nl) (f:=f) (cnt:=cnt) (x:=aJ op pol key n) (hM.g1 1 (by decide) S w) hk
 obtain⟨n2,caps2,e2,lt2⟩:=cd (aa ps room) w (aJ op pol key n)
 rw[e2]at hF
 have hB:=au key hkl
 refine Fun.mk' Tryz.func46 rfl rfl zN (by decide) ?_
 (repeat' (first|((with_reducible refine And.intro (ce (e:=26) (show jD _ _ _ _ _=true by kernel_rfl) ?hE ?hF ?hH) ?_);(case hE=>exact ut);(case hF=>exact zz9);(case hH=>exact zz9);(conv=>whnf))|((first|refine Wp.any ac rfl ?_|(with_reducible first|refine Go.mk ?_|apply ai.of|refine And.intro zC ?_));conv=>whnf)|(with_reducible refine Or.inl ?_)|((with_reducible first|refine IxA.ptr ?_|refine ab.pure (bG _) rfl rfl ?_|refine ab.pure (hC) rfl rfl ?_|refine ag.pure (ci _ _) rfl rfl ?_|refine ab.pure (hB) rfl rfl ?_);conv=>whnf)|((refine ag.fn (hF) [0,1,2,3,26,4,6,7,8,9,10,11,12,13] [] rfl rfl rfl rfl rfl ?ha ?hh ?hs ?_);(case ha=>exact ur);(case hh=>exact uq);(case hs=>exact trivial);(conv=>whnf))|((refine At.mk' (w+3) (by show 3+((w:Nat):Int).toNat*1=w+3;omega) ?_);(refine And.intro (by omega) ?_);(rw[hg2]);(conv=>whnf))|((refine And.intro (by exact di lt2 (fun l hl=>by rcases l with _|_|_|_|_|l<;>first|exact zN|omega) rfl) ?_);conv=>whnf)|((refine At.mk' (w+3) (by show 3+((w:Nat):Int).toNat*1=w+3;omega) ?_);(refine And.intro (by omega) ?_);conv=>whnf)|((with_reducible refine At.mk' _ rfl ?_);(refine And.intro zN ?_);conv=>whnf)|((refine aq (fun hc=>?_) (fun hc=>?_))<;>(try simp only[wz9]at hc)<;>(try (exfalso;omega))<;>(conv=>whnf))))
 refine af.sealC [0,1,2,3,4,5,6,7,8,9,10,11,12,13,4,26,6,7,8,9,10,11,12,13] [] rfl rfl rfl ?_ ?_
 ·conv=>whnf
  (repeat' (first|exact aj.d))
 ·conv=>whnf
  refine And.intro ?c0 ?_
  case c0 =>
   conv=>whnf
   exact⟨⟨rfl,zzb rfl⟩,dq hsl hn hne (by rw[e2];exact a9 lt2 (fun l hl=>by rcases l with _|_|_|_|_|l<;>first|rfl|omega)) (fun l hl=>by rcases l with _|_|_|_|l<;>first|exact⟨zzb rfl,rfl,rfl⟩|exact⟨zzb rfl,rfl⟩|omega) ⟨zzb rfl,rfl⟩ (fun k hk hne'=>by rcases k with _|_|_|_|_|_|_|_|_|k<;>first|exact⟨zzb rfl,rfl⟩|exact absurd rfl hne'|omega)⟩
  conv=>whnf
  (repeat' (first|exact zM9|exact ax (qo _) rfl|((refine And.intro ?_ ?_)<;>(conv=>whnf))))
theorem core_S2{ps:List Pol}{room:Int}{S:Nat→Core.Wk}{M:Core.Mc}{xs:Nat→XB}{nl:Nat}{f:Nat→List D}{cnt:Int}(w:Nat)(hw:w<64)(hM:COK ps room w (gOf (aa ps room) 4 S) M xs nl cnt)(hn:(S w).s=.none)(hne:∀j,(S j).s≠.none→j≠w→aX j≠2)(hsl:aX w=2)
  (op pol:Int) (key:List Int) (n:Int) (hE:l7 ps op pol key n=0) (hkl:key.length≤16777216) (hk:op≠5→op≠6→Core.Kx ps (aJ op pol key n)) :
  Fun TC 46 14 [.ptr 0 0,.i .i64 w,jc op pol key n] (ao ps room (gOf (aa ps room) 4 S) M xs nl f cnt)
   24 (.i .i64 0) (gp ps room (Dir.upd S w ⟨aJ op pol key n,Core.first (aJ op pol key n)⟩) M (xsU xs 2 ⟨9,xF w (aJ op pol key n)⟩) nl f cnt):=by
 have q5:=hM.g;have qo:=hM.o
 have hC:=aV ps op pol key n
 rw[hE]at hC
 have hg2:av ps room (gOf (aa ps room) 4 S) (w+3)=eN:=by
  show SV.ren _ (cl _ _ _ (S w).s)=eN
  rw[hn];rfl
 have hF:=dw (nl:=nl) (f:=f) (cnt:=cnt) (x:=aJ op pol key n) (hM.g1 2 (by decide) S w) hk
 obtain⟨n2,caps2,e2,lt2⟩:=cd (aa ps room) w (aJ op pol key n)
 rw[e2]at hF
 have hB:=au key hkl
 refine Fun.mk' Tryz.func46 rfl rfl zN (by decide) ?_
 (repeat' (first|((with_reducible refine And.intro (ce (e:=26) (show jD _ _ _ _ _=true by kernel_rfl) ?hE ?hF ?hH) ?_);(case hE=>exact ut);(case hF=>exact zz9);(case hH=>exact zz9);(conv=>whnf))|((first|refine Wp.any ac rfl ?_|(with_reducible first|refine Go.mk ?_|apply ai.of|refine And.intro zC ?_));conv=>whnf)|(with_reducible refine Or.inl ?_)|((with_reducible first|refine IxA.ptr ?_|refine ab.pure (bG _) rfl rfl ?_|refine ab.pure (hC) rfl rfl ?_|refine ag.pure (ci _ _) rfl rfl ?_|refine ab.pure (hB) rfl rfl ?_);conv=>whnf)|((refine ag.fn (hF) [0,1,2,3,26,5,4,7,8,9,10,11,12,13] [] rfl rfl rfl rfl rfl ?ha ?hh ?hs ?_);(case ha=>exact ur);(case hh=>exact uq);(case hs=>exact trivial);(conv=>whnf))|((refine At.mk' (w+3) (by show 3+((w:Nat):Int).toNat*1=w+3;omega) ?_);(refine And.intro (by omega) ?_);(rw[hg2]);(conv=>whnf))|((refine And.intro (by exact di lt2 (fun l hl=>by rcases l with _|_|_|_|_|l<;>first|exact zN|omega) rfl) ?_);conv=>whnf)|((refine At.mk' (w+3) (by show 3+((w:Nat):Int).toNat*1=w+3;omega) ?_);(refine And.intro (by omega) ?_);conv=>whnf)|((with_reducible refine At.mk' _ rfl ?_);(refine And.intro zN ?_);conv=>whnf)|((refine aq (fun hc=>?_) (fun hc=>?_))<;>(try simp only[wz9]at hc)<;>(try (exfalso;omega))<;>(conv=>whnf))))
 refine af.sealC [0,1,2,3,4,5,6,7,8,9,10,11,12,13,4,5,26,7,8,9,10,11,12,13] [] rfl rfl rfl ?_ ?_
 ·conv=>whnf
  (repeat' (first|exact aj.d))
 ·conv=>whnf
  refine And.intro ?c0 ?_
  case c0 =>
   conv=>whnf
   exact⟨⟨rfl,zzb rfl⟩,dq hsl hn hne (by rw[e2];exact a9 lt2 (fun l hl=>by rcases l with _|_|_|_|_|l<;>first|rfl|omega)) (fun l hl=>by rcases l with _|_|_|_|l<;>first|exact⟨zzb rfl,rfl,rfl⟩|exact⟨zzb rfl,rfl⟩|omega) ⟨zzb rfl,rfl⟩ (fun k hk hne'=>by rcases k with _|_|_|_|_|_|_|_|_|k<;>first|exact⟨zzb rfl,rfl⟩|exact absurd rfl hne'|omega)⟩
  conv=>whnf
  (repeat' (first|exact zM9|exact ax (qo _) rfl|((refine And.intro ?_ ?_)<;>(conv=>whnf))))
theorem core_S3{ps:List Pol}{room:Int}{S:Nat→Core.Wk}{M:Core.Mc}{xs:Nat→XB}{nl:Nat}{f:Nat→List D}{cnt:Int}(w:Nat)(hw:w<64)(hM:COK ps room w (gOf (aa ps room) 4 S) M xs nl cnt)(hn:(S w).s=.none)(hne:∀j,(S j).s≠.none→j≠w→aX j≠3)(hsl:aX w=3)
  (op pol:Int) (key:List Int) (n:Int) (hE:l7 ps op pol key n=0) (hkl:key.length≤16777216) (hk:op≠5→op≠6→Core.Kx ps (aJ op pol key n)) :
  Fun TC 46 14 [.ptr 0 0,.i .i64 w,jc op pol key n] (ao ps room (gOf (aa ps room) 4 S) M xs nl f cnt)
   24 (.i .i64 0) (gp ps room (Dir.upd S w ⟨aJ op pol key n,Core.first (aJ op pol key n)⟩) M (xsU xs 3 ⟨9,xF w (aJ op pol key n)⟩) nl f cnt):=by
 have q5:=hM.g;have qo:=hM.o
 have hC:=aV ps op pol key n
 rw[hE]at hC
 have hg2:av ps room (gOf (aa ps room) 4 S) (w+3)=eN:=by
  show SV.ren _ (cl _ _ _ (S w).s)=eN
  rw[hn];rfl
 have hF:=dw (nl:=nl) (f:=f) (cnt:=cnt) (x:=aJ op pol key n) (hM.g1 3 (by decide) S w) hk
 obtain⟨n2,caps2,e2,lt2⟩:=cd (aa ps room) w (aJ op pol key n)
 rw[e2]at hF
 have hB:=au key hkl
 refine Fun.mk' Tryz.func46 rfl rfl zN (by decide) ?_
 (repeat' (first|((with_reducible refine And.intro (ce (e:=26) (show jD _ _ _ _ _=true by kernel_rfl) ?hE ?hF ?hH) ?_);(case hE=>exact ut);(case hF=>exact zz9);(case hH=>exact zz9);(conv=>whnf))|((first|refine Wp.any ac rfl ?_|(with_reducible first|refine Go.mk ?_|apply ai.of|refine And.intro zC ?_));conv=>whnf)|(with_reducible refine Or.inl ?_)|((with_reducible first|refine IxA.ptr ?_|refine ab.pure (bG _) rfl rfl ?_|refine ab.pure (hC) rfl rfl ?_|refine ag.pure (ci _ _) rfl rfl ?_|refine ab.pure (hB) rfl rfl ?_);conv=>whnf)|((refine ag.fn (hF) [0,1,2,3,26,5,6,4,8,9,10,11,12,13] [] rfl rfl rfl rfl rfl ?ha ?hh ?hs ?_);(case ha=>exact ur);(case hh=>exact uq);(case hs=>exact trivial);(conv=>whnf))|((refine At.mk' (w+3) (by show 3+((w:Nat):Int).toNat*1=w+3;omega) ?_);(refine And.intro (by omega) ?_);(rw[hg2]);(conv=>whnf))|((refine And.intro (by exact di lt2 (fun l hl=>by rcases l with _|_|_|_|_|l<;>first|exact zN|omega) rfl) ?_);conv=>whnf)|((refine At.mk' (w+3) (by show 3+((w:Nat):Int).toNat*1=w+3;omega) ?_);(refine And.intro (by omega) ?_);conv=>whnf)|((with_reducible refine At.mk' _ rfl ?_);(refine And.intro zN ?_);conv=>whnf)|((refine aq (fun hc=>?_) (fun hc=>?_))<;>(try simp only[wz9]at hc)<;>(try (exfalso;omega))<;>(conv=>whnf))))
 refine af.sealC [0,1,2,3,4,5,6,7,8,9,10,11,12,13,4,5,6,26,8,9,10,11,12,13] [] rfl rfl rfl ?_ ?_
 ·conv=>whnf
  (repeat' (first|exact aj.d))
 ·conv=>whnf
  refine And.intro ?c0 ?_
  case c0 =>
   conv=>whnf
   exact⟨⟨rfl,zzb rfl⟩,dq hsl hn hne (by rw[e2];exact a9 lt2 (fun l hl=>by rcases l with _|_|_|_|_|l<;>first|rfl|omega)) (fun l hl=>by rcases l with _|_|_|_|l<;>first|exact⟨zzb rfl,rfl,rfl⟩|exact⟨zzb rfl,rfl⟩|omega) ⟨zzb rfl,rfl⟩ (fun k hk hne'=>by rcases k with _|_|_|_|_|_|_|_|_|k<;>first|exact⟨zzb rfl,rfl⟩|exact absurd rfl hne'|omega)⟩
  conv=>whnf
  (repeat' (first|exact zM9|exact ax (qo _) rfl|((refine And.intro ?_ ?_)<;>(conv=>whnf))))
theorem core_S4{ps:List Pol}{room:Int}{S:Nat→Core.Wk}{M:Core.Mc}{xs:Nat→XB}{nl:Nat}{f:Nat→List D}{cnt:Int}(w:Nat)(hw:w<64)(hM:COK ps room w (gOf (aa ps room) 4 S) M xs nl cnt)(hn:(S w).s=.none)(hne:∀j,(S j).s≠.none→j≠w→aX j≠4)(hsl:aX w=4)
  (op pol:Int) (key:List Int) (n:Int) (hE:l7 ps op pol key n=0) (hkl:key.length≤16777216) (hk:op≠5→op≠6→Core.Kx ps (aJ op pol key n)) :
  Fun TC 46 14 [.ptr 0 0,.i .i64 w,jc op pol key n] (ao ps room (gOf (aa ps room) 4 S) M xs nl f cnt)
   24 (.i .i64 0) (gp ps room (Dir.upd S w ⟨aJ op pol key n,Core.first (aJ op pol key n)⟩) M (xsU xs 4 ⟨9,xF w (aJ op pol key n)⟩) nl f cnt):=by
 have q5:=hM.g;have qo:=hM.o
 have hC:=aV ps op pol key n
 rw[hE]at hC
 have hg2:av ps room (gOf (aa ps room) 4 S) (w+3)=eN:=by
  show SV.ren _ (cl _ _ _ (S w).s)=eN
  rw[hn];rfl
 have hF:=dw (nl:=nl) (f:=f) (cnt:=cnt) (x:=aJ op pol key n) (hM.g1 4 (by decide) S w) hk
 obtain⟨n2,caps2,e2,lt2⟩:=cd (aa ps room) w (aJ op pol key n)
 rw[e2]at hF
 have hB:=au key hkl
 refine Fun.mk' Tryz.func46 rfl rfl zN (by decide) ?_
 (repeat' (first|((with_reducible refine And.intro (ce (e:=26) (show jD _ _ _ _ _=true by kernel_rfl) ?hE ?hF ?hH) ?_);(case hE=>exact ut);(case hF=>exact zz9);(case hH=>exact zz9);(conv=>whnf))|((first|refine Wp.any ac rfl ?_|(with_reducible first|refine Go.mk ?_|apply ai.of|refine And.intro zC ?_));conv=>whnf)|(with_reducible refine Or.inl ?_)|((with_reducible first|refine IxA.ptr ?_|refine ab.pure (bG _) rfl rfl ?_|refine ab.pure (hC) rfl rfl ?_|refine ag.pure (ci _ _) rfl rfl ?_|refine ab.pure (hB) rfl rfl ?_);conv=>whnf)|((refine ag.fn (hF) [0,1,2,3,26,5,6,7,4,9,10,11,12,13] [] rfl rfl rfl rfl rfl ?ha ?hh ?hs ?_);(case ha=>exact ur);(case hh=>exact uq);(case hs=>exact trivial);(conv=>whnf))|((refine At.mk' (w+3) (by show 3+((w:Nat):Int).toNat*1=w+3;omega) ?_);(refine And.intro (by omega) ?_);(rw[hg2]);(conv=>whnf))|((refine And.intro (by exact di lt2 (fun l hl=>by rcases l with _|_|_|_|_|l<;>first|exact zN|omega) rfl) ?_);conv=>whnf)|((refine At.mk' (w+3) (by show 3+((w:Nat):Int).toNat*1=w+3;omega) ?_);(refine And.intro (by omega) ?_);conv=>whnf)|((with_reducible refine At.mk' _ rfl ?_);(refine And.intro zN ?_);conv=>whnf)|((refine aq (fun hc=>?_) (fun hc=>?_))<;>(try simp only[wz9]at hc)<;>(try (exfalso;omega))<;>(conv=>whnf))))
 refine af.sealC [0,1,2,3,4,5,6,7,8,9,10,11,12,13,4,5,6,7,26,9,10,11,12,13] [] rfl rfl rfl ?_ ?_
 ·conv=>whnf
  (repeat' (first|exact aj.d))
 ·conv=>whnf
  refine And.intro ?c0 ?_
  case c0 =>
   conv=>whnf
   exact⟨⟨rfl,zzb rfl⟩,dq hsl hn hne (by rw[e2];exact a9 lt2 (fun l hl=>by rcases l with _|_|_|_|_|l<;>first|rfl|omega)) (fun l hl=>by rcases l with _|_|_|_|l<;>first|exact⟨zzb rfl,rfl,rfl⟩|exact⟨zzb rfl,rfl⟩|omega) ⟨zzb rfl,rfl⟩ (fun k hk hne'=>by rcases k with _|_|_|_|_|_|_|_|_|k<;>first|exact⟨zzb rfl,rfl⟩|exact absurd rfl hne'|omega)⟩
  conv=>whnf
  (repeat' (first|exact zM9|exact ax (qo _) rfl|((refine And.intro ?_ ?_)<;>(conv=>whnf))))
theorem core_S5{ps:List Pol}{room:Int}{S:Nat→Core.Wk}{M:Core.Mc}{xs:Nat→XB}{nl:Nat}{f:Nat→List D}{cnt:Int}(w:Nat)(hw:w<64)(hM:COK ps room w (gOf (aa ps room) 4 S) M xs nl cnt)(hn:(S w).s=.none)(hne:∀j,(S j).s≠.none→j≠w→aX j≠5)(hsl:aX w=5)
  (op pol:Int) (key:List Int) (n:Int) (hE:l7 ps op pol key n=0) (hkl:key.length≤16777216) (hk:op≠5→op≠6→Core.Kx ps (aJ op pol key n)) :
  Fun TC 46 14 [.ptr 0 0,.i .i64 w,jc op pol key n] (ao ps room (gOf (aa ps room) 4 S) M xs nl f cnt)
   24 (.i .i64 0) (gp ps room (Dir.upd S w ⟨aJ op pol key n,Core.first (aJ op pol key n)⟩) M (xsU xs 5 ⟨9,xF w (aJ op pol key n)⟩) nl f cnt):=by
 have q5:=hM.g;have qo:=hM.o
 have hC:=aV ps op pol key n
 rw[hE]at hC
 have hg2:av ps room (gOf (aa ps room) 4 S) (w+3)=eN:=by
  show SV.ren _ (cl _ _ _ (S w).s)=eN
  rw[hn];rfl
 have hF:=dw (nl:=nl) (f:=f) (cnt:=cnt) (x:=aJ op pol key n) (hM.g1 5 (by decide) S w) hk
 obtain⟨n2,caps2,e2,lt2⟩:=cd (aa ps room) w (aJ op pol key n)
 rw[e2]at hF
 have hB:=au key hkl
 refine Fun.mk' Tryz.func46 rfl rfl zN (by decide) ?_
 (repeat' (first|((with_reducible refine And.intro (ce (e:=26) (show jD _ _ _ _ _=true by kernel_rfl) ?hE ?hF ?hH) ?_);(case hE=>exact ut);(case hF=>exact zz9);(case hH=>exact zz9);(conv=>whnf))|((first|refine Wp.any ac rfl ?_|(with_reducible first|refine Go.mk ?_|apply ai.of|refine And.intro zC ?_));conv=>whnf)|(with_reducible refine Or.inl ?_)|((with_reducible first|refine IxA.ptr ?_|refine ab.pure (bG _) rfl rfl ?_|refine ab.pure (hC) rfl rfl ?_|refine ag.pure (ci _ _) rfl rfl ?_|refine ab.pure (hB) rfl rfl ?_);conv=>whnf)|((refine ag.fn (hF) [0,1,2,3,26,5,6,7,8,4,10,11,12,13] [] rfl rfl rfl rfl rfl ?ha ?hh ?hs ?_);(case ha=>exact ur);(case hh=>exact uq);(case hs=>exact trivial);(conv=>whnf))|((refine At.mk' (w+3) (by show 3+((w:Nat):Int).toNat*1=w+3;omega) ?_);(refine And.intro (by omega) ?_);(rw[hg2]);(conv=>whnf))|((refine And.intro (by exact di lt2 (fun l hl=>by rcases l with _|_|_|_|_|l<;>first|exact zN|omega) rfl) ?_);conv=>whnf)|((refine At.mk' (w+3) (by show 3+((w:Nat):Int).toNat*1=w+3;omega) ?_);(refine And.intro (by omega) ?_);conv=>whnf)|((with_reducible refine At.mk' _ rfl ?_);(refine And.intro zN ?_);conv=>whnf)|((refine aq (fun hc=>?_) (fun hc=>?_))<;>(try simp only[wz9]at hc)<;>(try (exfalso;omega))<;>(conv=>whnf))))
 refine af.sealC [0,1,2,3,4,5,6,7,8,9,10,11,12,13,4,5,6,7,8,26,10,11,12,13] [] rfl rfl rfl ?_ ?_
 ·conv=>whnf
  (repeat' (first|exact aj.d))
 ·conv=>whnf
  refine And.intro ?c0 ?_
  case c0 =>
   conv=>whnf
   exact⟨⟨rfl,zzb rfl⟩,dq hsl hn hne (by rw[e2];exact a9 lt2 (fun l hl=>by rcases l with _|_|_|_|_|l<;>first|rfl|omega)) (fun l hl=>by rcases l with _|_|_|_|l<;>first|exact⟨zzb rfl,rfl,rfl⟩|exact⟨zzb rfl,rfl⟩|omega) ⟨zzb rfl,rfl⟩ (fun k hk hne'=>by rcases k with _|_|_|_|_|_|_|_|_|k<;>first|exact⟨zzb rfl,rfl⟩|exact absurd rfl hne'|omega)⟩
  conv=>whnf
  (repeat' (first|exact zM9|exact ax (qo _) rfl|((refine And.intro ?_ ?_)<;>(conv=>whnf))))
theorem core_S6{ps:List Pol}{room:Int}{S:Nat→Core.Wk}{M:Core.Mc}{xs:Nat→XB}{nl:Nat}{f:Nat→List D}{cnt:Int}(w:Nat)(hw:w<64)(hM:COK ps room w (gOf (aa ps room) 4 S) M xs nl cnt)(hn:(S w).s=.none)(hne:∀j,(S j).s≠.none→j≠w→aX j≠6)(hsl:aX w=6)
  (op pol:Int) (key:List Int) (n:Int) (hE:l7 ps op pol key n=0) (hkl:key.length≤16777216) (hk:op≠5→op≠6→Core.Kx ps (aJ op pol key n)) :
  Fun TC 46 14 [.ptr 0 0,.i .i64 w,jc op pol key n] (ao ps room (gOf (aa ps room) 4 S) M xs nl f cnt)
   24 (.i .i64 0) (gp ps room (Dir.upd S w ⟨aJ op pol key n,Core.first (aJ op pol key n)⟩) M (xsU xs 6 ⟨9,xF w (aJ op pol key n)⟩) nl f cnt):=by
 have q5:=hM.g;have qo:=hM.o
 have hC:=aV ps op pol key n
 rw[hE]at hC
 have hg2:av ps room (gOf (aa ps room) 4 S) (w+3)=eN:=by
  show SV.ren _ (cl _ _ _ (S w).s)=eN
  rw[hn];rfl
 have hF:=dw (nl:=nl) (f:=f) (cnt:=cnt) (x:=aJ op pol key n) (hM.g1 6 (by decide) S w) hk
 obtain⟨n2,caps2,e2,lt2⟩:=cd (aa ps room) w (aJ op pol key n)
 rw[e2]at hF
 have hB:=au key hkl
 refine Fun.mk' Tryz.func46 rfl rfl zN (by decide) ?_
 (repeat' (first|((with_reducible refine And.intro (ce (e:=26) (show jD _ _ _ _ _=true by kernel_rfl) ?hE ?hF ?hH) ?_);(case hE=>exact ut);(case hF=>exact zz9);(case hH=>exact zz9);(conv=>whnf))|((first|refine Wp.any ac rfl ?_|(with_reducible first|refine Go.mk ?_|apply ai.of|refine And.intro zC ?_));conv=>whnf)|(with_reducible refine Or.inl ?_)|((with_reducible first|refine IxA.ptr ?_|refine ab.pure (bG _) rfl rfl ?_|refine ab.pure (hC) rfl rfl ?_|refine ag.pure (ci _ _) rfl rfl ?_|refine ab.pure (hB) rfl rfl ?_);conv=>whnf)|((refine ag.fn (hF) [0,1,2,3,26,5,6,7,8,9,4,11,12,13] [] rfl rfl rfl rfl rfl ?ha ?hh ?hs ?_);(case ha=>exact ur);(case hh=>exact uq);(case hs=>exact trivial);(conv=>whnf))|((refine At.mk' (w+3) (by show 3+((w:Nat):Int).toNat*1=w+3;omega) ?_);(refine And.intro (by omega) ?_);(rw[hg2]);(conv=>whnf))|((refine And.intro (by exact di lt2 (fun l hl=>by rcases l with _|_|_|_|_|l<;>first|exact zN|omega) rfl) ?_);conv=>whnf)|((refine At.mk' (w+3) (by show 3+((w:Nat):Int).toNat*1=w+3;omega) ?_);(refine And.intro (by omega) ?_);conv=>whnf)|((with_reducible refine At.mk' _ rfl ?_);(refine And.intro zN ?_);conv=>whnf)|((refine aq (fun hc=>?_) (fun hc=>?_))<;>(try simp only[wz9]at hc)<;>(try (exfalso;omega))<;>(conv=>whnf))))
 refine af.sealC [0,1,2,3,4,5,6,7,8,9,10,11,12,13,4,5,6,7,8,9,26,11,12,13] [] rfl rfl rfl ?_ ?_
 ·conv=>whnf
  (repeat' (first|exact aj.d))
 ·conv=>whnf
  refine And.intro ?c0 ?_
  case c0 =>
   conv=>whnf
   exact⟨⟨rfl,zzb rfl⟩,dq hsl hn hne (by rw[e2];exact a9 lt2 (fun l hl=>by rcases l with _|_|_|_|_|l<;>first|rfl|omega)) (fun l hl=>by rcases l with _|_|_|_|l<;>first|exact⟨zzb rfl,rfl,rfl⟩|exact⟨zzb rfl,rfl⟩|omega) ⟨zzb rfl,rfl⟩ (fun k hk hne'=>by rcases k with _|_|_|_|_|_|_|_|_|k<;>first|exact⟨zzb rfl,rfl⟩|exact absurd rfl hne'|omega)⟩
  conv=>whnf
  (repeat' (first|exact zM9|exact ax (qo _) rfl|((refine And.intro ?_ ?_)<;>(conv=>whnf))))
theorem core_S7{ps:List Pol}{room:Int}{S:Nat→Core.Wk}{M:Core.Mc}{xs:Nat→XB}{nl:Nat}{f:Nat→List D}{cnt:Int}(w:Nat)(hw:w<64)(hM:COK ps room w (gOf (aa ps room) 4 S) M xs nl cnt)(hn:(S w).s=.none)(hne:∀j,(S j).s≠.none→j≠w→aX j≠7)(hsl:aX w=7)
  (op pol:Int) (key:List Int) (n:Int) (hE:l7 ps op pol key n=0) (hkl:key.length≤16777216) (hk:op≠5→op≠6→Core.Kx ps (aJ op pol key n)) :
  Fun TC 46 14 [.ptr 0 0,.i .i64 w,jc op pol key n] (ao ps room (gOf (aa ps room) 4 S) M xs nl f cnt)
   24 (.i .i64 0) (gp ps room (Dir.upd S w ⟨aJ op pol key n,Core.first (aJ op pol key n)⟩) M (xsU xs 7 ⟨9,xF w (aJ op pol key n)⟩) nl f cnt):=by
 have q5:=hM.g;have qo:=hM.o
 have hC:=aV ps op pol key n
 rw[hE]at hC
 have hg2:av ps room (gOf (aa ps room) 4 S) (w+3)=eN:=by
  show SV.ren _ (cl _ _ _ (S w).s)=eN
  rw[hn];rfl
 have hF:=dw (nl:=nl) (f:=f) (cnt:=cnt) (x:=aJ op pol key n) (hM.g1 7 (by decide) S w) hk
 obtain⟨n2,caps2,e2,lt2⟩:=cd (aa ps room) w (aJ op pol key n)
 rw[e2]at hF
 have hB:=au key hkl
 refine Fun.mk' Tryz.func46 rfl rfl zN (by decide) ?_
 (repeat' (first|((with_reducible refine And.intro (ce (e:=26) (show jD _ _ _ _ _=true by kernel_rfl) ?hE ?hF ?hH) ?_);(case hE=>exact ut);(case hF=>exact zz9);(case hH=>exact zz9);(conv=>whnf))|((first|refine Wp.any ac rfl ?_|(with_reducible first|refine Go.mk ?_|apply ai.of|refine And.intro zC ?_));conv=>whnf)|(with_reducible refine Or.inl ?_)|((with_reducible first|refine IxA.ptr ?_|refine ab.pure (bG _) rfl rfl ?_|refine ab.pure (hC) rfl rfl ?_|refine ag.pure (ci _ _) rfl rfl ?_|refine ab.pure (hB) rfl rfl ?_);conv=>whnf)|((refine ag.fn (hF) [0,1,2,3,26,5,6,7,8,9,10,4,12,13] [] rfl rfl rfl rfl rfl ?ha ?hh ?hs ?_);(case ha=>exact ur);(case hh=>exact uq);(case hs=>exact trivial);(conv=>whnf))|((refine At.mk' (w+3) (by show 3+((w:Nat):Int).toNat*1=w+3;omega) ?_);(refine And.intro (by omega) ?_);(rw[hg2]);(conv=>whnf))|((refine And.intro (by exact di lt2 (fun l hl=>by rcases l with _|_|_|_|_|l<;>first|exact zN|omega) rfl) ?_);conv=>whnf)|((refine At.mk' (w+3) (by show 3+((w:Nat):Int).toNat*1=w+3;omega) ?_);(refine And.intro (by omega) ?_);conv=>whnf)|((with_reducible refine At.mk' _ rfl ?_);(refine And.intro zN ?_);conv=>whnf)|((refine aq (fun hc=>?_) (fun hc=>?_))<;>(try simp only[wz9]at hc)<;>(try (exfalso;omega))<;>(conv=>whnf))))
 refine af.sealC [0,1,2,3,4,5,6,7,8,9,10,11,12,13,4,5,6,7,8,9,10,26,12,13] [] rfl rfl rfl ?_ ?_
 ·conv=>whnf
  (repeat' (first|exact aj.d))
 ·conv=>whnf
  refine And.intro ?c0 ?_
  case c0 =>
   conv=>whnf
   exact⟨⟨rfl,zzb rfl⟩,dq hsl hn hne (by rw[e2];exact a9 lt2 (fun l hl=>by rcases l with _|_|_|_|_|l<;>first|rfl|omega)) (fun l hl=>by rcases l with _|_|_|_|l<;>first|exact⟨zzb rfl,rfl,rfl⟩|exact⟨zzb rfl,rfl⟩|omega) ⟨zzb rfl,rfl⟩ (fun k hk hne'=>by rcases k with _|_|_|_|_|_|_|_|_|k<;>first|exact⟨zzb rfl,rfl⟩|exact absurd rfl hne'|omega)⟩
  conv=>whnf
  (repeat' (first|exact zM9|exact ax (qo _) rfl|((refine And.intro ?_ ?_)<;>(conv=>whnf))))
theorem core_S8{ps:List Pol}{room:Int}{S:Nat→Core.Wk}{M:Core.Mc}{xs:Nat→XB}{nl:Nat}{f:Nat→List D}{cnt:Int}(w:Nat)(hw:w<64)(hM:COK ps room w (gOf (aa ps room) 4 S) M xs nl cnt)(hn:(S w).s=.none)(hne:∀j,(S j).s≠.none→j≠w→aX j≠8)(hsl:aX w=8)
  (op pol:Int) (key:List Int) (n:Int) (hE:l7 ps op pol key n=0) (hkl:key.length≤16777216) (hk:op≠5→op≠6→Core.Kx ps (aJ op pol key n)) :
  Fun TC 46 14 [.ptr 0 0,.i .i64 w,jc op pol key n] (ao ps room (gOf (aa ps room) 4 S) M xs nl f cnt)
   24 (.i .i64 0) (gp ps room (Dir.upd S w ⟨aJ op pol key n,Core.first (aJ op pol key n)⟩) M (xsU xs 8 ⟨9,xF w (aJ op pol key n)⟩) nl f cnt):=by
 have q5:=hM.g;have qo:=hM.o
 have hC:=aV ps op pol key n
 rw[hE]at hC
 have hg2:av ps room (gOf (aa ps room) 4 S) (w+3)=eN:=by
  show SV.ren _ (cl _ _ _ (S w).s)=eN
  rw[hn];rfl
 have hF:=dw (nl:=nl) (f:=f) (cnt:=cnt) (x:=aJ op pol key n) (hM.g1 8 (by decide) S w) hk
 obtain⟨n2,caps2,e2,lt2⟩:=cd (aa ps room) w (aJ op pol key n)
 rw[e2]at hF
 have hB:=au key hkl
 refine Fun.mk' Tryz.func46 rfl rfl zN (by decide) ?_
 (repeat' (first|((with_reducible refine And.intro (ce (e:=26) (show jD _ _ _ _ _=true by kernel_rfl) ?hE ?hF ?hH) ?_);(case hE=>exact ut);(case hF=>exact zz9);(case hH=>exact zz9);(conv=>whnf))|((first|refine Wp.any ac rfl ?_|(with_reducible first|refine Go.mk ?_|apply ai.of|refine And.intro zC ?_));conv=>whnf)|(with_reducible refine Or.inl ?_)|((with_reducible first|refine IxA.ptr ?_|refine ab.pure (bG _) rfl rfl ?_|refine ab.pure (hC) rfl rfl ?_|refine ag.pure (ci _ _) rfl rfl ?_|refine ab.pure (hB) rfl rfl ?_);conv=>whnf)|((refine ag.fn (hF) [0,1,2,3,26,5,6,7,8,9,10,11,4,13] [] rfl rfl rfl rfl rfl ?ha ?hh ?hs ?_);(case ha=>exact ur);(case hh=>exact uq);(case hs=>exact trivial);(conv=>whnf))|((refine At.mk' (w+3) (by show 3+((w:Nat):Int).toNat*1=w+3;omega) ?_);(refine And.intro (by omega) ?_);(rw[hg2]);(conv=>whnf))|((refine And.intro (by exact di lt2 (fun l hl=>by rcases l with _|_|_|_|_|l<;>first|exact zN|omega) rfl) ?_);conv=>whnf)|((refine At.mk' (w+3) (by show 3+((w:Nat):Int).toNat*1=w+3;omega) ?_);(refine And.intro (by omega) ?_);conv=>whnf)|((with_reducible refine At.mk' _ rfl ?_);(refine And.intro zN ?_);conv=>whnf)|((refine aq (fun hc=>?_) (fun hc=>?_))<;>(try simp only[wz9]at hc)<;>(try (exfalso;omega))<;>(conv=>whnf))))
 refine af.sealC [0,1,2,3,4,5,6,7,8,9,10,11,12,13,4,5,6,7,8,9,10,11,26,13] [] rfl rfl rfl ?_ ?_
 ·conv=>whnf
  (repeat' (first|exact aj.d))
 ·conv=>whnf
  refine And.intro ?c0 ?_
  case c0 =>
   conv=>whnf
   exact⟨⟨rfl,zzb rfl⟩,dq hsl hn hne (by rw[e2];exact a9 lt2 (fun l hl=>by rcases l with _|_|_|_|_|l<;>first|rfl|omega)) (fun l hl=>by rcases l with _|_|_|_|l<;>first|exact⟨zzb rfl,rfl,rfl⟩|exact⟨zzb rfl,rfl⟩|omega) ⟨zzb rfl,rfl⟩ (fun k hk hne'=>by rcases k with _|_|_|_|_|_|_|_|_|k<;>first|exact⟨zzb rfl,rfl⟩|exact absurd rfl hne'|omega)⟩
  conv=>whnf
  (repeat' (first|exact zM9|exact ax (qo _) rfl|((refine And.intro ?_ ?_)<;>(conv=>whnf))))
theorem qJ{ps:List Pol}{room:Int}{S:Nat→Core.Wk}{M:Core.Mc}{xs:Nat→XB}{nl:Nat}{f:Nat→List D}{cnt:Int}(w:Nat)(hw:w<64)(hM:COK ps room w (gOf (aa ps room) 4 S) M xs nl cnt)(hn:(S w).s=.none)(hne:∀j,(S j).s≠.none→j≠w→aX j≠aX w)
  (op pol:Int) (key:List Int) (n:Int) (hE:l7 ps op pol key n=0) (hkl:key.length≤16777216) (hk:op≠5→op≠6→Core.Kx ps (aJ op pol key n)) :
  Fun TC 46 14 [.ptr 0 0,.i .i64 w,jc op pol key n] (ao ps room (gOf (aa ps room) 4 S) M xs nl f cnt)
   24 (.i .i64 0) (gp ps room (Dir.upd S w ⟨aJ op pol key n,Core.first (aJ op pol key n)⟩) M (xsU xs (aX w) ⟨9,xF w (aJ op pol key n)⟩) nl f cnt):=by
 obtain⟨q,hq⟩:∃q,q=aX w:=⟨_,rfl⟩
 have hq9:q<9:=by rw[hq];exact eL w
 rw[← hq]at hne⊢
 rcases q with _|_|_|_|_|_|_|_|_|q
 ·exact core_S0 w hw hM hn hne hq.symm op pol key n hE hkl hk
 ·exact core_S1 w hw hM hn hne hq.symm op pol key n hE hkl hk
 ·exact core_S2 w hw hM hn hne hq.symm op pol key n hE hkl hk
 ·exact core_S3 w hw hM hn hne hq.symm op pol key n hE hkl hk
 ·exact core_S4 w hw hM hn hne hq.symm op pol key n hE hkl hk
 ·exact core_S5 w hw hM hn hne hq.symm op pol key n hE hkl hk
 ·exact core_S6 w hw hM hn hne hq.symm op pol key n hE hkl hk
 ·exact core_S7 w hw hM hn hne hq.symm op pol key n hE hkl hk
 ·exact core_S8 w hw hM hn hne hq.symm op pol key n hE hkl hk
 ·omega
end Go.Proofs.YtlkccdlgnpkjpaaGreat
