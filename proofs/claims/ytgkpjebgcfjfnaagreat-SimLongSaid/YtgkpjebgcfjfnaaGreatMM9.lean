/- Lemmas of Dr3, Cc2, Cc3, Cc4, Cc5. No condition. -/
import Derived.Test.YtgkpjebgcfjfnaaGreatMM8
set_option linter.unusedVariables false
set_option linter.unusedSimpArgs false
set_option linter.unusedSectionVars false
set_option maxHeartbeats 80000000
set_option maxRecDepth 100000
namespace Go.Proofs.YtgkpjebgcfjfnaaGreat
open Go.RowKit
def ce(lw ll nw nl:Nat)(clk cnt:Int):Blk:=.cells [.sl lw 1 0 nw,.i .i64 clk,.i .i64 cnt,.sl ll 6 0 nl]
def b9(nw:Nat)(W:Nat→Int):Blk:=.row 75 1 nw fun i=>bc .u64 (W i)
def bA(nl:Nat)(f:Nat→List D):Blk:=.row 168 6 nl f
def bO(who kind word old new:Int)(done:Bool):List D:=[.val (.int .i64 who),.val (.int .u8 kind),.val (.int .i64 word),.val (.int .u64 old),.val (.int .u64 new),.val (.bool done)]
def aC(nl:Nat):Nat:=if nl+1≤128 then nl+1 else 64
def bC(nl:Nat)(f:Nat→List D)(a:List D):Nat→List D:=if nl+1≤128 then bB nl f fun _=>a else fun i=>bB nl f (fun _=>a) (nl+1-64+i)
theorem wh{nl:Nat}(h:nl≤128):aC nl≤128:=by unfold aC;split<;>omega
theorem sJ(n o m:Nat)(f:Nat→List D)(hn:n≤1000)(ho:o+m≤n)(hm:0<m):Fun TC 110 1 [.sl 0 6 o m] [(0,some (bA n f))] 2 (.sl 1 6 0 m) [(0,some (bA n f)),(1,some (bA m fun i=>f (o+i)))]:=by
 refine Fun.mk' Tryz.func110 rfl rfl zN (by decide) ?_
 (repeat' (first|((first|refine Wp.any ac rfl ?_|(with_reducible first|refine Go.mk ?_|apply aj.of|refine And.intro zC ?_));conv=>whnf)|((with_reducible refine And.intro ?hb ?_);(case hb=>exact zz9);(conv=>whnf))|((with_reducible refine nil_no (by omega) ?_);(conv=>whnf))))
 all_goals try exact absurd trivial hc
 refine af.of [0,2] rfl (fun i hi=>by have:i=0:=(by omega);subst this;rfl) rfl ?_ ?_
 ·exact .of_eq (congrArg (SV.sl _ _ _) (Q19 _))
 ·refine⟨⟨⟨rfl,rfl,rfl⟩,fun i hi=>rfl⟩,⟨⟨rfl,rfl,Q19 _⟩,fun i hi=>?_⟩,trivial⟩
  simp[bB]
theorem eD(nw nl:Nat)(W:Nat→Int)(f:Nat→List D)(clk cnt who kind word old new:Int)(done:Bool)(hl:nl≤128)(hc0:0≤cnt)(hc1:cnt≤4611686018427387903) :
  Fun TC 77 3 [.ptr 0 0,.agg [.i .i64 who,.i .u8 kind,.i .i64 word,.i .u64 old,.i .u64 new,.b done]] [(0,some (ce 1 2 nw nl clk cnt)),(1,some (b9 nw W)),(2,some (bA nl f))]
   4 (.tup []) [(0,some (ce 1 3 nw (aC nl) clk (cnt+1))),(1,some (b9 nw W)),(2,none),(3,some (bA (aC nl) (bC nl f (bO who kind word old new done))))]:=by
 refine Fun.mk' Tryz.func77 rfl rfl zN (by decide) ?_
 (repeat' (first|((first|refine Wp.any ac rfl ?_|(with_reducible first|refine Go.mk ?_|apply aj.of));conv=>whnf)|with_reducible exact rfl|((first|with_reducible refine Ov.ok zO ?_|refine zV ?_|with_reducible refine And.intro zC ?_);conv=>whnf)|((refine mp.b rfl rfl rfl rfl rfl rfl rfl rfl ?hb ?ho ?_);(case hb=>exact zB);(case ho=>omega);(conv=>whnf))|(with_reducible refine Or.inl ?_)|((refine ag.new (sJ (nl+1) (0+(((nl+1:Nat):Int)-64).toNat) (nl+1-(((nl+1:Nat):Int)-64).toNat) (bB nl f fun i=>bf (bO who kind word old new done) 6 (0+i)) (by omega) (by omega) (by omega)) [11] [11] rfl rfl rfl rfl rfl rfl ?ha ?hh ?hs ?_);(case ha=>exact zA);(case hh=>exact zH);(case hs=>exact zK);(conv=>whnf))|((refine ap (fun hc=>?_) (fun hc=>?_))<;>(try simp only[wz9]at hc)<;>(try (exfalso;omega))<;>(conv=>whnf))))
 ·have hN:aC nl=nl+1-(((nl+1:Nat):Int)-64).toNat:=by unfold aC;rw[if_neg (by omega)];omega
  rw[hN]
  refine af.sealB [0,1,2,27] rfl rfl rfl (ai.tup trivial) ?_
  conv=>whnf
  (repeat' (first|exact zE|((refine And.intro ?_ ?_)<;>(conv=>whnf))))
  intro i hi
  refine fL.of ?_
  unfold bC
  rw[if_neg (by omega)]
  show bB nl f _ (0+(((nl+1:Nat):Int)-64).toNat+i)=bB nl f _ (nl+1-64+i)
  rw[show 0+(((nl+1:Nat):Int)-64).toNat+i=nl+1-64+i by omega]
  unfold bB
  by_cases h:nl+1-64+i<nl
  ·rw[if_pos h,if_pos h]
  ·rw[if_neg h,if_neg h,show nl+1-64+i-nl=0 by omega];rfl
 ·have hN:aC nl=nl+1:=by unfold aC;rw[if_pos (by omega)]
  rw[hN]
  refine af.sealB [0,1,2,11] rfl rfl rfl (ai.tup trivial) ?_
  conv=>whnf
  (repeat' (first|exact zE|((refine And.intro ?_ ?_)<;>(conv=>whnf))))
  intro i hi
  refine fL.of ?_
  unfold bC
  rw[if_pos (by omega)]
  unfold bB
  by_cases h:i<nl
  ·rw[if_pos h,if_pos h]
  ·rw[if_neg h,if_neg h,show i-nl=0 by omega];rfl
theorem ite_row{i q:Nat}{k:IntKind}{x y:Int}:(if i=q then[D.val (.int k x)]else bc k y)=bc k (if i=q then x else y):=by split<;>rfl
theorem wat(w:Nat):0+((w:Nat):Int).toNat=w:=by omega
theorem rb(nw nl:Nat)(W:Nat→Int)(f:Nat→List D)(clk cnt who:Int)(word:Nat)(hl:nl≤128)(hc0:0≤cnt)(hc1:cnt≤4611686018427387903)(hw0:0≤who)(hw1:who<64)(hw:word<nw) :
  Fun TC 111 3 [.ptr 0 0,.i .i64 who,.i .i64 word] [(0,some (ce 1 2 nw nl clk cnt)),(1,some (b9 nw W)),(2,some (bA nl f))]
   4 (.tup [.i .u64 (W word),.i .i64 0]) [(0,some (ce 1 3 nw (aC nl) clk (cnt+1))),(1,some (b9 nw W)),(2,none),(3,some (bA (aC nl) (bC nl f (bO who 1 word (W word) 0 true))))]:=by
 refine Fun.mk' Tryz.func111 rfl rfl zN (by decide) ?_
 (repeat' (first|((first|refine Wp.any ac rfl ?_|(with_reducible first|refine Go.mk ?_|apply aj.of|refine And.intro zC ?_));conv=>whnf)|(with_reducible refine ab.inline Tryz.func76 rfl rfl rfl (zzb rfl) ?_)|((with_reducible refine ab.pure (cP _ _ _) rfl rfl ?_);conv=>whnf)|((refine ab.fn (eD nw nl W f clk cnt who 1 word (W (0+((word:Nat):Int).toNat)) 0 true hl hc0 hc1) [0,1,2] rfl rfl rfl rfl rfl ?ha ?hh ?_);(case ha=>exact zA);(case hh=>exact zH);(conv=>whnf))|((refine ap (fun hc=>?_) (fun hc=>?_))<;>(try simp only[wz9]at hc)<;>(try (exfalso;omega))<;>(conv=>whnf))))
 simp only[wat]
 (refine af.sealB [0,1,2,3] rfl rfl rfl ?_ ?_);(focus((conv=>whnf);(repeat' (first|exact zE))));(focus((conv=>whnf);(repeat' (first|exact zE|((refine And.intro ?_ ?_)<;>(conv=>whnf))))))
theorem q9(nw nl:Nat)(W:Nat→Int)(f:Nat→List D)(clk cnt who old new:Int)(word:Nat)(hl:nl≤128)(hc0:0≤cnt)(hc1:cnt≤4611686018427387903)(hw0:0≤who)(hw1:who<64)(hw:word<nw) :
  Fun TC 53 3 [.ptr 0 0,.i .i64 who,.i .i64 word,.i .u64 old,.i .u64 new] [(0,some (ce 1 2 nw nl clk cnt)),(1,some (b9 nw W)),(2,some (bA nl f))]
   4 (.tup [.b (decide (W word=old)),.i .i64 0]) [(0,some (ce 1 3 nw (aC nl) clk (cnt+1))),(1,some (b9 nw (if W word=old then Dir.upd W word new else W))),(2,none),(3,some (bA (aC nl) (bC nl f (bO who 2 word old new (decide (W word=old))))))]:=by
 refine Fun.mk' Tryz.func53 rfl rfl zN (by decide) ?_
 (repeat' (first|((first|refine Wp.any ac rfl ?_|(with_reducible first|refine Go.mk ?_|apply aj.of|refine And.intro zC ?_));conv=>whnf)|(with_reducible refine ab.inline Tryz.func76 rfl rfl rfl (zzb rfl) ?_)|((with_reducible refine ab.pure (cP _ _ _) rfl rfl ?_);conv=>whnf)|((refine ab.fn (eD nw nl (fun j=>if j=0+((word:Nat):Int).toNat then new else W j) f clk cnt who 2 word old new (W (0+((word:Nat):Int).toNat)==old) hl hc0 hc1) [0,1,2] rfl rfl rfl rfl rfl ?ha ?hh ?_);(case ha=>exact zA);(case hh=>exact zz24);(conv=>whnf))|((refine ab.fn (eD nw nl W f clk cnt who 2 word old new (W (0+((word:Nat):Int).toNat)==old) hl hc0 hc1) [0,1,2] rfl rfl rfl rfl rfl ?ha ?hh ?_);(case ha=>exact zA);(case hh=>exact zz24);(conv=>whnf))|((refine ap (fun hc=>?_) (fun hc=>?_))<;>(try simp only[wz9]at hc)<;>(try (exfalso;omega))<;>(conv=>whnf))))
 all_goals simp only[wat]at hc⊢
 all_goals rw[show(W word==old)=decide (W word=old)from rfl]
 ·rw[if_pos hc]
  (refine af.sealB [0,1,2,3] rfl rfl rfl ?_ ?_);(focus((conv=>whnf);(repeat' (first|exact zE))));(focus((conv=>whnf);(repeat' (first|exact zE|((refine And.intro ?_ ?_)<;>(conv=>whnf))))))
 ·rw[if_neg hc]
  (refine af.sealB [0,1,2,3] rfl rfl rfl ?_ ?_);(focus((conv=>whnf);(repeat' (first|exact zE))));(focus((conv=>whnf);(repeat' (first|exact zE|((refine And.intro ?_ ?_)<;>(conv=>whnf))))))
theorem o8(nw nl:Nat)(W:Nat→Int)(f:Nat→List D)(clk cnt who:Int)(hl:nl≤128)(hc0:0≤cnt)(hc1:cnt≤4611686018427387903)(hw0:0≤who)(hw1:who<64) :
  Fun TC 123 3 [.ptr 0 0,.i .i64 who] [(0,some (ce 1 2 nw nl clk cnt)),(1,some (b9 nw W)),(2,some (bA nl f))]
   4 (.tup [.i .i64 clk,.i .i64 0]) [(0,some (ce 1 3 nw (aC nl) clk (cnt+1))),(1,some (b9 nw W)),(2,none),(3,some (bA (aC nl) (bC nl f (bO who 3 0 (IntKind.u64.wrap clk) 0 true))))]:=by
 refine Fun.mk' Tryz.func123 rfl rfl zN (by decide) ?_
 (repeat' (first|((first|refine Wp.any ac rfl ?_|(with_reducible first|refine Go.mk ?_|apply aj.of|refine ab.pure (cP _ _ _) rfl rfl ?_));conv=>whnf)|((refine ab.fn (eD nw nl W f clk cnt who 3 0 (IntKind.u64.wrap clk) 0 true hl hc0 hc1) [0,1,2] rfl rfl rfl rfl rfl ?ha ?hh ?_);(case ha=>exact zA);(case hh=>exact zH);(conv=>whnf))|((with_reducible refine Ov.mk ?_);conv=>whnf)|((refine ap (fun hc=>?_) (fun hc=>?_))<;>(try simp only[wz9]at hc)<;>(try (exfalso;omega))<;>(conv=>whnf))))
 (refine af.sealB [0,1,2,3] rfl rfl rfl ?_ ?_);(focus((conv=>whnf);(repeat' (first|exact zE))));(focus((conv=>whnf);(repeat' (first|exact zE|((refine And.intro ?_ ?_)<;>(conv=>whnf))))))
theorem te(a b:Int)(ha:0≤a)(hb:0≤b)(ha1:a≤4611686018427387903)(hb1:b≤4611686018427387903):Pure TC 41 [.i .i64 a,.i .i64 b] (.tup [.i .i64 (min (a+b) 4611686018427387903),.i .i64 0]):=by
 have hE:k8 a b=0:=by unfold k8 dk;simp[ha,hb,ha1,hb1]
 refine Pure.mk' Tryz.func41 rfl rfl zN ?_
 have hB:=li a b
 rw[hE]at hB
 (repeat' (first|((first|refine Wp.any ac rfl ?_|(with_reducible first|refine Go.mk ?_|apply aj.of|refine Ov.ok zO ?_|refine ab.pure (hB) rfl rfl ?_|refine ab.pure (iX _) rfl rfl ?_));conv=>whnf)))
 exact .tup (.cons (.i (by unfold mc;omega)) (.cons (.rfl _) .nil))
theorem qZ(nw nl:Nat)(W:Nat→Int)(f:Nat→List D)(clk cnt n:Int)(h0:0≤clk)(h1:clk≤4611686018427387903)(hn:0≤n)(hn1:n≤4611686018427387903) :
  Fun TC 23 3 [.ptr 0 0,.i .i64 n] [(0,some (ce 1 2 nw nl clk cnt)),(1,some (b9 nw W)),(2,some (bA nl f))]
   3 (.tup [.i .i64 (min (clk+n) 4611686018427387903),.i .i64 0]) [(0,some (ce 1 2 nw nl (min (clk+n) 4611686018427387903) cnt)),(1,some (b9 nw W)),(2,some (bA nl f))]:=by
 have hT:=cD n
 rw[show dk n=true by simp[dk];omega]at hT
 refine Fun.mk' Tryz.func23 rfl rfl zN (by decide) ?_
 (repeat' (first|((first|refine Wp.any ac rfl ?_|(with_reducible first|refine Go.mk ?_|apply aj.of|refine ab.pure (hT) rfl rfl ?_|refine ab.pure (te clk n h0 hn h1 hn1) rfl rfl ?_));conv=>whnf)))
 (refine af.sealB [0,1,2] rfl rfl rfl ?_ ?_);(focus((conv=>whnf);(repeat' (first|exact zE))));(focus((conv=>whnf);(repeat' (first|exact zE|((refine And.intro ?_ ?_)<;>(conv=>whnf))))))
def iF(m h:Nat):SV:=.iref [.ptr m 0,.sl h 1 0 34] 0
def f5(Hd:Nat→List Cel):Blk:=.row 36 1 34 fun i=>[ao 4 Cel.D (Hd i)]
theorem ww{i q:Nat}{x:List Cel}{Hd:Nat→List Cel}:(if i=q then[ao 4 Cel.D x]else[ao 4 Cel.D (Hd i)])=[ao 4 Cel.D (Dir.upd Hd q x i)]:=by unfold Dir.upd;split<;>rfl
theorem aE(nl:Nat)(W:Nat→Int)(Hd:Nat→List Cel)(f:Nat→List D)(clk cnt who:Int)(word:Nat)(hl:nl≤128)(hc0:0≤cnt)(hc1:cnt≤4611686018427387903)(hw0:0≤who)(hw1:who<64)(hw:word<34) :
  Fun TC 80 4 [iF 0 2,.i .i64 who,.i .i64 word] [(0,some (ce 1 3 34 nl clk cnt)),(1,some (b9 34 W)),(2,some (f5 Hd)),(3,some (bA nl f))]
   5 (.tup [.i .u64 (W word),.d (ao 4 Cel.D (Hd word))]) [(0,some (ce 1 4 34 (aC nl) clk (cnt+1))),(1,some (b9 34 W)),(2,some (f5 Hd)),(3,none),(4,some (bA (aC nl) (bC nl f (bO who 1 word (W word) 0 true))))]:=by
 refine Fun.mk' Tryz.func80 rfl rfl zN (by decide) ?_
 (repeat' (first|((first|refine Wp.any ac rfl ?_|(with_reducible first|refine Go.mk ?_|apply aj.of)|refine zV ?_|with_reducible refine And.intro zC ?_);conv=>whnf)|((refine ab.fn (rb 34 nl W f clk cnt who word hl hc0 hc1 hw0 hw1 hw) [0,1,3] rfl rfl rfl rfl rfl ?ha ?hh ?_);(case ha=>exact zA);(case hh=>exact zH);(conv=>whnf))))
 simp only[wat]
 (refine af.sealB [0,1,2,3,4] rfl rfl rfl ?_ ?_);(focus((conv=>whnf);(repeat' (first|exact zE))));(focus((conv=>whnf);(repeat' (first|exact zE|((refine And.intro ?_ ?_)<;>(conv=>whnf))))))
theorem aB(nl:Nat)(W:Nat→Int)(Hd:Nat→List Cel)(f:Nat→List D)(clk cnt who old new:Int)(word:Nat)(h:List Cel)(hl:nl≤128)(hc0:0≤cnt)(hc1:cnt≤4611686018427387903)(hw0:0≤who)(hw1:who<64)(hw:word<34) :
  Fun TC 37 4 [iF 0 2,.i .i64 who,.i .i64 word,.i .u64 old,.i .u64 new,.d (ao 4 Cel.D h)] [(0,some (ce 1 3 34 nl clk cnt)),(1,some (b9 34 W)),(2,some (f5 Hd)),(3,some (bA nl f))]
   5 (.b (decide (W word=old))) [(0,some (ce 1 4 34 (aC nl) clk (cnt+1))),(1,some (b9 34 (if W word=old then Dir.upd W word new else W))),(2,some (f5 (if W word=old then Dir.upd Hd word h else Hd))),(3,none),(4,some (bA (aC nl) (bC nl f (bO who 2 word old new (decide (W word=old))))))]:=by
 refine Fun.mk' Tryz.func37 rfl rfl zN (by decide) ?_
 (repeat' (first|((first|refine Wp.any ac rfl ?_|(with_reducible first|refine Go.mk ?_|apply aj.of|refine And.intro zC ?_));conv=>whnf)|((refine ab.fn (q9 34 nl W f clk cnt who old new word hl hc0 hc1 hw0 hw1 hw) [0,1,3] rfl rfl rfl rfl rfl ?ha ?hh ?_);(case ha=>exact zA);(case hh=>exact zH);(conv=>whnf))|((refine ap (fun hc=>?_) (fun hc=>?_))<;>(try simp only[wz9]at hc)<;>(try (exfalso;omega))<;>(conv=>whnf))))
 ·try simp only[wat]
  rw[if_pos hc,if_pos hc]
  (refine af.sealB [0,1,2,3,4] rfl rfl rfl ?_ ?_);(focus((conv=>whnf);(repeat' (first|exact zE))));(focus((conv=>whnf);(repeat' (first|exact zE|((refine And.intro ?_ ?_)<;>(conv=>whnf))))))
  exact fun i hi=>fL.of ww
 ·try simp only[wat]
  rw[if_neg hc,if_neg hc]
  (refine af.sealB [0,1,2,3,4] rfl rfl rfl ?_ ?_);(focus((conv=>whnf);(repeat' (first|exact zE))));(focus((conv=>whnf);(repeat' (first|exact zE|((refine And.intro ?_ ?_)<;>(conv=>whnf))))))
theorem b7(nl:Nat)(W:Nat→Int)(Hd:Nat→List Cel)(f:Nat→List D)(clk cnt:Int)(word:Nat)(hw:word<34) :
  Fun TC 33 4 [iF 0 2,.i .i64 word] [(0,some (ce 1 3 34 nl clk cnt)),(1,some (b9 34 W)),(2,some (f5 Hd)),(3,some (bA nl f))]
   4 (.tup [.i .u64 (W word),.d (ao 4 Cel.D (Hd word))]) [(0,some (ce 1 3 34 nl clk cnt)),(1,some (b9 34 W)),(2,some (f5 Hd)),(3,some (bA nl f))]:=by
 refine Fun.mk' Tryz.func33 rfl rfl zN (by decide) ?_
 (repeat' (first|((first|refine Wp.any ac rfl ?_|(with_reducible first|refine Go.mk ?_|apply aj.of)|refine zV ?_|with_reducible refine And.intro zC ?_);conv=>whnf)|(with_reducible refine ab.inline Tryz.func50 rfl rfl rfl (zzb rfl) ?_)|(with_reducible refine ab.inline Tryz.func76 rfl rfl rfl (zzb rfl) ?_)|((with_reducible refine ab.pure (cP _ _ _) rfl rfl ?_);conv=>whnf)|((refine ap (fun hc=>?_) (fun hc=>?_))<;>(try simp only[wz9]at hc)<;>(try (exfalso;omega))<;>(conv=>whnf))))
 simp only[wat]
 (refine af.sealB [0,1,2,3] rfl rfl rfl ?_ ?_);(focus((conv=>whnf);(repeat' (first|exact zE))));(focus((conv=>whnf);(repeat' (first|exact zE|((refine And.intro ?_ ?_)<;>(conv=>whnf))))))
section
abbrev bx(x:SV):SV:=.iref [x] 0
def ar:SV:=.iref [iF 1 3,.d (.fn (.func 22) [])] 0
def pK:SV:=.iref [.b false,.i .i64 0,.b false,.i .i64 0,.i .i64 0,.i .i64 0,.i .i64 0] 0
def nc:SV:=.d (.fn (.func 58) [])
def d8:SV:=.d (.val .nilFunc)
def xS:SV:=bx (.ptr 4 0)
def wc(p:Pol):SV:=.iref [.i .u8 p.kind,.i .i64 p.T,.i .i64 p.tau,.i .i64 p.permits] 0
def wN(c:Cel):SV:=.iref [.i .i64 c.pol,.d (ao 1 (bc .u8) c.key),.i .i64 c.tat,.d (ao 1 (bc .i64) c.held)] 0
def rplB(r:Rpl):SV:=.iref [.i .i64 r.e,.b r.g,.i .i64 r.left,.i .i64 r.wait,.i .i64 r.serial,.i .i64 r.now] 0
def fdB(f:Core.Fd):SV:=.iref [.i .i64 f.w,.i .u64 f.v,.d (ao 4 Cel.D f.h)] 0
def furS(j sh:Nat):SV:=.fn (.func 83) [bx (.i .i64 j),bx (.i .i64 sh),xS]
def thnS(p:Pol):Core.Fc→SV
 | .key=>.fn (.func 96) [xS,wc p]
 | .ev j sh g=>.fn (.func 86) [bx (furS j sh),bx (.i .i64 g),xS]
def p7(f:Core.Fd)(c:Cel)(r:Rpl):SV:=.fn (.func 136) [xS,fdB f,bx (.i .i64 f.at'),bx (.b f.there),wN c,rplB r]
def mvS(word by' stop:Int)(stopped thn:SV):SV:=.fn (.func 148) [xS,bx (.i .i64 word),bx (.i .u64 stop),bx stopped,bx (.i .u64 by'),bx thn]
def mwS(word v by' stop:Int)(stopped thn:SV):SV:=.fn (.func 149) [xS,bx (.i .i64 word),bx (.i .u64 v),bx (.i .u64 by'),bx (.i .u64 stop),bx stopped,bx thn]
def wD:SV:=.d (.fn (.func 138) [])
def rsvS(sw:SV):SV:=.fn (.func 139) [xS,bx sw]
def bkS(n:Int):Core.Bk→SV
 | .lv r=>.fn (.func 152) [rplB r]
 | .ev j sh g=>.fn (.func 95) [bx (furS j sh),bx (.i .i64 g),bx (.i .i64 n)]
def w3(n:Int)(k:Core.Bk):SV:=.fn (.func 126) [bx (bkS n k)]
def acqS(p:Pol)(f:Core.Fd):SV:=.fn (.func 131) [wc p,wN f.cell,xS,fdB f,bx (.i .i64 f.at'),bx (.b f.there)]
def i3:SV:=.fn (.func 133) [xS]
def serS(p:Pol)(f:Core.Fd):SV:=.fn (.func 134) [xS,bx (acqS p f)]
def eu(n:Int):Int:=IntKind.u64.wrap (0-n)
abbrev sN:Int:=18446744073709551615
def findS(who s:Int)(t:SV):SV:=.fn (.func 118) [bx ar,bx (.i .i64 who),bx (.i .u64 s),bx t]
def xJ(who s:Int)(w:Nat)(t:SV):SV:=.fn (.func 147) [bx ar,bx (.i .i64 who),bx (.i .i64 w),bx (.i .u64 s),bx t]
def mY(who:Int)(w:Nat)(t:SV):SV:=.fn (.func 143) [bx ar,bx (.i .i64 who),bx (.i .i64 w),bx t]
def rJ(who:Int)(w:Nat)(v:Int)(h:List Cel)(t:SV):SV:=.fn (.func 144) [bx ar,bx (.i .i64 who),bx (.i .i64 w),bx (.i .u64 v),bx (.d (ao 4 Cel.D h)),bx t,pK]
def halfS(who:Int)(lv w:Nat)(h:List Cel)(t:SV):SV:=.fn (.func 145) [bx ar,bx (.i .i64 who),bx (.i .i64 w),bx t,bx (.d (ao 4 Cel.D h)),bx (.i .i64 lv)]
def layS(who:Int)(lv w:Nat)(h:List Cel)(t:SV):SV:=.fn (.func 146) [bx ar,bx (.i .i64 who),bx (.i .i64 w),bx (.d (ao 4 Cel.D h)),bx (.i .i64 lv),bx t,bx .any]
def tfK(who sm:Int)(lv:Nat)(t:SV):SV:=.fn (.func 120) [bx ar,bx (.i .i64 who),bx (.i .i64 lv),bx (.i .u64 sm),bx t,pK]
def thK(who sm:Int)(t:SV):SV:=.fn (.func 121) [bx ar,bx (.i .i64 who),bx (.i .u64 sm),bx t,pK]
def tfS(who:Int)(lv i:Nat):SV:=.fn (.func 114) [bx ar,bx (.i .i64 who),bx (.i .i64 lv),bx (.i .i64 i),bx nc,pK]
def thS(who:Int)(lv i:Nat)(up:Bool)(h:List Cel):SV :=
 if up then .fn (.func 117) [bx ar,bx (.i .i64 who),bx (.i .i64 lv),bx (.i .i64 i),bx nc,pK]
 else .fn (.func 116) [bx ar,bx (.i .i64 who),bx (.i .i64 lv),bx (.i .i64 i),bx (.d (ao 4 Cel.D h)),bx nc,pK]
section
variable(P:Core.Ops)(who:Int)(x:Core.X)
def thn(f:Core.Fc):SV:=thnS (P.pol x.pol) f
def cl:Core.CS→SV
 | .none=>d8
 | .k0 f=>findS who (Core.sumF x f) (thn P x f)
 | .kE f w=>xJ who (Core.sumF x f) w (thn P x f)
 | .kF f lv w=>mY who w (tfK who (Core.sumF x f) lv (thn P x f))
 | .kG f lv w v h=>rJ who w v h (tfK who (Core.sumF x f) lv (thn P x f))
 | .kH f lv w h=>halfS who lv w h (thK who (Core.sumF x f) (thn P x f))
 | .kL f lv w h=>layS who lv w h (thK who (Core.sumF x f) (thn P x f))
 | .al f=>.fn (.func 128) [wc (P.pol x.pol),wN f.cell,xS,fdB f,bx (.i .i64 f.at'),bx (.b f.there)]
 | .pk c=>.fn (.func 103) [wc (P.pol x.pol),wN c,xS]
 | .a0 f=>mvS 33 1 4611686018427387903 i3 (serS (P.pol x.pol) f)
 | .a1 f u=>mwS 33 u 1 4611686018427387903 i3 (serS (P.pol x.pol) f)
 | .p0 f c r=>mvS 32 1 P.room wD (rsvS (p7 f c r))
 | .p1 f c r u=>mwS 32 u 1 P.room wD (rsvS (p7 f c r))
 | .pS f c r=>p7 f c r
 | .b0 n k=>mvS 32 (eu n) sN d8 (w3 n k)
 | .b1 n k u=>mwS 32 u (eu n) sN d8 (w3 n k)
 | .e0=>.fn (.func 59) [xS]
 | .eC j sh g w v h=>.fn (.func 87) [xS,bx (.d (ao 4 Cel.D h)),bx (furS j sh),bx (.i .i64 g),bx (.i .i64 w),bx (.i .u64 v)]
 | .eS j sh g w v m n=>.fn (.func 93) [xS,bx (.i .i64 w),bx (.i .u64 v),bx (.d (ao 4 Cel.D m)),bx (furS j sh),bx (.i .i64 g),bx (.i .i64 n)]
 | .s0=>.fn (.func 79) [bx ar,bx (.i .i64 who),bx nc]
 | .sM lv=>.fn (.func 82) [bx ar,bx (.i .i64 who),bx (.i .u64 (2*lv)),bx nc,pK,bx (.i .i64 lv)]
 | .sF lv i=>mY who (2^lv+i) (tfS who lv i)
 | .sG lv i v h=>rJ who (2^lv+i) v h (tfS who lv i)
 | .sH lv i up h=>halfS who (lv+1) (Dir.upW lv i up) h (thS who lv i up h)
 | .sL lv i up h=>layS who (lv+1) (Dir.upW lv i up) h (thS who lv i up h)
 | .sV lv=>.fn (.func 112) [bx ar,bx (.i .i64 who),bx (.i .i64 lv),bx nc]
end
theorem dU(P:Core.Ops)(who:Int)(x:Core.X)(s:Core.CS):SV.Lt 5 (cl P who x s):=by
 cases s with
 | sH lv i up h=>cases up<;>exact .of rfl
 | sL lv i up h=>cases up<;>exact .of rfl
 | k0 f=>cases f<;>exact .of rfl
 | kE f w=>cases f<;>exact .of rfl
 | kF f lv w=>cases f<;>exact .of rfl
 | kG f lv w v h=>cases f<;>exact .of rfl
 | kH f lv w h=>cases f<;>exact .of rfl
 | kL f lv w h=>cases f<;>exact .of rfl
 | b0 n k=>cases k<;>exact .of rfl
 | b1 n k u=>cases k<;>exact .of rfl
 | _=>exact .of rfl
def xF(who:Int)(x:Core.X):Nat→SV
 | 0=>.i .u8 x.op
 | 1=>.i .i64 x.pol
 | 2=>.d (ao 1 (bc .u8) x.key)
 | 3=>.i .i64 x.n
 | 4=>.ptr 0 0
 | 5=>.i .i64 who
 | 6=>.i .u64 x.sum
 | 7=>.b x.res
 | _=>.i .i64 x.ser
structure XB where
 n:Nat
 f:Nat→SV
def au(ps:List Pol)(room:Int)(g:Nat→SV):Nat→SV
 | 0=>.d (ao 4 Pol.D ps)
 | 1=>.i .u64 room
 | 2=>ar
 | j+3=>g j
def coreB(ps:List Pol)(room:Int)(g:Nat→SV):Blk:=.cf 13 67 (au ps room g)
def xB(o:XB):Blk:=.cf 1 o.n o.f
@[reducible] def coreT(ps:List Pol)(room:Int)(g:Nat→SV)(M:Core.Mc)(o:Nat→XB)(l nl:Nat)(cnt:Int)(r:List (Nat×Option Blk)):List (Nat×Option Blk) :=
 [(0,some (coreB ps room g)),(1,some (ce 2 l 34 nl M.clk cnt)),(2,some (b9 34 M.W)),(3,some (f5 M.Hd)),(4,some (xB (o 0))),(5,some (xB (o 1))),(6,some (xB (o 2))),(7,some (xB (o 3))),(8,some (xB (o 4))),(9,some (xB (o 5))),(10,some (xB (o 6))),(11,some (xB (o 7))),(12,some (xB (o 8)))]++r
def aT(who:Int)(x:Core.X)(o:Nat→XB):Nat→XB
 | 0=>⟨9,xF who x⟩
 | i+1=>o i
def ak(ps:List Pol)(room:Int)(g:Nat→SV)(M:Core.Mc)(o:Nat→XB)(nl:Nat)(f:Nat→List D)(cnt:Int):List (Nat×Option Blk) :=
 coreT ps room g M o 13 nl cnt [(13,some (bA nl f))]
def aP(ps:List Pol)(room:Int)(g:Nat→SV)(M:Core.Mc)(o:Nat→XB)(nl:Nat)(f:Nat→List D)(cnt:Int)(a:List D):List (Nat×Option Blk) :=
 coreT ps room g M o 14 (aC nl) (cnt+1) [(13,none),(14,some (bA (aC nl) (bC nl f a)))]
structure COK(ps:List Pol)(room who:Int)(g:Nat→SV)(M:Core.Mc)(o:Nat→XB)(nl:Nat)(cnt:Int):Prop where
 w0:0≤who
 w1:who<64
 nl:nl≤128
 c0:0≤cnt
 c1:cnt≤4611686018427387903
 g:∀j,SV.Lt 13 (g j)
 o:∀i j,SV.Lt 1 ((o i).f j)
 d0:0≤M.W 0
 d1:M.W 0≤8
 hd:∀w,Hc ps 16000000 (M.Hd w)
 ps:cO ps=0
 room:1≤room∧room≤4096
 c32:0≤M.W 32∧M.W 32≤4096
 c33:0≤M.W 33∧M.W 33≤4611686018427387903
theorem cu(who:Int)(x:Core.X)(j:Nat):SV.Lt 1 (xF who x j):=by
 unfold xF
 split<;>first|exact .of rfl
theorem aJ{ps:List Pol}{room:Int}{g:Nat→SV}(hg:∀j,SV.Lt 13 (g j))(j:Nat):SV.Lt 13 (au ps room g j):=by
 rcases j with _|_|_|j
 ·exact .of rfl
 ·exact .of rfl
 ·exact .of rfl
 ·exact hg j
theorem id13{L:List Nat}{i:Nat}(hi:i<13):(0::1::2::3::4::5::6::7::8::9::10::11::12::L).getD i 0=i:=by
 rcases i with _|_|_|_|_|_|_|_|_|_|_|_|_|i<;>first|rfl|omega
theorem l8{S:St}{ps:List Pol}{room:Int}{g:Nat→SV}(hg:∀j,SV.Lt 13 (g j)){L:List Nat}:∀j,j<67→ai S (0::1::2::3::4::5::6::7::8::9::10::11::12::L) (au ps room g j) (au ps room g j)∧SV.Lt 13 (au ps room g j) :=
 fun j _=>⟨.same (aJ hg j) (by simp) fun i hi=>id13 hi,aJ hg j⟩
theorem pt{S:St}{ps:List Pol}{room:Int}{g:Nat→SV}(hg:∀j,SV.Lt 13 (g j)){L:List Nat}{π:Nat→Nat}(hπ:∀l,l<13→π l=l):∀j,j<67→ai S (0::1::2::3::4::5::6::7::8::9::10::11::12::L) (SV.ren π (au ps room g j)) (au ps room g j)∧SV.Lt 13 (au ps room g j) :=
 fun j hj=>⟨by rw[SV.ren_same hπ (aJ hg j)];exact(l8 hg j hj).1,aJ hg j⟩
theorem dR{ps:List Pol}{room:Int}{g:Nat→SV}(hg:∀j,SV.Lt 13 (g j)){L:List Nat}:∀j,j<67→ae (0::1::2::3::4::5::6::7::8::9::10::11::12::L) (au ps room g j) (au ps room g j)∧SV.Lt 13 (au ps room g j) :=
 fun j _=>⟨.same (aJ hg j) (by simp) fun i hi=>id13 hi,aJ hg j⟩
theorem cI{ps:List Pol}{room:Int}{g:Nat→SV}(hg:∀j,SV.Lt 13 (g j)){L:List Nat}{π:Nat→Nat}(hπ:∀l,l<13→π l=l):∀j,j<67→ae (0::1::2::3::4::5::6::7::8::9::10::11::12::L) (SV.ren π (au ps room g j)) (au ps room g j)∧SV.Lt 13 (au ps room g j) :=
 fun j hj=>⟨by rw[SV.ren_same hπ (aJ hg j)];exact(dR hg j hj).1,aJ hg j⟩
theorem aR{S:St}{n:Nat}{f:Nat→SV}(hf:∀j,SV.Lt 1 (f j)){L:List Nat}:∀j,j<n→ai S (0::L) (f j) (f j)∧SV.Lt 1 (f j) :=
 fun j _=>⟨.same (hf j) (by simp) fun i hi=>by obtain rfl:i=0:=(by omega);rfl,hf j⟩
theorem aw{S:St}{n:Nat}{f:Nat→SV}(hf:∀j,SV.Lt 1 (f j)){L:List Nat}{π:Nat→Nat}(hπ:π 0=0):∀j,j<n→ai S (0::L) (SV.ren π (f j)) (f j)∧SV.Lt 1 (f j) :=
 fun j hj=>⟨by rw[SV.ren_same (m:=1) (fun l hl=>by obtain rfl:l=0:=(by omega);exact hπ) (hf j)];exact(aR hf j hj).1,hf j⟩
theorem eh{n:Nat}{f:Nat→SV}(hf:∀j,SV.Lt 1 (f j)){L:List Nat}:∀j,j<n→ae (0::L) (f j) (f j)∧SV.Lt 1 (f j) :=
 fun j _=>⟨.same (hf j) (by simp) fun i hi=>by obtain rfl:i=0:=(by omega);rfl,hf j⟩
theorem b8{n:Nat}{f:Nat→SV}(hf:∀j,SV.Lt 1 (f j)){L:List Nat}{π:Nat→Nat}(hπ:π 0=0):∀j,j<n→ae (0::L) (SV.ren π (f j)) (f j)∧SV.Lt 1 (f j) :=
 fun j hj=>⟨by rw[SV.ren_same (m:=1) (fun l hl=>by obtain rfl:l=0:=(by omega);exact hπ) (hf j)];exact(eh hf j hj).1,hf j⟩
theorem pR{S:St}{who:Int}(x:Core.X)(π:Nat→Nat){L:List Nat}(hπ:π 0=0:=by rfl):∀j,j<9→ai S (0::L) (bif Nat.beq j 7 then .b true else SV.ren π (xF who x j)) (xF who { x with res:=true } j)∧SV.Lt 1 (xF who { x with res:=true } j):=fun j hj=>by
 have h:=aw (S:=S) (n:=9) (cu who x) (L:=L) hπ
 refine⟨?_,cu _ _ _⟩
 by_cases e:j=7
 ·subst e;exact ai.lt0 (SV.Lt.of rfl)
 ·have e2:Nat.beq j 7=false:=by
   cases h:Nat.beq j 7 with
   | false=>rfl
   | true=>exact absurd (Q2 h) e
  have e3:xF who { x with res:=true } j=xF who x j:=by
   rcases j with _|_|_|_|_|_|_|_|j<;>first|rfl|exact absurd rfl e
  rw[e2,e3];exact(h j hj).1
theorem af.seal14{S:St}{x r:SV}{H':List (Nat×Option Blk)}{l:Nat}(hH:mT S [0,1,2,3,4,5,6,7,8,9,10,11,12,13,l] H')(hx:ai S [0,1,2,3,4,5,6,7,8,9,10,11,12,13,l] x r)(hd:bi [0,1,2,3,4,5,6,7,8,9,10,11,12,13,l]=true):af 14 S x 15 r H' :=
 af.sealB _ rfl rfl hd hx hH
theorem ai.sl14{S:St}{l z o n:Nat}:ai S [0,1,2,3,4,5,6,7,8,9,10,11,12,13,l] (.sl l z o n) (.sl 14 z o n) :=
 ⟨fun O E a w v hs hv=>by
  cases hv with
  | sl _ _ _ _ ad cap hl hc hm ha h0=>exact .sl _ _ _ _ _ _ (by simp) hc hm ha h0⟩
theorem ae.sl13{l z o n:Nat}:ae [0,1,2,3,4,5,6,7,8,9,10,11,12,l] (.sl l z o n) (.sl 13 z o n):=by
 refine⟨fun E nx w v hv=>?_⟩
 cases hv with
 | sl _ _ _ _ ad cap hl hc hm ha h0=>exact .sl _ _ _ _ _ _ (by simp) hc hm ha h0
theorem ab.fn14{C:Cx}{nt:NT}{nx:Nat}{fr:List (Nat×SV)}{hp:List (Nat×Option Blk)}{g:Nat}{args:List SV}{k:St→SV→Prop}{m':Nat}{args0:List SV}{H H':List (Nat×Option Blk)}{r:SV}{l:Nat}(h:Fun C g 14 args0 H m' r H')
  (hh:aL hp [0,1,2,3,4,5,6,7,8,9,10,11,12,l] H) (ha:a8 [0,1,2,3,4,5,6,7,8,9,10,11,12,l] args args0) (hd:bi [0,1,2,3,4,5,6,7,8,9,10,11,12,l]=true) (hlive:dr H 14=true) (hkeys:du H' 14=true) (hlt:cn H' m'=true)
  (hk:k ⟨nt,nx+(m'-14),fr,aX (πf [0,1,2,3,4,5,6,7,8,9,10,11,12,l] nx) hp H'⟩ (mH (πf [0,1,2,3,4,5,6,7,8,9,10,11,12,l] nx) r)):ab C ⟨nt,nx,fr,hp⟩ g args k :=
 .fn h _ rfl hd hlive hkeys hlt ha hh hk
end
section
variable{ps:List Pol}{room who:Int}{g:Nat→SV}{M:Core.Mc}{o:Nat→XB}{nl:Nat}{f:Nat→List D}{cnt:Int}{x:Core.X}
theorem nZ(hM:COK ps room who g M o nl cnt)(word:Nat)(hw:word<34):Fun TC 60 14 [.ptr 4 0,.i .i64 word] (ak ps room g M (aT who x o) nl f cnt)
  15 (.i .u64 (M.W word)) (aP ps room g M (aT who x o) nl f cnt (bO who 1 word (M.W word) 0 true)):=by
 obtain⟨q0,q1,q2,q3,q4,q5,qo,q6,q7,q8⟩:=id hM
 refine Fun.mk' Tryz.func60 rfl rfl zN (by decide) ?_
 (repeat' (first|((first|refine Wp.any ac rfl ?_|(with_reducible first|refine Go.mk ?_|apply aj.of)|refine zV ?_);conv=>whnf)|((refine ag.new (aE nl M.W M.Hd f M.clk cnt who word q2 q3 q4 q0 q1 hw) [1,2,3,13] [] rfl rfl rfl rfl rfl rfl ?ha ?hh ?hs ?_);(case ha=>exact zA);(case hh=>exact zH);(case hs=>exact zK);(conv=>whnf))|((with_reducible refine At.mk' _ rfl ?_);(refine And.intro zN ?_);conv=>whnf)))
 ((apply af.seal14);(case hH=>exact zz2);(case hx=>exact zz20);(case hd=>exact rfl))
theorem p6(hM:COK ps room who g M o nl cnt)(word:Nat)(hw:word<34)(old new:Int):Fun TC 150 14 [.ptr 4 0,.i .i64 word,.i .u64 old,.i .u64 new] (ak ps room g M (aT who x o) nl f cnt)
  15 (.b (decide (M.W word=old))) (aP ps room g (if M.W word=old then M.set word new []else M) (aT who x o) nl f cnt (bO who 2 word old new (decide (M.W word=old)))):=by
 obtain⟨q0,q1,q2,q3,q4,q5,qo,q6,q7,q8⟩:=id hM
 refine Fun.mk' Tryz.func150 rfl rfl zN (by decide) ?_
 by_cases hm:M.W word=old
 ·rw[if_pos hm]
  (repeat' (first|((first|refine Wp.any ac rfl ?_|(with_reducible first|refine Go.mk ?_|apply aj.of)|refine zV ?_);conv=>whnf)|((refine ag.new (aB nl M.W M.Hd f M.clk cnt who old new word [] q2 q3 q4 q0 q1 hw) [1,2,3,13] [] rfl rfl rfl rfl rfl rfl ?ha ?hh ?hs ?_);(case ha=>exact zA);(case hh=>exact zH);(case hs=>exact zK);(conv=>whnf))|((with_reducible refine At.mk' _ rfl ?_);(refine And.intro zN ?_);conv=>whnf)))
  ((apply af.seal14);(case hH=>exact zz5);(case hx=>exact zz20);(case hd=>exact rfl))
 ·rw[if_neg hm]
  (repeat' (first|((first|refine Wp.any ac rfl ?_|(with_reducible first|refine Go.mk ?_|apply aj.of)|refine zV ?_);conv=>whnf)|((refine ag.new (aB nl M.W M.Hd f M.clk cnt who old new word [] q2 q3 q4 q0 q1 hw) [1,2,3,13] [] rfl rfl rfl rfl rfl rfl ?ha ?hh ?hs ?_);(case ha=>exact zA);(case hh=>exact zH);(case hs=>exact zK);(conv=>whnf))|((with_reducible refine At.mk' _ rfl ?_);(refine And.intro zN ?_);conv=>whnf)))
  ((apply af.seal14);(case hH=>exact zz5);(case hx=>exact zz20);(case hd=>exact rfl))
theorem now_c(hM:COK ps room who g M o nl cnt):Fun TC 88 14 [.ptr 4 0] (ak ps room g M (aT who x o) nl f cnt)
  15 (.i .i64 M.clk) (aP ps room g M (aT who x o) nl f cnt (bO who 3 0 (IntKind.u64.wrap M.clk) 0 true)):=by
 obtain⟨q0,q1,q2,q3,q4,q5,qo,q6,q7,q8⟩:=id hM
 refine Fun.mk' Tryz.func88 rfl rfl zN (by decide) ?_
 (repeat' (first|((first|refine Wp.any ac rfl ?_|(with_reducible first|refine Go.mk ?_|apply aj.of)|refine zV ?_);conv=>whnf)|((refine ag.new (o8 34 nl M.W f M.clk cnt who q2 q3 q4 q0 q1) [1,2,13] [] rfl rfl rfl rfl rfl rfl ?ha ?hh ?hs ?_);(case ha=>exact zA);(case hh=>exact zH);(case hs=>exact zK);(conv=>whnf))|((with_reducible refine At.mk' _ rfl ?_);(refine And.intro zN ?_);conv=>whnf)))
 ((apply af.seal14);(case hH=>exact zz2);(case hx=>exact zz20);(case hd=>exact rfl))
theorem ie(lv:Nat)(hl:lv≤3)(s:Int):Pure TC 38 [.i .i64 ((lv:Int)+1),.i .u64 s] (.i .i64 (Dir.plc (lv+1) s)):=b5 (lv+1) (by omega) s
theorem dN(who s:Int)(F:Fn)(cs:List SV)(hF:SV.Lt 120 (.fn F cs)):Fun TC 85 120 [ar,.i .i64 who,.i .u64 s,.fn F cs] [] 120 (findS who s (.fn F cs)) []:=by
 refine Fun.mk' Tryz.func85 rfl rfl zN (by decide) ?_
 (repeat' (first|((first|refine Wp.any ac rfl ?_|(with_reducible first|refine Go.mk ?_|apply aj.of));conv=>whnf)))
 (refine af.sealM ?_);(conv=>whnf);(repeat' (first|exact zD9|((refine ai.ptrN rfl rfl ?_);(conv=>whnf))|((refine ai.fn ?_);(conv=>whnf))|((refine And.intro ?_ ?_)<;>(conv=>whnf))))
theorem eT(who s:Int)(w:Nat)(F:Fn)(cs:List SV)(hF:SV.Lt 120 (.fn F cs)):Fun TC 119 120 [ar,.i .i64 who,.i .u64 s,.i .i64 w,.fn F cs] [] 120 (xJ who s w (.fn F cs)) []:=by
 refine Fun.mk' Tryz.func119 rfl rfl zN (by decide) ?_
 (repeat' (first|((first|refine Wp.any ac rfl ?_|(with_reducible first|refine Go.mk ?_|apply aj.of));conv=>whnf)))
 (refine af.sealM ?_);(conv=>whnf);(repeat' (first|exact zD9|((refine ai.ptrN rfl rfl ?_);(conv=>whnf))|((refine ai.fn ?_);(conv=>whnf))|((refine And.intro ?_ ?_)<;>(conv=>whnf))))
theorem b6(who:Int)(w:Nat)(F:Fn)(cs:List SV)(hF:SV.Lt 120 (.fn F cs)):Fun TC 113 120 [ar,.i .i64 who,.i .i64 w,.fn F cs] [] 120 (mY who w (.fn F cs)) []:=by
 refine Fun.mk' Tryz.func113 rfl rfl zN (by decide) ?_
 (repeat' (first|((first|refine Wp.any ac rfl ?_|(with_reducible first|refine Go.mk ?_|apply aj.of));conv=>whnf)))
 (refine af.sealM ?_);(conv=>whnf);(repeat' (first|exact zD9|((refine ai.ptrN rfl rfl ?_);(conv=>whnf))|((refine ai.fn ?_);(conv=>whnf))|((refine And.intro ?_ ?_)<;>(conv=>whnf))))
theorem gA(who:Int)(lv:Nat)(hl:lv≤3)(s:Int)(h:List Cel)(F:Fn)(cs:List SV)(hF:SV.Lt 120 (.fn F cs)):Fun TC 115 120 [ar,.i .i64 who,.i .i64 ((lv:Int)+1),.i .u64 s,.d (ao 4 Cel.D h),.fn F cs] [] 120 (halfS who (lv+1) (Dir.plc (lv+1) s) h (.fn F cs)) []:=by
 refine Fun.mk' Tryz.func115 rfl rfl zN (by decide) ?_
 (repeat' (first|((first|refine Wp.any ac rfl ?_|(with_reducible first|refine Go.mk ?_|apply aj.of|refine ab.pure (ie lv hl _) rfl rfl ?_));conv=>whnf)))
 (refine af.sealM ?_);(conv=>whnf);(repeat' (first|exact zD9|((refine ai.ptrN rfl rfl ?_);(conv=>whnf))|((refine ai.fn ?_);(conv=>whnf))|((refine And.intro ?_ ?_)<;>(conv=>whnf))))
theorem qm(P:Core.Ops)(x:Core.X)(who:Int):Fun TC 57 120 [ar,.i .i64 who,nc] [] 120 (cl P who x .s0) []:=by
 refine Fun.mk' Tryz.func57 rfl rfl zN (by decide) ?_
 (repeat' (first|((first|refine Wp.any ac rfl ?_|(with_reducible first|refine Go.mk ?_|apply aj.of));conv=>whnf)))
 (refine af.sealM ?_);(conv=>whnf);(repeat' (first|exact zD9|((refine ai.ptrN rfl rfl ?_);(conv=>whnf))|((refine ai.fn ?_);(conv=>whnf))|((refine And.intro ?_ ?_)<;>(conv=>whnf))))
theorem move_d(word by' stop:Int)(F0:Fn)(F:Fn)(cs:List SV)(hF:SV.Lt 120 (.fn F cs)):Fun TC 125 120 [.ptr 4 0,.i .i64 word,.i .u64 by',.i .u64 stop,.d (.fn F0 []),.fn F cs] [] 120 (mvS word by' stop (.d (.fn F0 [])) (.fn F cs)) []:=by
 refine Fun.mk' Tryz.func125 rfl rfl zN (by decide) ?_
 (repeat' (first|((first|refine Wp.any ac rfl ?_|(with_reducible first|refine Go.mk ?_|apply aj.of));conv=>whnf)))
 (refine af.sealM ?_);(conv=>whnf);(repeat' (first|exact zD9|((refine ai.ptrN rfl rfl ?_);(conv=>whnf))|((refine ai.fn ?_);(conv=>whnf))|((refine And.intro ?_ ?_)<;>(conv=>whnf))))
theorem gK{lv:Nat}(hl:lv≤4):IntKind.i64.wrap (1*2^min ((lv:Nat):Int).toNat IntKind.i64.bits)=2^lv:=by
 have hlv:lv=0∨lv=1∨lv=2∨lv=3∨lv=4:=by omega
 rcases hlv with rfl|rfl|rfl|rfl|rfl<;>decide
theorem cd{lv:Nat}{s:Int}(h0:0≤s)(h1:s<2^lv):Dir.plc lv s=2^lv+s.toNat:=by unfold Dir.plc;rw[Int.emod_eq_of_lt h0 h1]
theorem mr{lv i:Nat}(hi:i<2^lv)(up:Bool):Dir.plc (lv+1) (if up then(i:Int)+2^lv else i)=Dir.upW lv i up:=by
 have e:((2^lv:Nat):Int)=2^lv:=by simp
 have e2:(2:Int)^(lv+1)=2^lv*2:=Int.pow_succ 2 lv
 have h:(i:Int)<2^lv:=by omega
 unfold Dir.upW
 cases up
 ·rw[if_neg (by decide),if_neg (by decide),cd (by omega) (by omega),Q13]
 ·rw[if_pos rfl,if_pos rfl,cd (by omega) (by omega)]
  congr 1
theorem rf(P:Core.Ops)(x:Core.X)(who:Int)(lv i:Nat)(hl:lv≤3)(hi:i≤2^lv):Fun TC 81 60 [ar,.i .i64 who,.i .i64 lv,.i .i64 i,nc] [] 60 (cl P who x (Core.move lv i)) []:=by
 have e1:=gK (show lv≤4 by omega)
 have e2:((2^lv:Nat):Int)=2^lv:=by simp
 have hb:(2:Nat)^lv≤2^3:=Q16 (by omega) hl
 refine Fun.mk' Tryz.func81 rfl rfl zN (by decide) ?_
 (repeat' (first|((first|refine Wp.any ac rfl ?_|(with_reducible first|refine Go.mk ?_|apply aj.of|refine Ov.ok zO ?_)|refine zV ?_|(with_reducible first|refine And.intro zC ?_|refine ag.pure (b5 lv (by omega) _) rfl rfl ?_|refine ag.funM (b6 _ _ _ _ (by exact SV.Lt.of rfl)) rfl rfl ?_));conv=>whnf)|((refine ap (fun hc=>?_) (fun hc=>?_))<;>(try simp only[wz9,e1]at hc)<;>(try (exfalso;omega))<;>(conv=>whnf))))
 ·rw[show Core.move lv i=.sV lv by unfold Core.move;rw[if_pos (by omega)]]
  (refine af.sealM ?_);(conv=>whnf);(repeat' (first|exact zD9|((refine ai.ptrN rfl rfl ?_);(conv=>whnf))|((refine ai.fn ?_);(conv=>whnf))|((refine And.intro ?_ ?_)<;>(conv=>whnf))))
 ·rw[show Core.move lv i=.sF lv i by unfold Core.move;rw[if_neg (by omega)]]
  rw[show Dir.plc lv (i:Int)=2^lv+i by rw[cd (by omega) (by omega)];rfl]
  (refine af.sealM ?_);(conv=>whnf);(repeat' (first|exact zD9|((refine ai.ptrN rfl rfl ?_);(conv=>whnf))|((refine ai.fn ?_);(conv=>whnf))|((refine ai.iref ?_);(conv=>whnf))|((refine And.intro ?_ ?_)<;>(conv=>whnf))))
end
section
variable{ps:List Pol}{room who:Int}{g:Nat→SV}{M:Core.Mc}{o:Nat→XB}{nl:Nat}{f:Nat→List D}{cnt:Int}{x:Core.X}{nl0:Nat}{cnt0:Int}
@[reducible] def rsS(r:Core.Rs):SV:=.agg [.b r.done,.i .i64 r.r.e,.b r.r.g,.i .i64 r.r.left,.i .i64 r.r.wait,.i .i64 r.r.serial,.i .i64 r.r.now]
@[reducible] def fdS(f:Core.Fd):SV:=.agg [.i .i64 f.w,.i .u64 f.v,.d (ao 4 Cel.D f.h)]
theorem ss(hM:COK ps room who g M o nl0 cnt0)(hk:Core.Kx ps x):Fun TC 63 14 [.ptr 4 0] (ak ps room g M (aT who x o) nl f cnt) 14 (cl (aa ps room) who x (.k0 .key)) (ak ps room g M (aT who x o) nl f cnt):=by
 obtain⟨q0,q1,q2,q3,q4,q5,qo,q6,q7,q8⟩:=id hM
 have hp:=hk.pol
 replace hp:0≤x.pol∧x.pol<ps.length:=hp
 refine Fun.mk' Tryz.func63 rfl rfl zN (by decide) ?_
 (repeat' (first|((first|refine Wp.any ac rfl ?_|(with_reducible first|refine Go.mk ?_|apply aj.of)|refine zV ?_|with_reducible refine And.intro zC ?_);conv=>whnf)|((with_reducible refine At.mk' _ rfl ?_);(refine And.intro zN ?_);conv=>whnf)|((with_reducible refine ag.funM (dN _ _ _ _ (by exact SV.Lt.of rfl)) rfl rfl ?_);conv=>whnf)))
 ((refine af.sealB [0,1,2,3,4,5,6,7,8,9,10,11,12,13] rfl rfl rfl ?_ ?_);(focus((conv=>whnf);(repeat' (first|exact zC9|((refine ai.ptr rfl rfl ?_);(conv=>whnf))|((refine ai.fn ?_);(conv=>whnf))|((refine ai.iref ?_);(conv=>whnf))|((refine And.intro ?_ ?_)<;>(conv=>whnf))))));(focus((conv=>whnf);(repeat' (first|exact zC9|exact aR (qo _)|((refine And.intro ?_ ?_)<;>(conv=>whnf)))))))
theorem rV(hM:COK ps room who g M o nl0 cnt0)(j sh:Nat)(gn:Int)(hj:j≤16):Fun TC 62 14 [.ptr 4 0,.i .i64 j,.i .i64 sh,.i .i64 gn] (ak ps room g M (aT who x o) nl f cnt) 14 (cl (aa ps room) who x (.k0 (.ev j sh gn))) (ak ps room g M (aT who x o) nl f cnt):=by
 obtain⟨q0,q1,q2,q3,q4,q5,qo,q6,q7,q8⟩:=id hM
 refine Fun.mk' Tryz.func62 rfl rfl zN (by decide) ?_
 (repeat' (first|((first|refine Wp.any ac rfl ?_|(with_reducible first|refine Go.mk ?_|apply aj.of|refine Ov.ok zO ?_)|refine zV ?_);conv=>whnf)|((with_reducible refine At.mk' _ rfl ?_);(refine And.intro zN ?_);conv=>whnf)|((with_reducible refine ag.funM (dN _ _ _ _ (by exact SV.Lt.of rfl)) rfl rfl ?_);conv=>whnf)))
 ((refine af.sealB [0,1,2,3,4,5,6,7,8,9,10,11,12,13] rfl rfl rfl ?_ ?_);(focus((conv=>whnf);(repeat' (first|exact zC9|((refine ai.ptr rfl rfl ?_);(conv=>whnf))|((refine ai.fn ?_);(conv=>whnf))|((refine ai.iref ?_);(conv=>whnf))|((refine And.intro ?_ ?_)<;>(conv=>whnf))))));(focus((conv=>whnf);(repeat' (first|exact zC9|exact aR (qo _)|((refine And.intro ?_ ?_)<;>(conv=>whnf)))))))
theorem v8(hM:COK ps room who g M o nl0 cnt0)(fd:Core.Fd)(c:Cel)(r:Rpl):Fun TC 101 14 [.ptr 4 0,fdS fd,.i .i64 fd.at',.b fd.there,c.S,r.S] (ak ps room g M (aT who x o) nl f cnt) 14 (cl (aa ps room) who x (Core.put x fd c r)) (ak ps room g M (aT who x o) nl f cnt):=by
 obtain⟨q0,q1,q2,q3,q4,q5,qo,q6,q7,q8⟩:=id hM
 refine Fun.mk' Tryz.func101 rfl rfl zN (by decide) ?_
 (repeat' (first|((first|refine Wp.any ac rfl ?_|(with_reducible first|refine Go.mk ?_|apply aj.of)|refine zV ?_);conv=>whnf)|((with_reducible refine At.mk' _ rfl ?_);(refine And.intro zN ?_);conv=>whnf)|((with_reducible refine ag.funM (move_d _ _ _ _ _ _ (by exact SV.Lt.of rfl)) rfl rfl ?_);conv=>whnf)|((refine ap (fun hc=>?_) (fun hc=>?_))<;>(try simp only[wz9]at hc)<;>(try (exfalso;omega))<;>(conv=>whnf))))
 all_goals first
  | (rw[show Core.put x fd c r=.pS fd c r from if_pos (by first|exact .inl hc|exact .inr hc|(simp_all;done))];((refine af.sealB [0,1,2,3,4,5,6,7,8,9,10,11,12,13] rfl rfl rfl ?_ ?_);(focus((conv=>whnf);(repeat' (first|exact zC9|((refine ai.ptr rfl rfl ?_);(conv=>whnf))|((refine ai.fn ?_);(conv=>whnf))|((refine And.intro ?_ ?_)<;>(conv=>whnf))))));(focus((conv=>whnf);(repeat' (first|exact zC9|exact aR (qo _)|((refine And.intro ?_ ?_)<;>(conv=>whnf)))))));done)
  | (rw[show Core.put x fd c r=.p0 fd c r from if_neg (by simp_all)];((refine af.sealB [0,1,2,3,4,5,6,7,8,9,10,11,12,13] rfl rfl rfl ?_ ?_);(focus((conv=>whnf);(repeat' (first|exact zC9|((refine ai.ptr rfl rfl ?_);(conv=>whnf))|((refine ai.fn ?_);(conv=>whnf))|((refine ai.iref ?_);(conv=>whnf))|((refine And.intro ?_ ?_)<;>(conv=>whnf))))));(focus((conv=>whnf);(repeat' (first|exact zC9|exact aR (qo _)|((refine And.intro ?_ ?_)<;>(conv=>whnf)))))));done)
  | trace_state
theorem kl(hM:COK ps room who g M o nl0 cnt0)(r:Rpl):Fun TC 130 14 [.ptr 4 0,r.S] (ak ps room g M (aT who x o) nl f cnt) 14 (.tup [cl (aa ps room) who x (Core.leave x r).1,rsS (Core.leave x r).2]) (ak ps room g M (aT who x o) nl f cnt):=by
 obtain⟨q0,q1,q2,q3,q4,q5,qo,q6,q7,q8⟩:=id hM
 refine Fun.mk' Tryz.func130 rfl rfl zN (by decide) ?_
 (repeat' (first|((first|refine Wp.any ac rfl ?_|(with_reducible first|refine Go.mk ?_|apply aj.of)|refine zV ?_);conv=>whnf)|(with_reducible refine ab.inline Tryz.func84 rfl rfl rfl (zzb rfl) ?_)|(with_reducible refine ab.inline Tryz.func61 rfl rfl rfl (zzb rfl) ?_)|(with_reducible refine ab.inline Tryz.func94 rfl rfl rfl (zzb rfl) ?_)|(with_reducible refine ab.inline Tryz.func125 rfl rfl rfl (zzb rfl) ?_)|((with_reducible refine At.mk' _ rfl ?_);(refine And.intro zN ?_);conv=>whnf)|((with_reducible refine Ov.mk ?_);conv=>whnf)|((refine ap (fun hc=>?_) (fun hc=>?_))<;>(try simp only[wz9]at hc)<;>(try (exfalso;omega))<;>(conv=>whnf))))
 all_goals first
  | (rw[show Core.leave x r=(.none,⟨true,r⟩)from if_neg (by simp_all)];((refine af.sealB [0,1,2,3,4,5,6,7,8,9,10,11,12,13] rfl rfl rfl ?_ ?_);(focus((conv=>whnf);(repeat' (first|exact zC9|((refine ai.agg ?_);(conv=>whnf))|((refine ai.tup ?_);(conv=>whnf))|((refine And.intro ?_ ?_)<;>(conv=>whnf))))));(focus((conv=>whnf);(repeat' (first|exact zC9|exact aR (qo _)|((refine And.intro ?_ ?_)<;>(conv=>whnf)))))));done)
  | (rw[show Core.leave x r=(.b0 1 (.lv r),Core.r0)from if_pos (by simp_all)];((refine af.sealB [0,1,2,3,4,5,6,7,8,9,10,11,12,13] rfl rfl rfl ?_ ?_);(focus((conv=>whnf);(repeat' (first|exact zC9|((refine ai.ptr rfl rfl ?_);(conv=>whnf))|((refine ai.fn ?_);(conv=>whnf))|((refine ai.tup ?_);(conv=>whnf))|((refine And.intro ?_ ?_)<;>(conv=>whnf))))));(focus((conv=>whnf);(repeat' (first|exact zC9|exact aR (qo _)|((refine And.intro ?_ ?_)<;>(conv=>whnf)))))));done)
  | trace_state
end
end Go.Proofs.YtgkpjebgcfjfnaaGreat
