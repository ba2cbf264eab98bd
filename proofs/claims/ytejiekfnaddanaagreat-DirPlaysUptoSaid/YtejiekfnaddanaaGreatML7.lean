/- Lemmas of Dr7, Dr8, Dr9, Dr10, Dr11, Sx25, Dr12, Dr13, Dr14, Dr15, Dr16. No condition. -/
import Derived.Test.YtejiekfnaddanaaGreatML6
set_option linter.unusedVariables false
set_option linter.unusedSimpArgs false
set_option linter.unusedSectionVars false
set_option maxHeartbeats 80000000
set_option maxRecDepth 100000
namespace Go.Proofs.YtejiekfnaddanaaGreat
open Go.RowKit
section
theorem Ov.tdivN{k:IntKind}{a b:Int}{p:Int→Prop}(ha:0≤a)(h:Ov k (a/b) p):Ov k (a.tdiv b) p:=by rw[Int.tdiv_eq_ediv_of_nonneg ha];exact h
theorem place_I(x:Int)(h0:0≤x)(h4:x≤4)(s:Int):Pure TC 52 [.i .i64 x,.i .u64 s] (.i .i64 (Dir.plc x.toNat s)):=by
 have:=bc x.toNat (by omega) s
 rwa [Int.toNat_of_nonneg h0]at this
def cV(g:Nat→SV):Nat→SV
 | 0=>ap
 | j+1=>g j
def dirB(g:Nat→SV):Blk:=.cf 5 65 (cV g)
def aN(g:Nat→SV)(M:Dir.Mc)(nl:Nat)(f:Nat→List D)(clk cnt:Int):List (Nat×Option Blk) :=
 [(0,some (dirB g)),(1,some (cd 2 4 32 nl clk cnt)),(2,some (bP 32 M.W)),(3,some (dn M.Hd)),(4,some (b9 nl f))]
def iE(g:Nat→SV)(M:Dir.Mc)(nl:Nat)(f:Nat→List D)(clk cnt:Int)(a:List D):List (Nat×Option Blk) :=
 [(0,some (dirB g)),(1,some (cd 2 5 32 (a7 nl) clk (cnt+1))),(2,some (bP 32 M.W)),(3,some (dn M.Hd)),(4,none),(5,some (b9 (a7 nl) (dA nl f a)))]
def HOK(h:List Dir.Ent):Prop:=h.length≤16000000∧∀k,IsB (h.getD k default).key
structure DOK(who:Int)(g:Nat→SV)(M:Dir.Mc)(nl:Nat)(cnt:Int):Prop where
 w0:0≤who
 w1:who<64
 nl:nl≤128
 c0:0≤cnt
 c1:cnt≤4611686018427387903
 g:∀j,SV.Lt 5 (g j)
 d0:0≤M.W 0
 d1:M.W 0≤8
 hd:∀w,HOK (M.Hd w)
theorem id5{L:List Nat}{i:Nat}(hi:i<5):(0::1::2::3::4::L).getD i 0=i:=by
 rcases i with _|_|_|_|_|i<;>first|rfl|omega
theorem br{g:Nat→SV}(hg:∀j,SV.Lt 5 (g j))(j:Nat):SV.Lt 5 (cV g j):=by
 cases j with
 | zero=>exact .of rfl
 | succ j=>exact hg j
theorem lG{S:St}{g:Nat→SV}(hg:∀j,SV.Lt 5 (g j)){L:List Nat}:∀j,j<65→ak S (0::1::2::3::4::L) (cV g j) (cV g j)∧SV.Lt 5 (cV g j) :=
 fun j _=>⟨.same (br hg j) (by simp) fun i hi=>id5 hi,br hg j⟩
variable{who:Int}{g:Nat→SV}{M:Dir.Mc}{nl:Nat}{f:Nat→List D}{clk cnt:Int}
theorem step_k0(hM:DOK who g M nl cnt)(c:Dir.Kc):Fun TC 91 5 [bx ap,bx (.i .i64 who),bx (.i .u64 (ay c.key)),bx (thnK who c)] (aN g M nl f clk cnt)
  6 (.tup [cl who (Dir.step ae M (.k0 c)).2.1,di (Dir.step ae M (.k0 c)).2.2]) (iE g (Dir.step ae M (.k0 c)).1 nl f clk cnt (eY who 1 0 (M.W 0) 0 true)):=by
 have q0:=hM.w0;have q1:=hM.w1;have q2:=hM.nl;have q3:=hM.c0;have q4:=hM.c1;have q5:=hM.g;have q6:=hM.d0;have q7:=hM.d1;have q8:=hM.hd
 have qr:=QR q6
 refine Fun.mk' Tryz.func91 rfl rfl zN (by decide) ?_
 (repeat' (first|((first|refine Wp.any ab rfl ?_|(with_reducible first|refine Go.mk ?_|apply am.of|refine Ov.ok zO ?_)|refine zV ?_|with_reducible refine And.intro zC ?_);conv=>whnf)|((refine ai.new (be nl M.W M.Hd f clk cnt who 0 q2 q3 q4 q0 q1 (by omega)) [1,2,3,4] [] rfl rfl rfl rfl rfl rfl ?ha ?hh ?hs ?_);(case ha=>exact zA);(case hh=>exact zH);(case hs=>exact zK);(conv=>whnf))|((with_reducible first|refine ai.pure (place_I _ (by omega) (by omega) _) rfl rfl ?_|refine ai.funM (jp _ _ _ _ _ (by exact SV.Lt.of rfl)) rfl rfl ?_|refine ai.funM (dd _ _ _ _ (by exact SV.Lt.of rfl)) rfl rfl ?_);conv=>whnf)|(with_reducible refine Ov.tdivN (by omega) ?_)|((refine au (fun hc=>?_) (fun hc=>?_))<;>(try simp only[wz9,qr]at hc)<;>(try (exfalso;omega))<;>(conv=>whnf))))
 ·rw[show Dir.step ae M (.k0 c)=(M,.kE c (Dir.plc (M.W 0/2).toNat (ay c.key)),Dir.r0)by simp only[Dir.step];rw[if_pos hc];rfl]
  (refine af.sealB [0,1,2,3,4,12] rfl rfl rfl ?_ ?_);(focus((conv=>whnf);(repeat' (first|exact zE|((refine ak.fn ?_);(conv=>whnf))|((refine ak.tup ?_);(conv=>whnf))|((refine ak.iref ?_);(conv=>whnf))|((refine And.intro ?_ ?_)<;>(conv=>whnf))))));(focus((conv=>whnf);(repeat' (first|exact zE|((refine And.intro ?_ ?_)<;>(conv=>whnf))))))
 ·rw[show Dir.step ae M (.k0 c)=(M,.kF c (M.W 0/2).toNat (Dir.plc (M.W 0/2).toNat (ay c.key)),Dir.r0)by simp only[Dir.step];rw[if_neg hc];rfl]
  (refine af.sealB [0,1,2,3,4,12] rfl rfl rfl ?_ ?_);(focus((conv=>whnf);(repeat' (first|exact zE|((refine ak.ptr rfl rfl ?_);(conv=>whnf))|((refine ak.fn ?_);(conv=>whnf))|((refine ak.tup ?_);(conv=>whnf))|((refine ak.iref ?_);(conv=>whnf))|((refine And.intro ?_ ?_)<;>(conv=>whnf))))));(focus((conv=>whnf);(repeat' (first|exact zE|((refine And.intro ?_ ?_)<;>(conv=>whnf))))))
theorem jc(c:Dir.Kc)(w:Nat)(v:Int)(h:List Dir.Ent):(∃r,r.done=true∧Dir.found ae c w v h=(.none,r))∨∃m n,Dir.found ae c w v h=(.kS c w v m n,Dir.r0):=by
 unfold Dir.found
 cases e:ae.fnd c h with
 | inl r =>
  refine .inl ⟨r,?_,rfl⟩
  have e:dG c h=.inl r:=e
  unfold dG at e
  split at e
  ·cases e;rfl
  ·split at e
   ·cases e;rfl
   ·split at e
    ·cases e
    ·split at e<;>cases e
 | inr p=>exact .inr ⟨p.1,p.2,rfl⟩
theorem tf_K(who:Int)(c:Dir.Kc)(lv:Nat)(hl:lv≤3)(h:List Dir.Ent):Fun TC 93 60 [.d (al 2 aq h),bx ap,bx (.i .i64 who),bx (.i .i64 lv),bx (.i .u64 (ay c.key)),bx (thnK who c),mu] []
  60 (cl who (Dir.toH ae c lv h)) []:=by
 refine Fun.mk' Tryz.func93 rfl rfl zN (by decide) ?_
 (repeat' (first|((first|refine Wp.any ab rfl ?_|(with_reducible first|refine Go.mk ?_|apply am.of|refine Ov.ok zO ?_|refine aa.funM (fe _ _ (by omega) _ _ _ _ (by exact SV.Lt.of rfl)) rfl rfl ?_));conv=>whnf)))
 (refine af.sealM ?_);(conv=>whnf);(repeat' (first|exact zB9))
theorem tf_S(who:Int)(lv i:Nat)(hl:lv≤3)(hi:i<2^lv)(h:List Dir.Ent):Fun TC 87 60 [.d (al 2 aq h),bx ap,bx (.i .i64 who),bx (.i .i64 lv),bx (.i .i64 i),bx kr,mu] []
  60 (cl who (.sH lv i false h)) []:=by
 have hb:(2:Nat)^lv≤2^3:=Q16 (by omega) hl
 have e:Dir.plc (lv+1) (i:Int)=Dir.upW lv i false:=by rw[← jN hi];rfl
 refine Fun.mk' Tryz.func87 rfl rfl zN (by decide) ?_
 (repeat' (first|((first|refine Wp.any ab rfl ?_|(with_reducible first|refine Go.mk ?_|apply am.of|refine Ov.ok zO ?_|refine aa.funM (fe _ _ (by omega) _ _ _ _ (by exact SV.Lt.of rfl)) rfl rfl ?_));conv=>whnf)))
 rw[e]
 (refine af.sealM ?_);(conv=>whnf);(repeat' (first|exact zB9|((refine ak.ptrN rfl rfl ?_);(conv=>whnf))|((refine ak.fn ?_);(conv=>whnf))|((refine ak.iref ?_);(conv=>whnf))|((refine And.intro ?_ ?_)<;>(conv=>whnf))))
theorem move_I(who x y:Int)(hx:0≤x)(hx3:x≤3)(hy:0≤y)(hy2:y≤2^x.toNat):Fun TC 56 60 [ap,.i .i64 who,.i .i64 x,.i .i64 y,kr] [] 60 (cl who (Dir.move x.toNat y.toNat)) []:=by
 have e:((2^x.toNat:Nat):Int)=2^x.toNat:=by simp
 have:=sd who x.toNat y.toNat (by omega) (by omega)
 rwa [Int.toNat_of_nonneg hx,Int.toNat_of_nonneg hy]at this
theorem lH(xs:List Dir.Ent)(lv:Nat)(x:Int)(hlv:lv≤4)(hx:0≤x)(hl:xs.length≤16777216):Pure TC 25 [.d (al 2 aq xs),.i .i64 lv,.i .i64 x] (.d (al 2 aq (bM xs lv x.toNat))):=by
 have:=gi xs lv x.toNat hlv hl
 rwa [Int.toNat_of_nonneg hx]at this
theorem ent_1{c:Dir.Kc}{w:Nat}{v:Int}{h:List Dir.Ent}(hv:v=0∨4611686018427387904≤v):Dir.entered ae c w v h=(.k0 c,Dir.r0):=if_pos hv
theorem rn{c:Dir.Kc}{w:Nat}{v:Int}{h:List Dir.Ent}(hv:¬(v=0∨4611686018427387904≤v)):Dir.entered ae c w v h=Dir.found ae c w v h:=if_neg hv
theorem step_kE(hM:DOK who g M nl cnt)(c:Dir.Kc)(w:Nat)(hw:w<32)(hk:IsB c.key):Fun TC 121 5 [bx ap,bx (.i .i64 who),bx (.i .i64 w),bx (.i .u64 (ay c.key)),bx (thnK who c)] (aN g M nl f clk cnt)
  6 (.tup [cl who (Dir.step ae M (.kE c w)).2.1,di (Dir.step ae M (.kE c w)).2.2]) (iE g (Dir.step ae M (.kE c w)).1 nl f clk cnt (eY who 1 w (M.W w) 0 true)):=by
 have q0:=hM.w0;have q1:=hM.w1;have q2:=hM.nl;have q3:=hM.c0;have q4:=hM.c1;have q5:=hM.g;have q6:=hM.d0;have q7:=hM.d1;have q8:=hM.hd
 have qr:=QR q6
 have hF:=nJ who c w (M.W w) (M.Hd w) (q8 w).1 (q8 w).2 hk
 refine Fun.mk' Tryz.func121 rfl rfl zN (by decide) ?_
 rcases jc c w (M.W w) (M.Hd w)with⟨r,hr,e⟩|⟨m,n,e⟩
 all_goals
  rw[e]at hF
  (repeat' (first|((first|refine Wp.any ab rfl ?_|(with_reducible first|refine Go.mk ?_|apply am.of)|refine zV ?_);conv=>whnf)|((refine ai.new (be nl M.W M.Hd f clk cnt who w q2 q3 q4 q0 q1 hw) [1,2,3,4] [] rfl rfl rfl rfl rfl rfl ?ha ?hh ?hs ?_);(case ha=>exact zA);(case hh=>exact zH);(case hs=>exact zK);(conv=>whnf))|(with_reducible refine aa.inline Tryz.func95 rfl rfl rfl (zzb rfl) ?_)|((with_reducible first|refine ai.funM (fg _ _ _ _ (by exact SV.Lt.of rfl)) rfl rfl ?_|refine aa.funM hF rfl rfl ?_);conv=>whnf)|((refine au (fun hc=>?_) (fun hc=>?_))<;>(try simp only[wz9]at hc)<;>(try (exfalso;omega))<;>(conv=>whnf))))
 all_goals first
  | (rw[show Dir.step ae M (.kE c w)=(M,.k0 c,Dir.r0)from congrArg (Prod.mk M) (ent_1 (by omega))];(refine af.sealB [0,1,2,3,4,12] rfl rfl rfl ?_ ?_);(focus((conv=>whnf);(repeat' (first|exact zE|((refine ak.fn ?_);(conv=>whnf))|((refine ak.tup ?_);(conv=>whnf))|((refine ak.iref ?_);(conv=>whnf))|((refine And.intro ?_ ?_)<;>(conv=>whnf))))));(focus((conv=>whnf);(repeat' (first|exact zE|((refine And.intro ?_ ?_)<;>(conv=>whnf)))))))
  | (rw[show Dir.step ae M (.kE c w)=(M,.none,r)from congrArg (Prod.mk M) ((rn (by omega)).trans e)];(refine af.sealB [0,1,2,3,4,12] rfl rfl rfl ?_ ?_);(focus((conv=>whnf);(repeat' (first|exact zE))));(focus((conv=>whnf);(repeat' (first|exact zE|((refine And.intro ?_ ?_)<;>(conv=>whnf)))))))
  | (rw[show Dir.step ae M (.kE c w)=(M,.kS c w (M.W w) m n,Dir.r0)from congrArg (Prod.mk M) ((rn (by omega)).trans e)];(refine af.sealB [0,1,2,3,4,12] rfl rfl rfl ?_ ?_);(focus((conv=>whnf);(repeat' (first|exact zE|((refine ak.fn ?_);(conv=>whnf))|((refine ak.tup ?_);(conv=>whnf))|((refine ak.iref ?_);(conv=>whnf))|((refine And.intro ?_ ?_)<;>(conv=>whnf))))));(focus((conv=>whnf);(repeat' (first|exact zE|((refine And.intro ?_ ?_)<;>(conv=>whnf)))))))
theorem step_kF(hM:DOK who g M nl cnt)(c:Dir.Kc)(lv w:Nat)(hl:lv≤3)(hw:w<32):Fun TC 117 5 [bx ap,bx (.i .i64 who),bx (.i .i64 w),bx (tfK who c lv)] (aN g M nl f clk cnt)
  6 (.tup [cl who (Dir.step ae M (.kF c lv w)).2.1,di (Dir.step ae M (.kF c lv w)).2.2]) (iE g (Dir.step ae M (.kF c lv w)).1 nl f clk cnt (eY who 1 w (M.W w) 0 true)):=by
 have q0:=hM.w0;have q1:=hM.w1;have q2:=hM.nl;have q3:=hM.c0;have q4:=hM.c1;have q5:=hM.g;have q6:=hM.d0;have q7:=hM.d1;have q8:=hM.hd
 have qr:=QR q6
 refine Fun.mk' Tryz.func117 rfl rfl zN (by decide) ?_
 (repeat' (first|((first|refine Wp.any ab rfl ?_|(with_reducible first|refine Go.mk ?_|apply am.of)|refine zV ?_);conv=>whnf)|((refine ai.new (be nl M.W M.Hd f clk cnt who w q2 q3 q4 q0 q1 hw) [1,2,3,4] [] rfl rfl rfl rfl rfl rfl ?ha ?hh ?hs ?_);(case ha=>exact zA);(case hh=>exact zH);(case hs=>exact zK);(conv=>whnf))|((with_reducible refine ai.funM (tf_K who c lv hl _) rfl rfl ?_);conv=>whnf)|((refine au (fun hc=>?_) (fun hc=>?_))<;>(try simp only[wz9]at hc)<;>(try (exfalso;omega))<;>(conv=>whnf))))
 ·(rw[show Dir.step ae M (.kF c lv w)=(M,Dir.toH ae c lv (M.Hd w),Dir.r0)from(by simp only[Dir.step];rw[if_pos (by omega)])];(refine af.sealB [0,1,2,3,4,13] rfl rfl rfl ?_ ?_);(focus((conv=>whnf);(repeat' (first|exact zE|((refine ak.fn ?_);(conv=>whnf))|((refine ak.tup ?_);(conv=>whnf))|((refine ak.iref ?_);(conv=>whnf))|((refine And.intro ?_ ?_)<;>(conv=>whnf))))));(focus((conv=>whnf);(repeat' (first|exact zE|((refine And.intro ?_ ?_)<;>(conv=>whnf)))))))
 ·(rw[show Dir.step ae M (.kF c lv w)=(M,.kG c lv w (M.W w) (M.Hd w),Dir.r0)from(by simp only[Dir.step];rw[if_neg (by omega)])];(refine af.sealB [0,1,2,3,4,13] rfl rfl rfl ?_ ?_);(focus((conv=>whnf);(repeat' (first|exact zE|((refine ak.ptr rfl rfl ?_);(conv=>whnf))|((refine ak.fn ?_);(conv=>whnf))|((refine ak.tup ?_);(conv=>whnf))|((refine ak.iref ?_);(conv=>whnf))|((refine And.intro ?_ ?_)<;>(conv=>whnf))))));(focus((conv=>whnf);(repeat' (first|exact zE|((refine And.intro ?_ ?_)<;>(conv=>whnf)))))))
theorem step_sF(hM:DOK who g M nl cnt)(lv i:Nat)(hl:lv≤3)(hi:i<2^lv):Fun TC 117 5 [bx ap,bx (.i .i64 who),bx (.i .i64 ((2^lv+i:Nat):Int)),bx (tfS who lv i)] (aN g M nl f clk cnt)
  6 (.tup [cl who (Dir.step ae M (.sF lv i)).2.1,di (Dir.step ae M (.sF lv i)).2.2]) (iE g (Dir.step ae M (.sF lv i)).1 nl f clk cnt (eY who 1 ((2^lv+i:Nat):Int) (M.W (2^lv+i)) 0 true)):=by
 have q0:=hM.w0;have q1:=hM.w1;have q2:=hM.nl;have q3:=hM.c0;have q4:=hM.c1;have q5:=hM.g;have q6:=hM.d0;have q7:=hM.d1;have q8:=hM.hd
 have qr:=QR q6
 have hw:=(Dir.sh_16 hl hi).2
 refine Fun.mk' Tryz.func117 rfl rfl zN (by decide) ?_
 (repeat' (first|((first|refine Wp.any ab rfl ?_|(with_reducible first|refine Go.mk ?_|apply am.of)|refine zV ?_);conv=>whnf)|((refine ai.new (be nl M.W M.Hd f clk cnt who (2^lv+i) q2 q3 q4 q0 q1 (by omega)) [1,2,3,4] [] rfl rfl rfl rfl rfl rfl ?ha ?hh ?hs ?_);(case ha=>exact zA);(case hh=>exact zH);(case hs=>exact zK);(conv=>whnf))|((with_reducible refine ai.funM (tf_S who lv i hl hi _) rfl rfl ?_);conv=>whnf)|((refine au (fun hc=>?_) (fun hc=>?_))<;>(try simp only[wz9]at hc)<;>(try (exfalso;omega))<;>(conv=>whnf))))
 ·(rw[show Dir.step ae M (.sF lv i)=(M,.sH lv i false (M.Hd (2^lv+i)),Dir.r0)from(by simp only[Dir.step];rw[if_pos (by omega)])];(refine af.sealB [0,1,2,3,4,13] rfl rfl rfl ?_ ?_);(focus((conv=>whnf);(repeat' (first|exact zE|((refine ak.fn ?_);(conv=>whnf))|((refine ak.tup ?_);(conv=>whnf))|((refine ak.iref ?_);(conv=>whnf))|((refine And.intro ?_ ?_)<;>(conv=>whnf))))));(focus((conv=>whnf);(repeat' (first|exact zE|((refine And.intro ?_ ?_)<;>(conv=>whnf)))))))
 ·(rw[show Dir.step ae M (.sF lv i)=(M,.sG lv i (M.W (2^lv+i)) (M.Hd (2^lv+i)),Dir.r0)from(by simp only[Dir.step];rw[if_neg (by omega)])];(refine af.sealB [0,1,2,3,4,13] rfl rfl rfl ?_ ?_);(focus((conv=>whnf);(repeat' (first|exact zE|((refine ak.ptr rfl rfl ?_);(conv=>whnf))|((refine ak.fn ?_);(conv=>whnf))|((refine ak.tup ?_);(conv=>whnf))|((refine ak.iref ?_);(conv=>whnf))|((refine And.intro ?_ ?_)<;>(conv=>whnf))))));(focus((conv=>whnf);(repeat' (first|exact zE|((refine And.intro ?_ ?_)<;>(conv=>whnf)))))))
end
section
variable{who:Int}{g:Nat→SV}{M:Dir.Mc}{nl:Nat}{f:Nat→List D}{clk cnt:Int}
theorem step_kG(hM:DOK who g M nl cnt)(c:Dir.Kc)(lv w:Nat)(v:Int)(h:List Dir.Ent)(hl:lv≤3)(hw:w<32)(hv0:0≤v)(hv:v<4611686018427387904):Fun TC 118 5 [bx ap,bx (.i .i64 who),bx (.i .i64 w),bx (.i .u64 v),bx (.d (al 2 aq h)),bx (tfK who c lv),mu] (aN g M nl f clk cnt)
  6 (.tup [cl who (Dir.step ae M (.kG c lv w v h)).2.1,di (Dir.step ae M (.kG c lv w v h)).2.2]) (iE g (Dir.step ae M (.kG c lv w v h)).1 nl f clk cnt (eY who 2 w v (v+4611686018427387904) (decide (M.W w=v)))):=by
 have q0:=hM.w0;have q1:=hM.w1;have q2:=hM.nl;have q3:=hM.c0;have q4:=hM.c1;have q5:=hM.g;have q6:=hM.d0;have q7:=hM.d1;have q8:=hM.hd
 have qr:=QR q6
 refine Fun.mk' Tryz.func118 rfl rfl zN (by decide) ?_
 (repeat' (first|((first|refine Wp.any ab rfl ?_|(with_reducible first|refine Go.mk ?_|apply am.of|refine Ov.ok zO ?_)|refine zV ?_);conv=>whnf)|((refine ai.new (aZ nl M.W M.Hd f clk cnt who v (v+4611686018427387904) w h q2 q3 q4 q0 q1 hw) [1,2,3,4] [] rfl rfl rfl rfl rfl rfl ?ha ?hh ?hs ?_);(case ha=>exact zA);(case hh=>exact zH);(case hs=>exact zK);(conv=>whnf))|((with_reducible first|refine ai.funM (dd _ _ _ _ (by exact SV.Lt.of rfl)) rfl rfl ?_|refine ai.funM (tf_K who c lv hl _) rfl rfl ?_);conv=>whnf)|((refine au (fun hc=>?_) (fun hc=>?_))<;>(try simp only[wz9]at hc)<;>(try (exfalso;omega))<;>(conv=>whnf))))
 ·(rw[show Dir.step ae M (.kG c lv w v h)=(M,.kF c lv w,Dir.r0)from(by simp only[Dir.step];rw[if_neg (by assumption)])];(refine af.sealB [0,1,2,3,4,16] rfl rfl rfl ?_ ?_);(focus((conv=>whnf);(repeat' (first|exact zE|((refine ak.fn ?_);(conv=>whnf))|((refine ak.tup ?_);(conv=>whnf))|((refine ak.iref ?_);(conv=>whnf))|((refine And.intro ?_ ?_)<;>(conv=>whnf))))));(focus((conv=>whnf);(repeat' (first|exact zE|((refine And.intro ?_ ?_)<;>(conv=>whnf))));all_goals(intro i hi;refine bX.of ?_;dsimp only;first|(rw[if_neg (by assumption)];done)|(rw[if_pos (by assumption)];rfl)))))
 ·(rw[show Dir.step ae M (.kG c lv w v h)=(M.set w (v+Dir.FZ) h,Dir.toH ae c lv h,Dir.r0)from(by simp only[Dir.step];rw[if_pos (by assumption)])];(refine af.sealB [0,1,2,3,4,16] rfl rfl rfl ?_ ?_);(focus((conv=>whnf);(repeat' (first|exact zE|((refine ak.fn ?_);(conv=>whnf))|((refine ak.tup ?_);(conv=>whnf))|((refine ak.iref ?_);(conv=>whnf))|((refine And.intro ?_ ?_)<;>(conv=>whnf))))));(focus((conv=>whnf);(repeat' (first|exact zE|((refine And.intro ?_ ?_)<;>(conv=>whnf))));all_goals(intro i hi;refine bX.of ?_;dsimp only;first|(rw[if_neg (by assumption)];done)|(rw[if_pos (by assumption)];rfl)))))
theorem step_sG(hM:DOK who g M nl cnt)(lv i:Nat)(v:Int)(h:List Dir.Ent)(hl:lv≤3)(hi:i<2^lv)(hv0:0≤v)(hv:v<4611686018427387904):Fun TC 118 5 [bx ap,bx (.i .i64 who),bx (.i .i64 ((2^lv+i:Nat):Int)),bx (.i .u64 v),bx (.d (al 2 aq h)),bx (tfS who lv i),mu] (aN g M nl f clk cnt)
  6 (.tup [cl who (Dir.step ae M (.sG lv i v h)).2.1,di (Dir.step ae M (.sG lv i v h)).2.2]) (iE g (Dir.step ae M (.sG lv i v h)).1 nl f clk cnt (eY who 2 ((2^lv+i:Nat):Int) v (v+4611686018427387904) (decide (M.W (2^lv+i)=v)))):=by
 have q0:=hM.w0;have q1:=hM.w1;have q2:=hM.nl;have q3:=hM.c0;have q4:=hM.c1;have q5:=hM.g;have q6:=hM.d0;have q7:=hM.d1;have q8:=hM.hd
 have qr:=QR q6
 have hw:=(Dir.sh_16 hl hi).2
 refine Fun.mk' Tryz.func118 rfl rfl zN (by decide) ?_
 (repeat' (first|((first|refine Wp.any ab rfl ?_|(with_reducible first|refine Go.mk ?_|apply am.of|refine Ov.ok zO ?_)|refine zV ?_);conv=>whnf)|((refine ai.new (aZ nl M.W M.Hd f clk cnt who v (v+4611686018427387904) (2^lv+i) h q2 q3 q4 q0 q1 (by omega)) [1,2,3,4] [] rfl rfl rfl rfl rfl rfl ?ha ?hh ?hs ?_);(case ha=>exact zA);(case hh=>exact zH);(case hs=>exact zK);(conv=>whnf))|((with_reducible first|refine ai.funM (dd _ _ _ _ (by exact SV.Lt.of rfl)) rfl rfl ?_|refine ai.funM (tf_S who lv i hl hi _) rfl rfl ?_);conv=>whnf)|((refine au (fun hc=>?_) (fun hc=>?_))<;>(try simp only[wz9]at hc)<;>(try (exfalso;omega))<;>(conv=>whnf))))
 ·(rw[show Dir.step ae M (.sG lv i v h)=(M,.sF lv i,Dir.r0)from(by simp only[Dir.step];rw[if_neg (by assumption)])];(refine af.sealB [0,1,2,3,4,16] rfl rfl rfl ?_ ?_);(focus((conv=>whnf);(repeat' (first|exact zE|((refine ak.fn ?_);(conv=>whnf))|((refine ak.tup ?_);(conv=>whnf))|((refine ak.iref ?_);(conv=>whnf))|((refine And.intro ?_ ?_)<;>(conv=>whnf))))));(focus((conv=>whnf);(repeat' (first|exact zE|((refine And.intro ?_ ?_)<;>(conv=>whnf))));all_goals(intro i hi;refine bX.of ?_;dsimp only;first|(rw[if_neg (by assumption)];done)|(rw[if_pos (by assumption)];rfl)))))
 ·(rw[show Dir.step ae M (.sG lv i v h)=(M.set (2^lv+i) (v+Dir.FZ) h,.sH lv i false h,Dir.r0)from(by simp only[Dir.step];rw[if_pos (by assumption)])];(refine af.sealB [0,1,2,3,4,16] rfl rfl rfl ?_ ?_);(focus((conv=>whnf);(repeat' (first|exact zE|((refine ak.fn ?_);(conv=>whnf))|((refine ak.tup ?_);(conv=>whnf))|((refine ak.iref ?_);(conv=>whnf))|((refine And.intro ?_ ?_)<;>(conv=>whnf))))));(focus((conv=>whnf);(repeat' (first|exact zE|((refine And.intro ?_ ?_)<;>(conv=>whnf))));all_goals(intro i hi;refine bX.of ?_;dsimp only;first|(rw[if_neg (by assumption)];done)|(rw[if_pos (by assumption)];rfl)))))
theorem step_kH(hM:DOK who g M nl cnt)(c:Dir.Kc)(lv w:Nat)(h:List Dir.Ent)(hw:w<32)(hk:IsB c.key):Fun TC 119 5 [bx ap,bx (.i .i64 who),bx (.i .i64 w),bx (thK who c),bx (.d (al 2 aq h)),bx (.i .i64 lv)] (aN g M nl f clk cnt)
  6 (.tup [cl who (Dir.step ae M (.kH c lv w h)).2.1,di (Dir.step ae M (.kH c lv w h)).2.2]) (iE g (Dir.step ae M (.kH c lv w h)).1 nl f clk cnt (eY who 1 w (M.W w) 0 true)):=by
 have q0:=hM.w0;have q1:=hM.w1;have q2:=hM.nl;have q3:=hM.c0;have q4:=hM.c1;have q5:=hM.g;have q6:=hM.d0;have q7:=hM.d1;have q8:=hM.hd
 have qr:=QR q6
 have hF:=nJ who c w (M.W w) (M.Hd w) (q8 w).1 (q8 w).2 hk
 refine Fun.mk' Tryz.func119 rfl rfl zN (by decide) ?_
 rcases jc c w (M.W w) (M.Hd w)with⟨r,hr,e⟩|⟨m,n,e⟩
 all_goals
  rw[e]at hF
  (repeat' (first|((first|refine Wp.any ab rfl ?_|(with_reducible first|refine Go.mk ?_|apply am.of)|refine zV ?_);conv=>whnf)|((refine ai.new (be nl M.W M.Hd f clk cnt who w q2 q3 q4 q0 q1 hw) [1,2,3,4] [] rfl rfl rfl rfl rfl rfl ?ha ?hh ?hs ?_);(case ha=>exact zA);(case hh=>exact zH);(case hs=>exact zK);(conv=>whnf))|(with_reducible refine aa.inline Tryz.func94 rfl rfl rfl (zzb rfl) ?_)|(with_reducible refine aa.inline Tryz.func95 rfl rfl rfl (zzb rfl) ?_)|((with_reducible first|refine ai.funM (fg _ _ _ _ (by exact SV.Lt.of rfl)) rfl rfl ?_|refine aa.funM hF rfl rfl ?_);conv=>whnf)|((refine au (fun hc=>?_) (fun hc=>?_))<;>(try simp only[wz9]at hc)<;>(try (exfalso;omega))<;>(conv=>whnf))))
 all_goals first
  | (rw[show Dir.step ae M (.kH c lv w h)=(M,.kL c lv w h,Dir.r0)from(by simp only[Dir.step];rw[if_pos (by omega)])];(refine af.sealB [0,1,2,3,4,12] rfl rfl rfl ?_ ?_);(focus((conv=>whnf);(repeat' (first|exact zE|((refine ak.ptr rfl rfl ?_);(conv=>whnf))|((refine ak.fn ?_);(conv=>whnf))|((refine ak.tup ?_);(conv=>whnf))|((refine ak.iref ?_);(conv=>whnf))|((refine And.intro ?_ ?_)<;>(conv=>whnf))))));(focus((conv=>whnf);(repeat' (first|exact zE|((refine And.intro ?_ ?_)<;>(conv=>whnf))));all_goals(intro i hi;refine bX.of ?_;dsimp only;first|(rw[if_neg (by assumption)];done)|(rw[if_pos (by assumption)];rfl)))))
  | (rw[show Dir.step ae M (.kH c lv w h)=(M,.k0 c,Dir.r0)from(by simp only[Dir.step];rw[if_neg (by omega),ent_1 (by omega)])];(refine af.sealB [0,1,2,3,4,12] rfl rfl rfl ?_ ?_);(focus((conv=>whnf);(repeat' (first|exact zE|((refine ak.fn ?_);(conv=>whnf))|((refine ak.tup ?_);(conv=>whnf))|((refine ak.iref ?_);(conv=>whnf))|((refine And.intro ?_ ?_)<;>(conv=>whnf))))));(focus((conv=>whnf);(repeat' (first|exact zE|((refine And.intro ?_ ?_)<;>(conv=>whnf))));all_goals(intro i hi;refine bX.of ?_;dsimp only;first|(rw[if_neg (by assumption)];done)|(rw[if_pos (by assumption)];rfl)))))
  | (rw[show Dir.step ae M (.kH c lv w h)=(M,.none,r)from(by simp only[Dir.step];rw[if_neg (by omega),rn (by omega),e])];(refine af.sealB [0,1,2,3,4,12] rfl rfl rfl ?_ ?_);(focus((conv=>whnf);(repeat' (first|exact zE))));(focus((conv=>whnf);(repeat' (first|exact zE|((refine And.intro ?_ ?_)<;>(conv=>whnf))));all_goals(intro i hi;refine bX.of ?_;dsimp only;first|(rw[if_neg (by assumption)];done)|(rw[if_pos (by assumption)];rfl)))))
  | (rw[show Dir.step ae M (.kH c lv w h)=(M,.kS c w (M.W w) m n,Dir.r0)from(by simp only[Dir.step];rw[if_neg (by omega),rn (by omega),e])];(refine af.sealB [0,1,2,3,4,12] rfl rfl rfl ?_ ?_);(focus((conv=>whnf);(repeat' (first|exact zE|((refine ak.fn ?_);(conv=>whnf))|((refine ak.tup ?_);(conv=>whnf))|((refine ak.iref ?_);(conv=>whnf))|((refine And.intro ?_ ?_)<;>(conv=>whnf))))));(focus((conv=>whnf);(repeat' (first|exact zE|((refine And.intro ?_ ?_)<;>(conv=>whnf))));all_goals(intro i hi;refine bX.of ?_;dsimp only;first|(rw[if_neg (by assumption)];done)|(rw[if_pos (by assumption)];rfl)))))
end
section
variable{who:Int}{g:Nat→SV}{M:Dir.Mc}{nl:Nat}{f:Nat→List D}{clk cnt:Int}
theorem rO{lv i:Nat}{up:Bool}(hl:lv≤3)(hi:i<2^lv):2^(lv+1)≤Dir.upW lv i up∧Dir.upW lv i up<32:=by
 obtain⟨j,h1,h2,_⟩:=Dir.upW_sh (up:=up) hi
 have:=Dir.sh_32 (by omega:lv+1≤4) h1
 omega
theorem sb(who:Int)(lv i:Nat)(hl:lv≤3)(hi:i<2^lv):Fun TC 56 60 [ap,.i .i64 who,.i .i64 lv,.i .i64 ((i:Int)+1),kr] [] 60 (cl who (Dir.move lv (i+1))) []:=sd who lv (i+1) hl (by omega)
theorem lg(lv i:Nat):Dir.move lv i=.sV lv∨Dir.move lv i=.sF lv i:=by unfold Dir.move;split<;>simp
theorem step_sH(hM:DOK who g M nl cnt)(lv i:Nat)(up:Bool)(h:List Dir.Ent)(hl:lv≤3)(hi:i<2^lv):Fun TC 119 5 [bx ap,bx (.i .i64 who),bx (.i .i64 (Dir.upW lv i up)),bx (thS who lv i up h),bx (.d (al 2 aq h)),bx (.i .i64 ((lv+1:Nat):Int))] (aN g M nl f clk cnt)
  6 (.tup [cl who (Dir.step ae M (.sH lv i up h)).2.1,di (Dir.step ae M (.sH lv i up h)).2.2]) (iE g (Dir.step ae M (.sH lv i up h)).1 nl f clk cnt (eY who 1 (Dir.upW lv i up) (M.W (Dir.upW lv i up)) 0 true)):=by
 have q0:=hM.w0;have q1:=hM.w1;have q2:=hM.nl;have q3:=hM.c0;have q4:=hM.c1;have q5:=hM.g;have q6:=hM.d0;have q7:=hM.d1;have q8:=hM.hd
 have qr:=QR q6
 have hw:=(rO (up:=up) hl hi).2
 have hb:(2:Nat)^lv≤2^3:=Q16 (by omega) hl
 have e1:=bQ (show lv≤4 by omega)
 have e2:((2^lv:Nat):Int)=2^lv:=by simp
 cases up with
 | false =>
  have e3:Dir.plc (lv+1) ((i:Int)+2^lv)=Dir.upW lv i true:=by rw[← jN hi];rfl
  refine Fun.mk' Tryz.func119 rfl rfl zN (by decide) ?_
  (repeat' (first|((first|refine Wp.any ab rfl ?_|(with_reducible first|refine Go.mk ?_|apply am.of|refine Ov.ok zO ?_)|refine zV ?_|with_reducible refine And.intro zC ?_);conv=>whnf)|((refine ai.new (be nl M.W M.Hd f clk cnt who (Dir.upW lv i false) q2 q3 q4 q0 q1 hw) [1,2,3,4] [] rfl rfl rfl rfl rfl rfl ?ha ?hh ?hs ?_);(case ha=>exact zA);(case hh=>exact zH);(case hs=>exact zK);(conv=>whnf))|(with_reducible refine aa.inline Tryz.func89 rfl rfl rfl (zzb rfl) ?_)|((with_reducible refine ai.funM (fe _ _ (by omega) _ _ _ _ (by exact SV.Lt.of rfl)) rfl rfl ?_);conv=>whnf)|((refine au (fun hc=>?_) (fun hc=>?_))<;>(try simp only[wz9]at hc)<;>(try (exfalso;omega))<;>(conv=>whnf))))
  ·rw[e1,e3]
   (rw[show Dir.step ae M (.sH lv i false h)=(M,.sH lv i true h,Dir.r0)from(by simp only[Dir.step,Dir.on];rw[if_neg (by assumption),if_neg (by decide)])];(refine af.sealB [0,1,2,3,4,12] rfl rfl rfl ?_ ?_);(focus((conv=>whnf);(repeat' (first|exact zE|((refine ak.fn ?_);(conv=>whnf))|((refine ak.tup ?_);(conv=>whnf))|((refine ak.iref ?_);(conv=>whnf))|((refine And.intro ?_ ?_)<;>(conv=>whnf))))));(focus((conv=>whnf);(repeat' (first|exact zE|((refine And.intro ?_ ?_)<;>(conv=>whnf))));all_goals(intro i hi;refine bX.of ?_;dsimp only;first|(rw[if_neg (by assumption)];done)|(rw[if_pos (by assumption)];rfl)))))
  ·(rw[show Dir.step ae M (.sH lv i false h)=(M,.sL lv i false h,Dir.r0)from(by simp only[Dir.step];rw[if_pos (by assumption)])];(refine af.sealB [0,1,2,3,4,12] rfl rfl rfl ?_ ?_);(focus((conv=>whnf);(repeat' (first|exact zE|((refine ak.ptr rfl rfl ?_);(conv=>whnf))|((refine ak.fn ?_);(conv=>whnf))|((refine ak.tup ?_);(conv=>whnf))|((refine ak.iref ?_);(conv=>whnf))|((refine And.intro ?_ ?_)<;>(conv=>whnf))))));(focus((conv=>whnf);(repeat' (first|exact zE|((refine And.intro ?_ ?_)<;>(conv=>whnf))));all_goals(intro i hi;refine bX.of ?_;dsimp only;first|(rw[if_neg (by assumption)];done)|(rw[if_pos (by assumption)];rfl)))))
 | true =>
  have hM2:=sb who lv i hl hi
  rcases lg lv (i+1)with hmv|hmv
  all_goals rw[hmv]at hM2
  all_goals refine Fun.mk' Tryz.func119 rfl rfl zN (by decide) ?_
  all_goals(repeat' (first|((first|refine Wp.any ab rfl ?_|(with_reducible first|refine Go.mk ?_|apply am.of|refine Ov.ok zO ?_)|refine zV ?_);conv=>whnf)|((refine ai.new (be nl M.W M.Hd f clk cnt who (Dir.upW lv i true) q2 q3 q4 q0 q1 hw) [1,2,3,4] [] rfl rfl rfl rfl rfl rfl ?ha ?hh ?hs ?_);(case ha=>exact zA);(case hh=>exact zH);(case hs=>exact zK);(conv=>whnf))|(with_reducible refine aa.inline Tryz.func90 rfl rfl rfl (zzb rfl) ?_)|((with_reducible refine ai.funM hM2 rfl rfl ?_);conv=>whnf)|((refine au (fun hc=>?_) (fun hc=>?_))<;>(try simp only[wz9]at hc)<;>(try (exfalso;omega))<;>(conv=>whnf))))
  all_goals first
   | (rw[show Dir.step ae M (.sH lv i true h)=(M,.sL lv i true h,Dir.r0)from(by simp only[Dir.step];rw[if_pos (by assumption)])];(refine af.sealB [0,1,2,3,4,12] rfl rfl rfl ?_ ?_);(focus((conv=>whnf);(repeat' (first|exact zE|((refine ak.ptr rfl rfl ?_);(conv=>whnf))|((refine ak.fn ?_);(conv=>whnf))|((refine ak.tup ?_);(conv=>whnf))|((refine ak.iref ?_);(conv=>whnf))|((refine And.intro ?_ ?_)<;>(conv=>whnf))))));(focus((conv=>whnf);(repeat' (first|exact zE|((refine And.intro ?_ ?_)<;>(conv=>whnf))));all_goals(intro i hi;refine bX.of ?_;dsimp only;first|(rw[if_neg (by assumption)];done)|(rw[if_pos (by assumption)];rfl)))))
   | (rw[show Dir.step ae M (.sH lv i true h)=(M,.sV lv,Dir.r0)from(by simp only[Dir.step,Dir.on];rw[if_neg (by assumption),if_pos trivial,hmv])];(refine af.sealB [0,1,2,3,4,12] rfl rfl rfl ?_ ?_);(focus((conv=>whnf);(repeat' (first|exact zE|((refine ak.fn ?_);(conv=>whnf))|((refine ak.tup ?_);(conv=>whnf))|((refine ak.iref ?_);(conv=>whnf))|((refine And.intro ?_ ?_)<;>(conv=>whnf))))));(focus((conv=>whnf);(repeat' (first|exact zE|((refine And.intro ?_ ?_)<;>(conv=>whnf))));all_goals(intro i hi;refine bX.of ?_;dsimp only;first|(rw[if_neg (by assumption)];done)|(rw[if_pos (by assumption)];rfl)))))
   | (rw[show Dir.step ae M (.sH lv i true h)=(M,.sF lv (i+1),Dir.r0)from(by simp only[Dir.step,Dir.on];rw[if_neg (by assumption),if_pos trivial,hmv])];(refine af.sealB [0,1,2,3,4,12] rfl rfl rfl ?_ ?_);(focus((conv=>whnf);(repeat' (first|exact zE|((refine ak.fn ?_);(conv=>whnf))|((refine ak.tup ?_);(conv=>whnf))|((refine ak.iref ?_);(conv=>whnf))|((refine And.intro ?_ ?_)<;>(conv=>whnf))))));(focus((conv=>whnf);(repeat' (first|exact zE|((refine And.intro ?_ ?_)<;>(conv=>whnf))));all_goals(intro i hi;refine bX.of ?_;dsimp only;first|(rw[if_neg (by assumption)];done)|(rw[if_pos (by assumption)];rfl)))))
end
section
variable{who:Int}{g:Nat→SV}{M:Dir.Mc}{nl:Nat}{f:Nat→List D}{clk cnt:Int}
theorem rV{lv:Nat}(hl:lv≤4):(2:Int)^lv≤16∧(0:Int)<2^lv:=by
 have hlv:lv=0∨lv=1∨lv=2∨lv=3∨lv=4:=by omega
 rcases hlv with rfl|rfl|rfl|rfl|rfl<;>decide
theorem step_kL(hM:DOK who g M nl cnt)(c:Dir.Kc)(lv w:Nat)(h:List Dir.Ent)(hl:lv≤4)(hw2:2^lv≤w)(hw:w<32)(hh:HOK h):Fun TC 120 5 [bx ap,bx (.i .i64 who),bx (.i .i64 w),bx (.d (al 2 aq h)),bx (.i .i64 lv),bx (thK who c),bx .any] (aN g M nl f clk cnt)
  6 (.tup [cl who (Dir.step ae M (.kL c lv w h)).2.1,di (Dir.step ae M (.kL c lv w h)).2.2]) (iE g (Dir.step ae M (.kL c lv w h)).1 nl f clk cnt (eY who 2 w 0 1 (decide (M.W w=0)))):=by
 have q0:=hM.w0;have q1:=hM.w1;have q2:=hM.nl;have q3:=hM.c0;have q4:=hM.c1;have q5:=hM.g;have q6:=hM.d0;have q7:=hM.d1;have q8:=hM.hd
 have qr:=QR q6
 have e1:=bQ hl
 have e2:((2^lv:Nat):Int)=2^lv:=by simp
 have hb:(2:Nat)^lv≤2^4:=Q16 (by omega) hl
 have e3:((w:Int)-IntKind.i64.wrap (1*2^min ((lv:Nat):Int).toNat IntKind.i64.bits)).toNat=w-2^lv:=by rw[e1];omega
 have hC:=lH h lv ((w:Int)-IntKind.i64.wrap (1*2^min ((lv:Nat):Int).toNat IntKind.i64.bits)) hl (by rw[e1];omega) (by have:=hh.1;omega)
 rw[e3]at hC
 have hov:IntKind.i64.wrap ((w:Int)-IntKind.i64.wrap (1*2^min ((lv:Nat):Int).toNat IntKind.i64.bits))=(w:Int)-IntKind.i64.wrap (1*2^min ((lv:Nat):Int).toNat IntKind.i64.bits):=IntWalk.i64_in _ (by have e4:=rV hl;rw[e1];omega)
 refine Fun.mk' Tryz.func120 rfl rfl zN (by decide) ?_
 (repeat' (first|((first|refine Wp.any ab rfl ?_|(with_reducible first|refine Go.mk ?_|apply am.of)|refine zV ?_|(with_reducible first|refine And.intro zC ?_|refine Ov.ok hov ?_|refine ai.pure (hC) rfl rfl ?_));conv=>whnf)|((refine ai.new (aZ nl M.W M.Hd f clk cnt who 0 1 w (bM h lv (w-2^lv)) q2 q3 q4 q0 q1 hw) [1,2,3,4] [] rfl rfl rfl rfl rfl rfl ?ha ?hh ?hs ?_);(case ha=>exact zA);(case hh=>exact zH);(case hs=>exact zK);(conv=>whnf))|(with_reducible refine aa.inline Tryz.func94 rfl rfl rfl (zzb rfl) ?_)|((with_reducible refine ai.funM (jp _ _ _ _ _ (by exact SV.Lt.of rfl)) rfl rfl ?_);conv=>whnf)))
 by_cases hm:M.W w=0
 ·(rw[show Dir.step ae M (.kL c lv w h)=(M.set w 1 (bM h lv (w-2^lv)),.kE c w,Dir.r0)from(by simp only[Dir.step];rw[if_pos hm];rfl)];(refine af.sealB [0,1,2,3,4,23] rfl rfl rfl ?_ ?_);(focus((conv=>whnf);(repeat' (first|exact zE|((refine ak.fn ?_);(conv=>whnf))|((refine ak.tup ?_);(conv=>whnf))|((refine ak.iref ?_);(conv=>whnf))|((refine And.intro ?_ ?_)<;>(conv=>whnf))))));(focus((conv=>whnf);(repeat' (first|exact zE|((refine And.intro ?_ ?_)<;>(conv=>whnf))));all_goals(intro i hi;refine bX.of ?_;dsimp only;first|(rw[if_neg (by assumption)];done)|(rw[if_pos (by assumption)];rfl)))))
 ·(rw[show Dir.step ae M (.kL c lv w h)=(M,.kE c w,Dir.r0)from(by simp only[Dir.step];rw[if_neg hm])];(refine af.sealB [0,1,2,3,4,23] rfl rfl rfl ?_ ?_);(focus((conv=>whnf);(repeat' (first|exact zE|((refine ak.fn ?_);(conv=>whnf))|((refine ak.tup ?_);(conv=>whnf))|((refine ak.iref ?_);(conv=>whnf))|((refine And.intro ?_ ?_)<;>(conv=>whnf))))));(focus((conv=>whnf);(repeat' (first|exact zE|((refine And.intro ?_ ?_)<;>(conv=>whnf))));all_goals(intro i hi;refine bX.of ?_;dsimp only;first|(rw[if_neg (by assumption)];done)|(rw[if_pos (by assumption)];rfl)))))
theorem step_sL(hM:DOK who g M nl cnt)(lv i:Nat)(up:Bool)(h:List Dir.Ent)(hl:lv≤3)(hi:i<2^lv)(hh:HOK h):Fun TC 120 5 [bx ap,bx (.i .i64 who),bx (.i .i64 (Dir.upW lv i up)),bx (.d (al 2 aq h)),bx (.i .i64 ((lv+1:Nat):Int)),bx (thS who lv i up h),bx .any] (aN g M nl f clk cnt)
  6 (.tup [cl who (Dir.step ae M (.sL lv i up h)).2.1,di (Dir.step ae M (.sL lv i up h)).2.2]) (iE g (Dir.step ae M (.sL lv i up h)).1 nl f clk cnt (eY who 2 (Dir.upW lv i up) 0 1 (decide (M.W (Dir.upW lv i up)=0)))):=by
 have q0:=hM.w0;have q1:=hM.w1;have q2:=hM.nl;have q3:=hM.c0;have q4:=hM.c1;have q5:=hM.g;have q6:=hM.d0;have q7:=hM.d1;have q8:=hM.hd
 have qr:=QR q6
 obtain⟨hw2,hw⟩:=rO (up:=up) hl hi
 have f1:=bQ (show lv+1≤4 by omega)
 have f2:((2^(lv+1):Nat):Int)=2^(lv+1):=by simp
 have f4:=rV (show lv+1≤4 by omega)
 have f3:((Dir.upW lv i up:Int)-IntKind.i64.wrap (1*2^min ((lv+1:Nat):Int).toNat IntKind.i64.bits)).toNat=Dir.upW lv i up-2^(lv+1):=by rw[f1];omega
 have hC:=lH h (lv+1) ((Dir.upW lv i up:Int)-IntKind.i64.wrap (1*2^min ((lv+1:Nat):Int).toNat IntKind.i64.bits)) (by omega) (by rw[f1];omega) (by have:=hh.1;omega)
 rw[f3]at hC
 have hov:IntKind.i64.wrap ((Dir.upW lv i up:Int)-IntKind.i64.wrap (1*2^min ((lv+1:Nat):Int).toNat IntKind.i64.bits))=(Dir.upW lv i up:Int)-IntKind.i64.wrap (1*2^min ((lv+1:Nat):Int).toNat IntKind.i64.bits):=IntWalk.i64_in _ (by rw[f1];omega)
 clear f1 f2 f3 f4
 have hb:(2:Nat)^lv≤2^3:=Q16 (by omega) hl
 have e1:=bQ (show lv≤4 by omega)
 have e2:((2^lv:Nat):Int)=2^lv:=by simp
 cases up with
 | false =>
  have e3:Dir.plc (lv+1) ((i:Int)+2^lv)=Dir.upW lv i true:=by rw[← jN hi];rfl
  refine Fun.mk' Tryz.func120 rfl rfl zN (by decide) ?_
  (repeat' (first|((first|refine Wp.any ab rfl ?_|(with_reducible first|refine Go.mk ?_|apply am.of|refine Ov.ok zO ?_)|refine zV ?_|(with_reducible first|refine And.intro zC ?_|refine Ov.ok hov ?_|refine ai.pure (hC) rfl rfl ?_));conv=>whnf)|((refine ai.new (aZ nl M.W M.Hd f clk cnt who 0 1 (Dir.upW lv i false) (bM h (lv+1) (Dir.upW lv i false-2^(lv+1))) q2 q3 q4 q0 q1 hw) [1,2,3,4] [] rfl rfl rfl rfl rfl rfl ?ha ?hh ?hs ?_);(case ha=>exact zA);(case hh=>exact zH);(case hs=>exact zK);(conv=>whnf))|(with_reducible refine aa.inline Tryz.func89 rfl rfl rfl (zzb rfl) ?_)|((with_reducible refine ai.funM (fe _ _ (by omega) _ _ _ _ (by exact SV.Lt.of rfl)) rfl rfl ?_);conv=>whnf)))
  rw[e1,e3]
  by_cases hm:M.W (Dir.upW lv i false)=0
  ·(rw[show Dir.step ae M (.sL lv i false h)=(M.set (Dir.upW lv i false) 1 (bM h (lv+1) (Dir.upW lv i false-2^(lv+1))),.sH lv i true h,Dir.r0)from(by simp only[Dir.step,Dir.on];rw[if_pos hm,if_neg (by decide)];rfl)];(refine af.sealB [0,1,2,3,4,23] rfl rfl rfl ?_ ?_);(focus((conv=>whnf);(repeat' (first|exact zE|((refine ak.fn ?_);(conv=>whnf))|((refine ak.tup ?_);(conv=>whnf))|((refine ak.iref ?_);(conv=>whnf))|((refine And.intro ?_ ?_)<;>(conv=>whnf))))));(focus((conv=>whnf);(repeat' (first|exact zE|((refine And.intro ?_ ?_)<;>(conv=>whnf))));all_goals(intro i hi;refine bX.of ?_;dsimp only;first|(rw[if_neg (by assumption)];done)|(rw[if_pos (by assumption)];rfl)))))
  ·(rw[show Dir.step ae M (.sL lv i false h)=(M,.sH lv i true h,Dir.r0)from(by simp only[Dir.step,Dir.on];rw[if_neg hm,if_neg (by decide)])];(refine af.sealB [0,1,2,3,4,23] rfl rfl rfl ?_ ?_);(focus((conv=>whnf);(repeat' (first|exact zE|((refine ak.fn ?_);(conv=>whnf))|((refine ak.tup ?_);(conv=>whnf))|((refine ak.iref ?_);(conv=>whnf))|((refine And.intro ?_ ?_)<;>(conv=>whnf))))));(focus((conv=>whnf);(repeat' (first|exact zE|((refine And.intro ?_ ?_)<;>(conv=>whnf))));all_goals(intro i hi;refine bX.of ?_;dsimp only;first|(rw[if_neg (by assumption)];done)|(rw[if_pos (by assumption)];rfl)))))
 | true =>
  have hM2:=sb who lv i hl hi
  rcases lg lv (i+1)with hmv|hmv
  all_goals rw[hmv]at hM2
  all_goals refine Fun.mk' Tryz.func120 rfl rfl zN (by decide) ?_
  all_goals(repeat' (first|((first|refine Wp.any ab rfl ?_|(with_reducible first|refine Go.mk ?_|apply am.of|refine Ov.ok zO ?_)|refine zV ?_|(with_reducible first|refine And.intro zC ?_|refine Ov.ok hov ?_|refine ai.pure (hC) rfl rfl ?_));conv=>whnf)|((refine ai.new (aZ nl M.W M.Hd f clk cnt who 0 1 (Dir.upW lv i true) (bM h (lv+1) (Dir.upW lv i true-2^(lv+1))) q2 q3 q4 q0 q1 hw) [1,2,3,4] [] rfl rfl rfl rfl rfl rfl ?ha ?hh ?hs ?_);(case ha=>exact zA);(case hh=>exact zH);(case hs=>exact zK);(conv=>whnf))|(with_reducible refine aa.inline Tryz.func90 rfl rfl rfl (zzb rfl) ?_)|((with_reducible refine ai.funM hM2 rfl rfl ?_);conv=>whnf)))
  all_goals by_cases hm:M.W (Dir.upW lv i true)=0
  all_goals first
   | (rw[show Dir.step ae M (.sL lv i true h)=(M.set (Dir.upW lv i true) 1 (bM h (lv+1) (Dir.upW lv i true-2^(lv+1))),.sV lv,Dir.r0)from(by simp only[Dir.step,Dir.on];rw[if_pos hm,if_pos trivial,hmv];rfl)];(refine af.sealB [0,1,2,3,4,23] rfl rfl rfl ?_ ?_);(focus((conv=>whnf);(repeat' (first|exact zE|((refine ak.fn ?_);(conv=>whnf))|((refine ak.tup ?_);(conv=>whnf))|((refine ak.iref ?_);(conv=>whnf))|((refine And.intro ?_ ?_)<;>(conv=>whnf))))));(focus((conv=>whnf);(repeat' (first|exact zE|((refine And.intro ?_ ?_)<;>(conv=>whnf))));all_goals(intro i hi;refine bX.of ?_;dsimp only;first|(rw[if_neg (by assumption)];done)|(rw[if_pos (by assumption)];rfl)))))
   | (rw[show Dir.step ae M (.sL lv i true h)=(M.set (Dir.upW lv i true) 1 (bM h (lv+1) (Dir.upW lv i true-2^(lv+1))),.sF lv (i+1),Dir.r0)from(by simp only[Dir.step,Dir.on];rw[if_pos hm,if_pos trivial,hmv];rfl)];(refine af.sealB [0,1,2,3,4,23] rfl rfl rfl ?_ ?_);(focus((conv=>whnf);(repeat' (first|exact zE|((refine ak.fn ?_);(conv=>whnf))|((refine ak.tup ?_);(conv=>whnf))|((refine ak.iref ?_);(conv=>whnf))|((refine And.intro ?_ ?_)<;>(conv=>whnf))))));(focus((conv=>whnf);(repeat' (first|exact zE|((refine And.intro ?_ ?_)<;>(conv=>whnf))));all_goals(intro i hi;refine bX.of ?_;dsimp only;first|(rw[if_neg (by assumption)];done)|(rw[if_pos (by assumption)];rfl)))))
   | (rw[show Dir.step ae M (.sL lv i true h)=(M,.sV lv,Dir.r0)from(by simp only[Dir.step,Dir.on];rw[if_neg hm,if_pos trivial,hmv])];(refine af.sealB [0,1,2,3,4,23] rfl rfl rfl ?_ ?_);(focus((conv=>whnf);(repeat' (first|exact zE|((refine ak.fn ?_);(conv=>whnf))|((refine ak.tup ?_);(conv=>whnf))|((refine ak.iref ?_);(conv=>whnf))|((refine And.intro ?_ ?_)<;>(conv=>whnf))))));(focus((conv=>whnf);(repeat' (first|exact zE|((refine And.intro ?_ ?_)<;>(conv=>whnf))));all_goals(intro i hi;refine bX.of ?_;dsimp only;first|(rw[if_neg (by assumption)];done)|(rw[if_pos (by assumption)];rfl)))))
   | (rw[show Dir.step ae M (.sL lv i true h)=(M,.sF lv (i+1),Dir.r0)from(by simp only[Dir.step,Dir.on];rw[if_neg hm,if_pos trivial,hmv])];(refine af.sealB [0,1,2,3,4,23] rfl rfl rfl ?_ ?_);(focus((conv=>whnf);(repeat' (first|exact zE|((refine ak.fn ?_);(conv=>whnf))|((refine ak.tup ?_);(conv=>whnf))|((refine ak.iref ?_);(conv=>whnf))|((refine And.intro ?_ ?_)<;>(conv=>whnf))))));(focus((conv=>whnf);(repeat' (first|exact zE|((refine And.intro ?_ ?_)<;>(conv=>whnf))));all_goals(intro i hi;refine bX.of ?_;dsimp only;first|(rw[if_neg (by assumption)];done)|(rw[if_pos (by assumption)];rfl)))))
end
section
variable{who:Int}{g:Nat→SV}{M:Dir.Mc}{nl:Nat}{f:Nat→List D}{clk cnt:Int}
theorem step_kS(hM:DOK who g M nl cnt)(c:Dir.Kc)(w:Nat)(v:Int)(m:List Dir.Ent)(n:Int)(hw:w<32)(hv0:0≤v)(hv:v<4611686018427387904):Fun TC 65 5 [bx (.ptr 0 0),bx (.i .i64 who),bx (.i .i64 w),bx (.i .u64 v),bx (.d (al 2 aq m)),bx (.i .u8 c.op),bx (.d (al 1 (aA .u8) c.key)),bx (.i .i64 c.val),bx (.i .i64 n)] (aN g M nl f clk cnt)
  6 (.tup [cl who (Dir.step ae M (.kS c w v m n)).2.1,di (Dir.step ae M (.kS c w v m n)).2.2]) (iE g (Dir.step ae M (.kS c w v m n)).1 nl f clk cnt (eY who 2 w v (v+1) (decide (M.W w=v)))):=by
 have q0:=hM.w0;have q1:=hM.w1;have q2:=hM.nl;have q3:=hM.c0;have q4:=hM.c1;have q5:=hM.g;have q6:=hM.d0;have q7:=hM.d1;have q8:=hM.hd
 have qr:=QR q6
 refine Fun.mk' Tryz.func65 rfl rfl zN (by decide) ?_
 (repeat' (first|((first|refine Wp.any ab rfl ?_|(with_reducible first|refine Go.mk ?_|apply am.of|refine Ov.ok zO ?_)|refine zV ?_|(with_reducible first|refine And.intro zC ?_|refine At.mk' 0 rfl ?_));conv=>whnf)|((refine ai.new (aZ nl M.W M.Hd f clk cnt who v (v+1) w m q2 q3 q4 q0 q1 hw) [1,2,3,4] [] rfl rfl rfl rfl rfl rfl ?ha ?hh ?hs ?_);(case ha=>exact zA);(case hh=>exact zH);(case hs=>exact zK);(conv=>whnf))|(with_reducible refine aa.inline Tryz.func30 rfl rfl rfl (zzb rfl) ?_)|((with_reducible first|refine ai.pure (it _) rfl rfl ?_|refine ai.funM (fg _ _ _ _ (by exact SV.Lt.of rfl)) rfl rfl ?_);conv=>whnf)|((refine au (fun hc=>?_) (fun hc=>?_))<;>(try simp only[wz9]at hc)<;>(try (exfalso;omega))<;>(conv=>whnf))))
 ·(rw[show Dir.step ae M (.kS c w v m n)=(M,.k0 c,Dir.r0)from(by simp only[Dir.step];rw[if_neg (by assumption)])];(refine af.sealB [0,1,2,3,4,19] rfl rfl rfl ?_ ?_);(focus((conv=>whnf);(repeat' (first|exact zE|((refine ak.ptr rfl rfl ?_);(conv=>whnf))|((refine ak.fn ?_);(conv=>whnf))|((refine ak.tup ?_);(conv=>whnf))|((refine ak.iref ?_);(conv=>whnf))|((refine And.intro ?_ ?_)<;>(conv=>whnf))))));(focus((conv=>whnf);(repeat' (first|exact zE|((refine And.intro ?_ ?_)<;>(conv=>whnf))));all_goals(intro i hi;refine bX.of ?_;dsimp only;first|(rw[if_neg (by assumption)];done)|(rw[if_pos (by assumption)];rfl)))))
 ·(rw[show Dir.step ae M (.kS c w v m n)=(M.set w (v+1) m,.none,⟨true,0,n⟩)from(by simp only[Dir.step];rw[if_pos (by assumption)])];(refine af.sealB [0,1,2,3,4,19] rfl rfl rfl ?_ ?_);(focus((conv=>whnf);(repeat' (first|exact zE))));(focus((conv=>whnf);(repeat' (first|exact zE|((refine And.intro ?_ ?_)<;>(conv=>whnf))));all_goals(intro i hi;refine bX.of ?_;dsimp only;first|(rw[if_neg (by assumption)];done)|(rw[if_pos (by assumption)];rfl)))))
theorem se(who:Int)(x:Int)(h0:0≤x)(h3:x≤3):Fun TC 56 60 [ap,.i .i64 who,.i .i64 x,.i .i64 0,kr] [] 60 (cl who (.sF x.toNat 0)) []:=by
 have e:Dir.move x.toNat 0=.sF x.toNat 0:=by unfold Dir.move;rw[if_neg (by have:=Dir.pow_pos2 x.toNat;omega)]
 have:=move_I who x 0 h0 h3 (by omega) (Int.le_of_lt (Int.pow_pos (by decide)))
 rwa [show(0:Int).toNat=0 from rfl,e]at this
theorem step_s0(hM:DOK who g M nl cnt)(_:True):Fun TC 54 5 [bx ap,bx (.i .i64 who),bx kr] (aN g M nl f clk cnt)
  6 (.tup [cl who (Dir.step ae M .s0).2.1,di (Dir.step ae M .s0).2.2]) (iE g (Dir.step ae M .s0).1 nl f clk cnt (eY who 1 0 (M.W 0) 0 true)):=by
 have q0:=hM.w0;have q1:=hM.w1;have q2:=hM.nl;have q3:=hM.c0;have q4:=hM.c1;have q5:=hM.g;have q6:=hM.d0;have q7:=hM.d1;have q8:=hM.hd
 have qr:=QR q6
 refine Fun.mk' Tryz.func54 rfl rfl zN (by decide) ?_
 (repeat' (first|((first|refine Wp.any ab rfl ?_|(with_reducible first|refine Go.mk ?_|apply am.of|refine Ov.ok zO ?_)|refine zV ?_|with_reducible refine And.intro zC ?_);conv=>whnf)|((refine ai.new (be nl M.W M.Hd f clk cnt who 0 q2 q3 q4 q0 q1 (by omega)) [1,2,3,4] [] rfl rfl rfl rfl rfl rfl ?ha ?hh ?hs ?_);(case ha=>exact zA);(case hh=>exact zH);(case hs=>exact zK);(conv=>whnf))|(with_reducible refine aa.inline Tryz.func29 rfl rfl rfl (zzb rfl) ?_)|((with_reducible refine ai.funM (se who _ (by omega) (by omega)) rfl rfl ?_);conv=>whnf)|(with_reducible refine Ov.tdivN (by omega) ?_)|((refine au (fun hc=>?_) (fun hc=>?_))<;>(try simp only[wz9,qr]at hc)<;>(try (exfalso;omega))<;>(conv=>whnf))))
 ·(rw[show Dir.step ae M .s0=(M,.sF (M.W 0/2).toNat 0,Dir.r0)from(by simp only[Dir.step];rw[if_pos (by assumption)])];(refine af.sealB [0,1,2,3,4,12] rfl rfl rfl ?_ ?_);(focus((conv=>whnf);(repeat' (first|exact zE|((refine ak.fn ?_);(conv=>whnf))|((refine ak.tup ?_);(conv=>whnf))|((refine ak.iref ?_);(conv=>whnf))|((refine And.intro ?_ ?_)<;>(conv=>whnf))))));(focus((conv=>whnf);(repeat' (first|exact zE|((refine And.intro ?_ ?_)<;>(conv=>whnf))));all_goals(intro i hi;refine bX.of ?_;dsimp only;first|(rw[if_neg (by assumption)];done)|(rw[if_pos (by assumption)];rfl)))))
 ·(rw[show Dir.step ae M .s0=(M,.none,⟨true,5,0⟩)from(by simp only[Dir.step];rw[if_neg (by assumption),if_pos (by assumption)])];(refine af.sealB [0,1,2,3,4,12] rfl rfl rfl ?_ ?_);(focus((conv=>whnf);(repeat' (first|exact zE))));(focus((conv=>whnf);(repeat' (first|exact zE|((refine And.intro ?_ ?_)<;>(conv=>whnf))));all_goals(intro i hi;refine bX.of ?_;dsimp only;first|(rw[if_neg (by assumption)];done)|(rw[if_pos (by assumption)];rfl)))))
 ·(rw[show Dir.step ae M .s0=(M,.sM (M.W 0/2).toNat,Dir.r0)from(by simp only[Dir.step];rw[if_neg (by assumption),if_neg (by assumption)])];(refine af.sealB [0,1,2,3,4,12] rfl rfl rfl ?_ ?_);(focus((conv=>whnf);(repeat' (first|exact zE|((refine ak.ptr rfl rfl ?_);(conv=>whnf))|((refine ak.fn ?_);(conv=>whnf))|((refine ak.tup ?_);(conv=>whnf))|((refine ak.iref ?_);(conv=>whnf))|((refine And.intro ?_ ?_)<;>(conv=>whnf))))));(focus((conv=>whnf);(repeat' (first|exact zE|((refine And.intro ?_ ?_)<;>(conv=>whnf))));all_goals(intro i hi;refine bX.of ?_;dsimp only;first|(rw[if_neg (by assumption)];done)|(rw[if_pos (by assumption)];rfl)))))
theorem step_sM(hM:DOK who g M nl cnt)(lv:Nat)(hl:lv≤3):Fun TC 57 5 [bx ap,bx (.i .i64 who),bx (.i .u64 (2*lv)),bx kr,mu,bx (.i .i64 lv)] (aN g M nl f clk cnt)
  6 (.tup [cl who (Dir.step ae M (.sM lv)).2.1,di (Dir.step ae M (.sM lv)).2.2]) (iE g (Dir.step ae M (.sM lv)).1 nl f clk cnt (eY who 2 0 (2*lv) (2*lv+1) (decide (M.W 0=2*lv)))):=by
 have q0:=hM.w0;have q1:=hM.w1;have q2:=hM.nl;have q3:=hM.c0;have q4:=hM.c1;have q5:=hM.g;have q6:=hM.d0;have q7:=hM.d1;have q8:=hM.hd
 have qr:=QR q6
 have hM0:=se who lv (by omega) (by omega)
 rw[Q13]at hM0
 refine Fun.mk' Tryz.func57 rfl rfl zN (by decide) ?_
 (repeat' (first|((first|refine Wp.any ab rfl ?_|(with_reducible first|refine Go.mk ?_|apply am.of|refine Ov.ok zO ?_)|refine zV ?_);conv=>whnf)|((refine ai.new (aZ nl M.W M.Hd f clk cnt who (2*lv) (2*lv+1) 0 [] q2 q3 q4 q0 q1 (by omega)) [1,2,3,4] [] rfl rfl rfl rfl rfl rfl ?ha ?hh ?hs ?_);(case ha=>exact zA);(case hh=>exact zH);(case hs=>exact zK);(conv=>whnf))|((with_reducible first|refine ai.funM (jQ _) rfl rfl ?_|refine ai.funM hM0 rfl rfl ?_);conv=>whnf)|((refine au (fun hc=>?_) (fun hc=>?_))<;>(try simp only[wz9]at hc)<;>(try (exfalso;omega))<;>(conv=>whnf))))
 ·(rw[show Dir.step ae M (.sM lv)=(M,.s0,Dir.r0)from(by simp only[Dir.step];rw[if_neg (by assumption)])];(refine af.sealB [0,1,2,3,4,15] rfl rfl rfl ?_ ?_);(focus((conv=>whnf);(repeat' (first|exact zE|((refine ak.fn ?_);(conv=>whnf))|((refine ak.tup ?_);(conv=>whnf))|((refine ak.iref ?_);(conv=>whnf))|((refine And.intro ?_ ?_)<;>(conv=>whnf))))));(focus((conv=>whnf);(repeat' (first|exact zE|((refine And.intro ?_ ?_)<;>(conv=>whnf))));all_goals(intro i hi;refine bX.of ?_;dsimp only;first|(rw[if_neg (by assumption)];done)|(rw[if_pos (by assumption)];rfl)))))
 ·(rw[show Dir.step ae M (.sM lv)=(M.set 0 (2*lv+1) [],.sF lv 0,Dir.r0)from(by simp only[Dir.step];rw[if_pos (by assumption)])];(refine af.sealB [0,1,2,3,4,15] rfl rfl rfl ?_ ?_);(focus((conv=>whnf);(repeat' (first|exact zE|((refine ak.fn ?_);(conv=>whnf))|((refine ak.tup ?_);(conv=>whnf))|((refine ak.iref ?_);(conv=>whnf))|((refine And.intro ?_ ?_)<;>(conv=>whnf))))));(focus((conv=>whnf);(repeat' (first|exact zE|((refine And.intro ?_ ?_)<;>(conv=>whnf))));all_goals(intro i hi;refine bX.of ?_;dsimp only;first|(rw[if_neg (by assumption)];done)|(rw[if_pos (by assumption)];rfl)))))
theorem step_sV(hM:DOK who g M nl cnt)(lv:Nat)(hl:lv≤3):Fun TC 85 5 [bx ap,bx (.i .i64 who),bx (.i .i64 lv),bx kr] (aN g M nl f clk cnt)
  6 (.tup [cl who (Dir.step ae M (.sV lv)).2.1,di (Dir.step ae M (.sV lv)).2.2]) (iE g (Dir.step ae M (.sV lv)).1 nl f clk cnt (eY who 2 0 (2*lv+1) (2*lv+2) (decide (M.W 0=2*lv+1)))):=by
 have q0:=hM.w0;have q1:=hM.w1;have q2:=hM.nl;have q3:=hM.c0;have q4:=hM.c1;have q5:=hM.g;have q6:=hM.d0;have q7:=hM.d1;have q8:=hM.hd
 have qr:=QR q6
 refine Fun.mk' Tryz.func85 rfl rfl zN (by decide) ?_
 (repeat' (first|((first|refine Wp.any ab rfl ?_|(with_reducible first|refine Go.mk ?_|apply am.of|refine Ov.ok zO ?_)|refine zV ?_);conv=>whnf)|((refine ai.new (aZ nl M.W M.Hd f clk cnt who (2*lv+1) (2*lv+2) 0 [] q2 q3 q4 q0 q1 (by omega)) [1,2,3,4] [] rfl rfl rfl rfl rfl rfl ?ha ?hh ?hs ?_);(case ha=>exact zA);(case hh=>exact zH);(case hs=>exact zK);(conv=>whnf))|(with_reducible refine aa.inline Tryz.func29 rfl rfl rfl (zzb rfl) ?_)))
 by_cases hm:M.W 0=2*lv+1
 ·(rw[show Dir.step ae M (.sV lv)=(M.set 0 (2*lv+2) [],.none,⟨true,0,0⟩)from(by simp only[Dir.step];rw[if_pos hm])];(refine af.sealB [0,1,2,3,4,20] rfl rfl rfl ?_ ?_);(focus((conv=>whnf);(repeat' (first|exact zE))));(focus((conv=>whnf);(repeat' (first|exact zE|((refine And.intro ?_ ?_)<;>(conv=>whnf))));all_goals(intro i hi;refine bX.of ?_;dsimp only;first|(rw[if_neg (by assumption)];done)|(rw[if_pos (by assumption)];rfl)))))
 ·(rw[show Dir.step ae M (.sV lv)=(M,.none,⟨true,0,0⟩)from(by simp only[Dir.step];rw[if_neg hm])];(refine af.sealB [0,1,2,3,4,20] rfl rfl rfl ?_ ?_);(focus((conv=>whnf);(repeat' (first|exact zE))));(focus((conv=>whnf);(repeat' (first|exact zE|((refine And.intro ?_ ?_)<;>(conv=>whnf))));all_goals(intro i hi;refine bX.of ?_;dsimp only;first|(rw[if_neg (by assumption)];done)|(rw[if_pos (by assumption)];rfl)))))
end
theorem SV.Lt.mono{m n:Nat}(hmn:m≤n){x:SV}(h:SV.Lt m x):SV.Lt n x:=by
 induction h with
 | any=>exact .any
 | d x=>exact .d x
 | ptr l o h=>exact .ptr l o (by omega)
 | rp l e i o h=>exact .rp l e i o (by omega)
 | sl l e i o h=>exact .sl l e i o (by omega)
 | agg vs _ ih=>exact .agg vs ih
 | tup vs _ ih=>exact .tup vs ih
 | fn f vs _ ih=>exact .fn f vs ih
 | iref vs o _ ih=>exact .iref vs o ih
mutual
def oK(l:Nat):SV→Bool
 | .ptr m _=>Nat.beq m l
 | .rp m _ _ _=>Nat.beq m l
 | .sl m _ _ _=>Nat.beq m l
 | .d _=>false
 | .any=>false
 | .agg vs=>jZ l vs
 | .tup vs=>jZ l vs
 | .fn _ _=>false
 | .iref vs _=>jZ l vs
def jZ(l:Nat):List SV→Bool
 | []=>false
 | x::r=>oK l x||jZ l r
end
mutual
def md(n:Nat):SV→Prop
 | .fn f vs=>SV.Lt n (.fn f vs)
 | .agg vs=>kj n vs
 | .tup vs=>kj n vs
 | .iref vs _=>kj n vs
 | _=>True
def kj(n:Nat):List SV→Prop
 | []=>True
 | x::r=>md n x∧kj n r
end
mutual
theorem ng{n l:Nat}(hl:n≤l):∀{x:SV},SV.Lt n x→dj l x=false
 | .any,_=>by unfold dj;rfl
 | .d _,_=>by unfold dj;rfl
 | .ptr _ _,h=>by cases h with|ptr _ _ h=>unfold dj;cases e:Nat.beq _ l with|false=>rfl|true=>have:=Q2 e;omega
 | .rp _ _ _ _,h=>by cases h with|rp _ _ _ _ h=>unfold dj;cases e:Nat.beq _ l with|false=>rfl|true=>have:=Q2 e;omega
 | .sl _ _ _ _,h=>by cases h with|sl _ _ _ _ h=>unfold dj;cases e:Nat.beq _ l with|false=>rfl|true=>have:=Q2 e;omega
 | .agg vs,h=>by cases h with|agg _ h=>unfold dj;exact dU hl h
 | .tup vs,h=>by cases h with|tup _ h=>unfold dj;exact dU hl h
 | .fn _ vs,h=>by cases h with|fn _ _ h=>unfold dj;exact dU hl h
 | .iref vs _,h=>by cases h with|iref _ _ h=>unfold dj;exact dU hl h
theorem dU{n l:Nat}(hl:n≤l):∀{xs:List SV},(∀x∈xs,SV.Lt n x)→cG l xs=false
 | [],_=>by unfold cG;rfl
 | x::r,h=>by
  have h1:dj l x=false:=ng hl (h x (by simp))
  have h2:cG l r=false:=dU hl (fun y hy=>h y (by simp[hy]))
  unfold cG;rw[h1,h2];rfl
end
mutual
theorem jY{n l:Nat}(hl:n≤l):∀{x:SV},md n x→oK l x=false→dj l x=false
 | .any,_,h=>by unfold dj;rfl
 | .d _,_,h=>by unfold dj;rfl
 | .ptr _ _,_,h=>by unfold oK at h;unfold dj;exact h
 | .rp _ _ _ _,_,h=>by unfold oK at h;unfold dj;exact h
 | .sl _ _ _ _,_,h=>by unfold oK at h;unfold dj;exact h
 | .agg vs,hf,h=>by unfold oK at h;unfold md at hf;unfold dj;exact dR hl hf h
 | .tup vs,hf,h=>by unfold oK at h;unfold md at hf;unfold dj;exact dR hl hf h
 | .fn _ vs,hf,h=>by unfold md at hf;exact ng hl hf
 | .iref vs _,hf,h=>by unfold oK at h;unfold md at hf;unfold dj;exact dR hl hf h
theorem dR{n l:Nat}(hl:n≤l):∀{xs:List SV},kj n xs→jZ l xs=false→cG l xs=false
 | [],_,_=>by unfold cG;rfl
 | x::r,hf,h=>by
  unfold kj at hf;unfold jZ at h
  rw[Bool.or_eq_false_iff]at h
  have h1:dj l x=false:=jY hl hf.1 h.1
  have h2:cG l r=false:=dR hl hf.2 h.2
  unfold cG;rw[h1,h2];rfl
end
def fnOKB(n:Nat):Option Blk→Prop
 | some (.cells cs)=>kj n cs
 | _=>True
def qW(l:Nat):Option Blk→Bool
 | some (.cells cs)=>jZ l cs
 | some (.cf m _ _)=>Nat.blt l m
 | some (.obj _ m _ _ _)=>Nat.blt l m
 | _=>false
theorem i5(l:Nat):∀(cs:List SV),cs.any (mem1 l)=cG l cs
 | []=>by unfold cG;rfl
 | x::r=>by unfold cG;rw[List.any_cons,i5 l r]
theorem qV{n l:Nat}(hl:n≤l){b:Option Blk}(hf:fnOKB n b)(h:qW l b=false):nd l b=false:=by
 cases b with
 | none=>rfl
 | some b =>
  cases b with
  | cells cs=>show cs.any (mem1 l)=false;rw[i5];exact dR hl hf h
  | row _ _ _ _=>rfl
  | cf m _ _=>exact h
  | obj _ m _ _ _=>exact h
def iH(pre:List Nat)(ops:List Oper)(n0 i j:Nat)(labs:List Nat)(p q:Pt):Bool :=
 (match p.1.dst,q.1.dst with|some a,some b=>!Nat.beq a b|_,_=>true) &&
 (p.2.ed.all (fun x=>q.2.ed.all fun y=>!Nat.beq x.1 y.1)||jK pre i j) &&
 ((match q.1.dst with|some d=>(l3 ops p.1).all fun t=>!Nat.beq d t|none=>true)||jK pre i j) &&
 ((labs.all (fun l=>q.2.ed.all fun y=>!Nat.beq y.1 l)&&p.2.rd.all (fun l=>q.2.ed.all fun y=>!Nat.beq y.1 l))||jK pre i j) &&
 (!cO p.1.op||(!oK (n0+i) q.2.val&&q.2.ed.all (fun y=>!Nat.beq y.1 (n0+i)&&!qW (n0+i) y.2))||(Nat.blt i j&&jK pre i j))
def iG(pre:List Nat)(ops:List Oper)(n0 i:Nat)(labs:List Nat)(p:Pt):List Pt→Nat→Bool
 | [],_=>true
 | q::r,j=>(Nat.beq i j||iH pre ops n0 i j labs p q)&&iG pre ops n0 i labs p r (j+1)
def iI(pre:List Nat)(ops:List Oper)(n0:Nat)(all:List Pt)(S0:St):List Pt→Nat→St→Bool
 | [],_,_=>true
 | p::r,i,S=>iG pre ops n0 i (fS S p.1.op) p all 0&&(!cO p.1.op||(S0.fr.all (fun x=>!oK (n0+i) x.2)&&S0.hp.all (fun x=>!Nat.beq x.1 (n0+i)&&!qW (n0+i) x.2))) &&
   (p.1.after.toList.all fun e=>!Region.binds .any e||Nat.blt e.on i)&&(match p.1.dst with|some n=>Nat.blt n S0.nt.n|none=>true)&&iI pre ops n0 all S0 r (i+1) (S.step p.1.dst p.2)
def drawN(ops:List Oper)(efs:List Ef)(n0:Nat)(S0:St):Bool:=iI (dP ops []) ops n0 (ops.zip efs) S0 (ops.zip efs) 0 S0
def f0(n:Nat):List (Nat×Option Blk)→Prop
 | []=>True
 | x::r=>fnOKB n x.2∧f0 n r
def nO(n:Nat):List (Nat×SV)→Prop
 | []=>True
 | x::r=>md n x.2∧nO n r
def rj(n:Nat):List Ef→Prop
 | []=>True
 | x::r=>md n x.val∧f0 n x.ed∧rj n r
theorem lu{n:Nat}:∀{l:List (Nat×Option Blk)},f0 n l→∀x∈l,fnOKB n x.2
 | [],_,x,hx=>by simp at hx
 | y::r,h,x,hx=>by
  unfold f0 at h
  rcases Q22 hx with rfl|hx
  ·exact h.1
  ·exact lu h.2 x hx
theorem ly{n:Nat}:∀{l:List (Nat×SV)},nO n l→∀x∈l,md n x.2
 | [],_,x,hx=>by simp at hx
 | y::r,h,x,hx=>by
  unfold nO at h
  rcases Q22 hx with rfl|hx
  ·exact h.1
  ·exact ly h.2 x hx
theorem lz{n:Nat}:∀{l:List Ef},rj n l→∀x∈l,md n x.val∧f0 n x.ed
 | [],_,x,hx=>by simp at hx
 | y::r,h,x,hx=>by
  unfold rj at h
  rcases Q22 hx with rfl|hx
  ·exact⟨h.1,h.2.1⟩
  ·exact lz h.2.2 x hx
theorem sj{n l:Nat}(hl:n≤l){ed:List (Nat×Option Blk)}(hf:f0 n ed)(h:ed.all (fun y=>!Nat.beq y.1 l&&!qW l y.2)=true):ed.all (fun y=>!Nat.beq y.1 l&&!nd l y.2)=true:=by
 rw[Q23]at h⊢
 intro y hy
 have:=h y hy
 rw[Q5]at this⊢
 refine⟨this.1,?_⟩
 have h2:=this.2
 rw[Bool.not_eq_true']at h2⊢
 exact qV hl (lu hf y hy) h2
theorem kz{pre:List Nat}{ops:List Oper}{n0 i j:Nat}{labs:List Nat}{p q:Pt}(hv:md n0 q.2.val)(he:f0 n0 q.2.ed)(h:iH pre ops n0 i j labs p q=true):bU pre ops n0 i j labs p q=true:=by
 unfold iH at h;unfold bU
 rw[Q5]at h⊢
 refine⟨h.1,?_⟩
 have h:=h.2
 rw[Q20,Q20,Q5]at h⊢
 rcases h with(h|h)|h
 ·exact .inl (.inl h)
 ·refine .inl (.inr ⟨?_,sj (by omega) he h.2⟩)
  have h1:=h.1
  rw[Bool.not_eq_true']at h1⊢
  exact jY (by omega) hv h1
 ·exact .inr h
theorem gQ{pre:List Nat}{ops:List Oper}{n0 i:Nat}{labs:List Nat}{p:Pt}:∀(l:List Pt) (k:Nat),(∀q∈l,md n0 q.2.val∧f0 n0 q.2.ed)→iG pre ops n0 i labs p l k=true→gl pre ops n0 i labs p l k=true
 | [],_,_,_=>by unfold gl;rfl
 | q::r,k,hf,h=>by
  unfold iG at h;unfold gl
  rw[Q5,Q20]at h⊢
  refine⟨?_,gQ r (k+1) (fun q hq=>hf q (List.mem_cons_of_mem _ hq)) h.2⟩
  rcases h.1 with h1|h1
  ·exact .inl h1
  ·exact .inr (kz (hf q (List.mem_cons_self ..)).1 (hf q (List.mem_cons_self ..)).2 h1)
theorem gR{pre:List Nat}{ops:List Oper}{n0:Nat}{all:List Pt}{S0:St}(ha:∀q∈all,md n0 q.2.val∧f0 n0 q.2.ed)(hF:nO n0 S0.fr)(hH:f0 n0 S0.hp) :
  ∀(l:List Pt) (i:Nat) (S:St),iI pre ops n0 all S0 l i S=true→gm pre ops n0 all S0 l i S=true
 | [],_,_,_=>by unfold gm;rfl
 | p::r,i,S,h=>by
  unfold iI at h;unfold gm
  rw[Q5,Q5,Q5,Q5]at h⊢
  obtain⟨⟨⟨⟨h1,h2⟩,h3⟩,h4⟩,h5⟩:=h
  refine⟨⟨⟨⟨gQ all 0 ha h1,?_⟩,h3⟩,h4⟩,gR ha hF hH r (i+1) _ h5⟩
  rw[Q20,Q5]at h2⊢
  rcases h2 with h2|h2
  ·exact .inl h2
  ·refine .inr ⟨?_,sj (by omega) hH h2.2⟩
   have h6:=h2.1
   rw[Q23]at h6⊢
   intro x hx
   have h7:=h6 x hx
   rw[Bool.not_eq_true']at h7⊢
   exact jY (by omega) (ly hF x hx) h7
theorem ro{ops:List Oper}{efs:List Ef}{n0:Nat}{S0:St}(h:drawN ops efs n0 S0=true)(hE:rj n0 efs)(hF:nO n0 S0.fr)(hH:f0 n0 S0.hp):eT ops efs n0 S0=true:=by
 refine gR (fun q hq=>?_) hF hH _ 0 S0 h
 exact lz hE q.2 (List.of_mem_zip hq).2
def okC:Dir.CS→Prop
 | .kE c w=>w<32∧IsB c.key
 | .kF c lv w=>lv≤3∧w<32
 | .kG c lv w v h=>(lv≤3∧w<32)∧0≤v∧v<4611686018427387904
 | .kH c lv w h=>w<32∧IsB c.key
 | .kL c lv w h=>(lv≤4∧2^lv≤w∧w<32)∧HOK h
 | .kS c w v m n=>w<32∧0≤v∧v<4611686018427387904
 | .sM lv=>lv≤3
 | .sF lv i=>lv≤3∧i<2^lv
 | .sG lv i v h=>(lv≤3∧i<2^lv)∧0≤v∧v<4611686018427387904
 | .sH lv i up h=>lv≤3∧i<2^lv
 | .sL lv i up h=>(lv≤3∧i<2^lv)∧HOK h
 | .sV lv=>lv≤3
 | _=>True
theorem qH{who:Int}{g:Nat→SV}{M:Dir.Mc}{nl:Nat}{f:Nat→List D}{clk cnt:Int}(hM:DOK who g M nl cnt){s:Dir.CS}(hn:s≠.none)(hs:okC s) :
  ∃n caps a,cl who s=.fn (.func n) caps∧Fun TC n 5 caps (aN g M nl f clk cnt) 6 (.tup [cl who (Dir.step ae M s).2.1,di (Dir.step ae M s).2.2]) (iE g (Dir.step ae M s).1 nl f clk cnt a):=by
 cases s with
 | none=>exact absurd rfl hn
 | k0 c=>exact⟨_,_,_,rfl,step_k0 hM c⟩
 | kE c w=>exact⟨_,_,_,rfl,step_kE hM c w hs.1 hs.2⟩
 | kF c lv w=>exact⟨_,_,_,rfl,step_kF hM c lv w hs.1 hs.2⟩
 | kG c lv w v h=>exact⟨_,_,_,rfl,step_kG hM c lv w v h hs.1.1 hs.1.2 hs.2.1 hs.2.2⟩
 | kH c lv w h=>exact⟨_,_,_,rfl,step_kH hM c lv w h hs.1 hs.2⟩
 | kL c lv w h=>exact⟨_,_,_,rfl,step_kL hM c lv w h hs.1.1 hs.1.2.1 hs.1.2.2 hs.2⟩
 | kS c w v m n=>exact⟨_,_,_,rfl,step_kS hM c w v m n hs.1 hs.2.1 hs.2.2⟩
 | s0=>exact⟨_,_,_,rfl,step_s0 hM trivial⟩
 | sM lv=>exact⟨_,_,_,rfl,step_sM hM lv hs⟩
 | sF lv i=>exact⟨_,_,_,rfl,step_sF hM lv i hs.1 hs.2⟩
 | sG lv i v h=>exact⟨_,_,_,rfl,step_sG hM lv i v h hs.1.1 hs.1.2 hs.2.1 hs.2.2⟩
 | sH lv i up h=>exact⟨_,_,_,rfl,step_sH hM lv i up h hs.1 hs.2⟩
 | sL lv i up h=>exact⟨_,_,_,rfl,step_sL hM lv i up h hs.1.1 hs.1.2 hs.2⟩
 | sV lv=>exact⟨_,_,_,rfl,step_sV hM lv hs⟩
mutual
theorem dM{π:Nat→Nat}{m:Nat}(hπ:∀l,l<m→π l=l):∀{x:SV},SV.Lt m x→SV.ren π x=x
 | .any,_=>by unfold SV.ren;rfl
 | .d _,_=>by unfold SV.ren;rfl
 | .ptr _ _,h=>by cases h with|ptr _ _ h=>unfold SV.ren;rw[hπ _ h]
 | .rp _ _ _ _,h=>by cases h with|rp _ _ _ _ h=>unfold SV.ren;rw[hπ _ h]
 | .sl _ _ _ _,h=>by cases h with|sl _ _ _ _ h=>unfold SV.ren;rw[hπ _ h]
 | .agg vs,h=>by cases h with|agg _ h=>unfold SV.ren;rw[fH hπ h]
 | .tup vs,h=>by cases h with|tup _ h=>unfold SV.ren;rw[fH hπ h]
 | .fn _ vs,h=>by cases h with|fn _ _ h=>unfold SV.ren;rw[fH hπ h]
 | .iref vs _,h=>by cases h with|iref _ _ h=>unfold SV.ren;rw[fH hπ h]
theorem fH{π:Nat→Nat}{m:Nat}(hπ:∀l,l<m→π l=l):∀{xs:List SV},(∀x∈xs,SV.Lt m x)→SV.renL π xs=xs
 | [],_=>rfl
 | x::r,h=>by
  have h1:SV.ren π x=x:=dM hπ (h x (by simp))
  have h2:SV.renL π r=r:=fH hπ (fun y hy=>h y (by simp[hy]))
  unfold SV.renL;rw[h1,h2]
end
theorem cB{g:Nat→SV}(hg:∀j,SV.Lt 5 (g j)){L:List Nat}:∀j,j<65→ac (0::1::2::3::4::L) (cV g j) (cV g j)∧SV.Lt 5 (cV g j) :=
 fun j _=>⟨.same (br hg j) (by simp) fun i hi=>id5 hi,br hg j⟩
theorem cW{F:Fn}{cs:List SV}{L:List Nat}(h:SV.Lt 5 (.fn F cs)):aC (0::1::2::3::4::L) cs cs:=by
 cases h with
 | fn _ _ h =>
  induction cs with
  | nil=>trivial
  | cons x r ih=>exact⟨.same (h x (by simp)) (by simp) fun i hi=>id5 hi,ih fun y hy=>h y (by simp[hy])⟩
theorem cl_form(who:Int)(s:Dir.CS):(cl who s=oJ)∨∃n caps,cl who s=.fn (.func n) caps:=by
 cases s with
 | none=>exact .inl rfl
 | _=>exact .inr ⟨_,_,rfl⟩
theorem io{π:Nat→Nat}{F:Fn}{cs:List SV}{b:Nat}(h:SV.Lt 5 (.fn F cs))(hπ:∀l,l<5→π l=l)(hb:b=5):SV.Lt b (.fn F (SV.renL π cs)):=by
 subst hb
 have e:=dM hπ h
 unfold SV.ren at e
 rw[e];exact h
theorem jU{π:Nat→Nat}{F:Fn}{cs:List SV}(h:SV.Lt 5 (.fn F cs))(hπ:∀l,l<5→π l=l):SV.fn F (SV.renL π cs)=.fn F cs:=by
 have e:=dM hπ h
 unfold SV.ren at e
 exact e
theorem bC{S:St}{g:Nat→SV}(hg:∀j,SV.Lt 5 (g j)){L:List Nat}{w:Nat}{x x':SV}(hx:SV.Lt 5 x){π:Nat→Nat}(hπ:∀l,l<5→π l=l)(he:x'=x) :
  ∀j,j<65→ak S (0::1::2::3::4::L) (bif Nat.beq j (w+1)then x' else SV.ren π (cV g j)) (cV (Dir.upd g w x) j)∧SV.Lt 5 (cV (Dir.upd g w x) j):=by
 intro j hj
 have hlt:SV.Lt 5 (cV (Dir.upd g w x) j):=by
  refine br (fun i=>?_) j
  unfold Dir.upd
  split
  ·exact hx
  ·exact hg i
 refine⟨?_,hlt⟩
 have hee:(bif Nat.beq j (w+1)then x' else SV.ren π (cV g j))=cV (Dir.upd g w x) j:=by
  cases j with
  | zero =>
   have h0:Nat.beq 0 (w+1)=false:=rfl
   rw[h0,cond_false,dM hπ (br hg 0)];rfl
  | succ i =>
   by_cases h:i=w
   ·subst h
    have h0:Nat.beq (i+1) (i+1)=true:=Nat.beq_refl _
    rw[h0,cond_true,he]
    show x=Dir.upd g i x i
    unfold Dir.upd;rw[if_pos rfl]
   ·have h0:Nat.beq (i+1) (w+1)=false:=by
     cases e:Nat.beq (i+1) (w+1)with
     | false=>rfl
     | true=>exact absurd (Nat.succ.inj (Q2 e)) h
    rw[h0,cond_false,dM hπ (br hg _)]
    show g i=Dir.upd g w x i
    unfold Dir.upd;rw[if_neg h]
 rw[hee]
 exact .same hlt (by simp) fun i hi=>id5 hi
theorem mn{g:Nat→SV}{M:Dir.Mc}{nl:Nat}{f:Nat→List D}{clk cnt:Int}(w:Nat)(hw:w<64)(hM:DOK w g M nl cnt){s:Dir.CS}(hn:s≠.none)(hs:okC s)(hg:g w=cl w s) :
  ∃a,Fun TC 36 5 [.ptr 0 1,.i .i64 w] (aN g M nl f clk cnt) 6 (di (Dir.step ae M s).2.2) (iE (Dir.upd g w (cl w (Dir.step ae M s).2.1)) (Dir.step ae M s).1 nl f clk cnt a):=by
 obtain⟨n,caps,a,e,hF⟩:=qH (f:=f) (clk:=clk) hM hn hs
 rw[e]at hg
 have q5:=hM.g
 have hlt:=q5 w
 rw[hg]at hlt
 have hg2:cV g (w+1)=.fn (.func n) caps:=hg
 have lt2:=eE w (Dir.step ae M s).2.1
 have ef:=cl_form w (Dir.step ae M s).2.1
 refine⟨a,?_⟩
 generalize Dir.step ae M s=Q at hF lt2 ef⊢
 obtain⟨M',s',r⟩:=Q
 dsimp only at hF lt2 ef⊢
 generalize hx:cl (w:Int) s'=x at hF lt2 ef⊢
 refine Fun.mk' Tryz.func36 rfl rfl zN (by decide) ?_
 rcases ef with rfl|⟨n2,caps2,rfl⟩
 all_goals
  (repeat' (first|((with_reducible refine And.intro (ro (show drawN _ _ _ _=true by kernel_rfl) ?hE ?hF ?hH) ?_);(case hE=>exact zz4);(case hF=>exact zz4);(case hH=>exact zz4);(conv=>whnf))|((first|refine Wp.any ab rfl ?_|(with_reducible first|refine Go.mk ?_|apply am.of));conv=>whnf)|with_reducible exact rfl|((with_reducible refine Ov.ok zO ?_);conv=>whnf)|(with_reducible refine Ov.sh1 (by with_unfolding_all exact rfl) ?_)|((first|with_reducible refine Ov.quo (by omega) (by omega) (by omega) (fun _ _=>?_)|refine zV ?_|with_reducible refine And.intro zC ?_);conv=>whnf)|((with_reducible refine And.intro ?hb ?_);(case hb=>exact zz1);(conv=>whnf))|((refine bO.a rfl rfl rfl rfl rfl rfl ?hb ?_);(case hb=>exact zB);(conv=>whnf))|((refine bO.b rfl rfl rfl rfl rfl rfl rfl rfl ?hb ?ho ?_);(case hb=>exact zB);(case ho=>omega);(conv=>whnf))|((refine bO.c rfl rfl rfl rfl rfl ?hb ?_);(case hb=>exact zB);(conv=>whnf))|((refine bO.d rfl rfl rfl rfl rfl rfl ?hb ?ho ?_);(case hb=>exact zB);(case ho=>omega);(conv=>whnf))|(with_reducible refine Or.inl ?_)|((with_reducible refine IxA.ptr ?_);conv=>whnf)|((with_reducible refine dp (by omega) ?_);(conv=>whnf))|((with_reducible refine bq ?_ (fun hn0=>?_))<;>(conv=>whnf))|((refine At.mk' (w+1) (by show 1+((w:Nat):Int).toNat*1=w+1;omega) ?_);(refine And.intro (by omega) ?_);(rw[hg2]);(conv=>whnf))|((refine aa.fn (hF) [0,1,2,3,4] rfl rfl rfl rfl rfl ?ha ?hh ?_);(case ha=>(exact cW hlt));(case hh=>exact zD);(conv=>whnf))|((refine ai.fn (hF) [0,1,2,3,4] [0,1,2,3,4] rfl rfl rfl rfl rfl ?ha ?hh ?hs ?_);(case ha=>(exact cW hlt));(case hh=>exact zD);(case hs=>exact zK);(conv=>whnf))|((refine ai.new (hF) [0,1,2,3,4] [0,1,2,3,4] rfl rfl rfl rfl rfl rfl ?ha ?hh ?hs ?_);(case ha=>(exact cW hlt));(case hh=>exact zD);(case hs=>exact zK);(conv=>whnf))|((refine ai.fn (hF) [0,1,2,3,4] [] rfl rfl rfl rfl rfl ?ha ?hh ?hs ?_);(case ha=>(exact cW hlt));(case hh=>exact zD);(case hs=>exact zK);(conv=>whnf))|((refine ai.new (hF) [0,1,2,3,4] [] rfl rfl rfl rfl rfl rfl ?ha ?hh ?hs ?_);(case ha=>(exact cW hlt));(case hh=>exact zD);(case hs=>exact zK);(conv=>whnf))|((refine And.intro (by first|exact .of rfl|exact io lt2 (fun l hl=>by rcases l with _|_|_|_|_|l<;>first|rfl|omega) rfl) ?_);conv=>whnf)|((refine At.mk' (w+1) (by show 1+((w:Nat):Int).toNat*1=w+1;omega) ?_);(refine And.intro (by omega) ?_);conv=>whnf)|((refine au (fun hc=>?_) (fun hc=>?_))<;>(try simp only[wz9]at hc)<;>(try (exfalso;omega))<;>(conv=>whnf))))
 all_goals
  (refine af.sealB [0,1,2,3,4,14] rfl rfl rfl ?_ ?_);(focus((conv=>whnf);(repeat' (first|exact zE|((refine ak.ptr rfl rfl ?_);(conv=>whnf))|((refine ak.fn ?_);(conv=>whnf))|((refine ak.agg ?_);(conv=>whnf))|((refine ak.tup ?_);(conv=>whnf))|((refine ak.iref ?_);(conv=>whnf))|((refine And.intro ?_ ?_)<;>(conv=>whnf))))));(focus((conv=>whnf);(repeat' (first|exact zE|((refine ak.ptr rfl rfl ?_);(conv=>whnf))|((refine ak.fn ?_);(conv=>whnf))|((refine ak.agg ?_);(conv=>whnf))|((refine ak.tup ?_);(conv=>whnf))|((refine ak.iref ?_);(conv=>whnf))|((refine And.intro ?_ ?_)<;>(conv=>whnf))))))
  all_goals first
   | exact bC q5 lt2 (fun l hl=>by rcases l with _|_|_|_|_|l<;>first|rfl|omega) rfl
   | exact bC q5 lt2 (fun l hl=>by rcases l with _|_|_|_|_|l<;>first|rfl|omega) (jU lt2 (fun l hl=>by rcases l with _|_|_|_|_|l<;>first|rfl|omega))
theorem d4{g:Nat→SV}(hg:∀j,SV.Lt 5 (g j)){L:List Nat}{π:Nat→Nat}(hπ:∀l,l<5→π l=l):∀j,j<65→ac (0::1::2::3::4::L) (SV.ren π (cV g j)) (cV g j)∧SV.Lt 5 (cV g j) :=
 fun j hj=>⟨by rw[dM hπ (br hg j)];exact(cB hg j hj).1,br hg j⟩
theorem n7{S:St}{g:Nat→SV}(hg:∀j,SV.Lt 5 (g j)){L:List Nat}{π:Nat→Nat}(hπ:∀l,l<5→π l=l):∀j,j<65→ak S (0::1::2::3::4::L) (SV.ren π (cV g j)) (cV g j)∧SV.Lt 5 (cV g j) :=
 fun j hj=>⟨by rw[dM hπ (br hg j)];exact(lG hg j hj).1,br hg j⟩
def isC:Dir.CS→Bool
 | .none=>false
 | _=>true
theorem oj(who:Int)(s:Dir.CS):(cl who s=oJ∧isC s=false)∨∃n caps,cl who s=.fn (.func n) caps∧isC s=true:=by
 cases s with
 | none=>exact .inl ⟨rfl,rfl⟩
 | _=>exact .inr ⟨_,_,rfl,rfl⟩
theorem sg{s:Dir.CS}(h:isC s=true):s≠.none:=by rintro rfl;cases h
theorem lq{s:Dir.CS}(h:isC s=false):s=.none:=by cases s<;>first|rfl|cases h
theorem gj{g:Nat→SV}{M:Dir.Mc}{nl:Nat}{f:Nat→List D}{clk cnt:Int}(w:Nat)(hw:w<64)(q5:∀j,SV.Lt 5 (g j)){s:Dir.CS}(hg:g w=cl w s) :
  Fun TC 16 5 [.ptr 0 0,.i .i64 w] (aN g M nl f clk cnt) 5 (.b (isC s)) (aN g M nl f clk cnt):=by
 refine Fun.mk' Tryz.func16 rfl rfl zN (by decide) ?_
 have hg2:cV g (w+1)=cl w s:=hg
 rcases oj w s with⟨e,e2⟩|⟨n,caps,e,e2⟩
 all_goals
  rw[e]at hg2
  rw[e2]
  (repeat' (first|((first|refine Wp.any ab rfl ?_|(with_reducible first|refine Go.mk ?_|apply am.of|refine And.intro zC ?_|refine IxA.ptr ?_|refine aa.pure (bk _) rfl rfl ?_));conv=>whnf)|((refine At.mk' (w+1) (by show 1+((w:Nat):Int).toNat*1=w+1;omega) ?_);(refine And.intro (by omega) ?_);(rw[hg2]);(conv=>whnf))|((refine au (fun hc=>?_) (fun hc=>?_))<;>(try simp only[wz9]at hc)<;>(try (exfalso;omega))<;>(conv=>whnf))))
 all_goals
  (refine af.sealB [0,1,2,3,4] rfl rfl rfl ?_ ?_);(focus((conv=>whnf);(repeat' (first|exact zE))));(focus((conv=>whnf);(repeat' (first|exact zE|((refine And.intro ?_ ?_)<;>(conv=>whnf))))))
theorem rA{g:Nat→SV}{M:Dir.Mc}{nl:Nat}{f:Nat→List D}{clk cnt:Int}(w:Nat)(hw:w<64)(hM:DOK w g M nl cnt){s:Dir.CS}(hn:isC s=true)(hs:okC s)(hg:g w=cl w s) :
  ∃a,Fun TC 11 5 [.ptr 0 0,.i .i64 w] (aN g M nl f clk cnt) 6 (.tup [di (Dir.step ae M s).2.2,.i .i64 0]) (iE (Dir.upd g w (cl w (Dir.step ae M s).2.1)) (Dir.step ae M s).1 nl f clk cnt a):=by
 obtain⟨a,hS⟩:=mn (f:=f) (clk:=clk) w hw hM (sg hn) hs hg
 have q5:=hM.g
 have hP:=gj (M:=M) (nl:=nl) (f:=f) (clk:=clk) (cnt:=cnt) w hw q5 hg
 rw[hn]at hP
 have q6:∀j,SV.Lt 5 (Dir.upd g w (cl w (Dir.step ae M s).2.1) j):=fun j=>by
  unfold Dir.upd
  split
  ·exact eE _ _
  ·exact q5 j
 refine⟨a,?_⟩
 generalize Dir.step ae M s=Q at hS q6⊢
 obtain⟨M',s',r⟩:=Q
 dsimp only at hS q6⊢
 generalize Dir.upd g w (cl w s')=g' at hS q6⊢
 refine Fun.mk' Tryz.func11 rfl rfl zN (by decide) ?_
 (repeat' (first|((first|refine Wp.any ab rfl ?_|(with_reducible first|refine Go.mk ?_|apply am.of|refine aa.pure (bk _) rfl rfl ?_));conv=>whnf)|((refine aa.fn (hP) [0,1,2,3,4] rfl rfl rfl rfl rfl ?ha ?hh ?_);(case ha=>exact zA);(case hh=>exact zD);(conv=>whnf))|((refine aa.fn (hS) [0,1,2,3,4] rfl rfl rfl rfl rfl ?ha ?hh ?_);(case ha=>exact zA);(case hh=>exact zD);(conv=>whnf))|((refine au (fun hc=>?_) (fun hc=>?_))<;>(try simp only[wz9]at hc)<;>(try (exfalso;omega))<;>(conv=>whnf))))
 (refine af.sealB [0,1,2,3,4,6] rfl rfl rfl ?_ ?_);(focus((conv=>whnf);(repeat' (first|exact zE))));(focus((conv=>whnf);(repeat' (first|exact zE|((refine And.intro ?_ ?_)<;>(conv=>whnf))))))
theorem SV.Le.sl'{z n m:Nat}{f g:Nat→List D}(e:n=m)(h:∀i,i<m→f i=g i):SV.Le (.d (.sl z n f)) (.d (.sl z m g)):=by
 subst e;exact SV.Le.sl h
theorem eW(xs:List Int)(hn:xs.length≤16777216):Fun TC 31 60 [.d (al 1 (aA .u8) xs)] [] 60 (.d (al 1 (aA .u8) xs)) []:=by
 refine Fun.mk' Tryz.func31 rfl rfl zN (by decide) ?_
 (repeat' (first|((first|refine Wp.any ab rfl ?_|(with_reducible first|refine Go.mk ?_|apply am.of|refine And.intro zC ?_));conv=>whnf)|((with_reducible refine And.intro ?hb ?_);(case hb=>exact zz1);(conv=>whnf))|((with_reducible refine bq ?_ (fun hn0=>?_))<;>(conv=>whnf))))
 ·(refine af.sealM ?_);(conv=>whnf);(repeat' (first|(refine ak.le (ak.sl (aY zN) rfl (by first|omega|simp)) ?_)))
  exact SV.Le.sl' (Q19 _) fun i hi=>by simp[bK]
 ·obtain rfl:=List.eq_nil_of_length_eq_zero hn0
  (refine af.sealM ?_);(conv=>whnf);(repeat' (first|exact zB9))
theorem jv{g:Nat→SV}(q5:∀j,SV.Lt 5 (g j))(M:Dir.Mc)(nl:Nat)(f:Nat→List D)(clk cnt:Int)(who:Int)(op:Int)(key:List Int)(v:Int)(hk:key.length≤16777216):Fun TC 30 5 [.ptr 0 0,.i .i64 who,.i .u8 op,.d (al 1 (aA .u8) key),.i .i64 v] (aN g M nl f clk cnt) 5 (cl who (.k0 ⟨op,key,v⟩)) (aN g M nl f clk cnt):=by
 refine Fun.mk' Tryz.func30 rfl rfl zN (by decide) ?_
 (repeat' (first|((first|refine Wp.any ab rfl ?_|(with_reducible first|refine Go.mk ?_|apply am.of)|refine zV ?_|(with_reducible first|refine And.intro zC ?_|refine At.mk' 0 rfl ?_|refine ai.pure (it _) rfl rfl ?_|refine ai.funM (fg _ _ _ _ (by exact SV.Lt.of rfl)) rfl rfl ?_));conv=>whnf)))
 (refine af.sealB [0,1,2,3,4] rfl rfl rfl ?_ ?_);(focus((conv=>whnf);(repeat' (first|exact zE|((refine ak.ptr rfl rfl ?_);(conv=>whnf))|((refine ak.fn ?_);(conv=>whnf))|((refine ak.iref ?_);(conv=>whnf))|((refine And.intro ?_ ?_)<;>(conv=>whnf))))));(focus((conv=>whnf);(repeat' (first|exact zE|((refine And.intro ?_ ?_)<;>(conv=>whnf))))))
def bI(op:Int)(key:List Int)(v:Int):Dir.CS:=if op=4 then .s0 else .k0 ⟨op,key,v⟩
theorem gh{S:St}{g:Nat→SV}(hg:∀j,SV.Lt 5 (g j)){L:List Nat}{w:Nat}{x x':SV}(hx:SV.Lt 5 x)(he:x'=x) :
  ∀j,j<65→ak S (0::1::2::3::4::L) (bif Nat.beq j (w+1)then x' else cV g j) (cV (Dir.upd g w x) j)∧SV.Lt 5 (cV (Dir.upd g w x) j):=by
 intro j hj
 have:=bC (S:=S) hg (L:=L) (w:=w) hx (π:=id) (fun _ _=>rfl) he j hj
 rwa [dM (m:=5) (π:=id) (fun _ _=>rfl) (br hg j)]at this
theorem n8{g:Nat→SV}(q5:∀j,SV.Lt 5 (g j)){M:Dir.Mc}{nl:Nat}{f:Nat→List D}{clk cnt:Int}(w:Nat)(hw:w<64)(op:Int)(key:List Int)(v:Int)(ho:1≤op)(ho4:op≤4)(hk:key.length≤256)(hv:cK v=true)(hg:g w=oJ) :
  Fun TC 8 5 [.ptr 0 0,.i .i64 w,.i .u8 op,.d (al 1 (aA .u8) key),.i .i64 v] (aN g M nl f clk cnt) 5 (.i .i64 0) (aN (Dir.upd g w (cl w (bI op key v))) M nl f clk cnt):=by
 have hg2:cV g (w+1)=oJ:=hg
 have hT:=dI v
 rw[hv]at hT
 have hB:=jv q5 M nl f clk cnt w op key v (by omega)
 have hC:=eW key (by omega)
 have ltK:=eE (w:Int) (.k0 ⟨op,key,v⟩)
 refine Fun.mk' Tryz.func8 rfl rfl zN (by decide) ?_
 (repeat' (first|((first|refine Wp.any ab rfl ?_|(with_reducible first|refine Go.mk ?_|apply am.of)|refine zV ?_|with_reducible refine And.intro zC ?_);conv=>whnf)|(with_reducible refine Or.inl ?_)|((with_reducible first|refine IxA.ptr ?_|refine aa.pure (bk _) rfl rfl ?_|refine aa.pure (hT) rfl rfl ?_);conv=>whnf)|((refine At.mk' (w+1) (by show 1+((w:Nat):Int).toNat*1=w+1;omega) ?_);(refine And.intro (by omega) ?_);(rw[hg2]);(conv=>whnf))|((with_reducible first|refine At.mk' 0 rfl ?_|refine ai.funM hC rfl rfl ?_|refine ai.funM (jQ _) rfl rfl ?_);conv=>whnf)|((refine ai.fn (hB) [0,1,2,3,4] [1,2,3,4] rfl rfl rfl rfl rfl ?ha ?hh ?hs ?_);(case ha=>exact zA);(case hh=>exact zD);(case hs=>exact zK);(conv=>whnf))|((refine And.intro (by first|exact .of rfl|exact io ltK (fun l hl=>by rcases l with _|_|_|_|_|l<;>first|rfl|omega) rfl) ?_);conv=>whnf)|((refine At.mk' (w+1) (by show 1+((w:Nat):Int).toNat*1=w+1;omega) ?_);(refine And.intro (by omega) ?_);conv=>whnf)|((refine au (fun hc=>?_) (fun hc=>?_))<;>(try simp only[wz9]at hc)<;>(try (exfalso;omega))<;>(conv=>whnf))))
 all_goals first
  | rw[show bI op key v=.s0 from if_pos (by omega)]
  | rw[show bI op key v=.k0 ⟨op,key,v⟩ from if_neg (by omega)]
 all_goals
  (refine af.sealB [0,1,2,3,4] rfl rfl rfl ?_ ?_);(focus((conv=>whnf);(repeat' (first|exact zE))));(focus((conv=>whnf);(repeat' (first|exact zE|((refine And.intro ?_ ?_)<;>(conv=>whnf))))))
  all_goals first
   | exact bC q5 (eE _ _) (fun l hl=>by rcases l with _|_|_|_|_|l<;>first|rfl|omega) rfl
   | exact bC q5 (eE _ _) (fun l hl=>by rcases l with _|_|_|_|_|l<;>first|rfl|omega) (jU ltK (fun l hl=>by rcases l with _|_|_|_|_|l<;>first|rfl|omega))
   | exact gh q5 (eE _ _) rfl
theorem nj:Fun TC 82 0 [.i .i64 32] [] 3 (.tup [.ptr 0 0,.i .i64 0]) [(0,some (cd 1 2 32 0 0 0)),(1,some (bP 32 fun _=>0)),(2,some (b9 0 fun _=>[]))]:=by
 refine Fun.mk' Tryz.func82 rfl rfl zN (by decide) ?_
 (repeat' (first|((first|refine Wp.any ab rfl ?_|(with_reducible first|refine Go.mk ?_|apply am.of|refine And.intro zC ?_));conv=>whnf)))
 refine af.virtC 1 3 179 6 (fun _=>[]) (by decide) rfl rfl (by decide) ?_
 (refine af.sealB [1,0,2] rfl rfl rfl ?_ ?_);(focus((conv=>whnf);(repeat' (first|exact zE|((refine ak.tup ?_);(conv=>whnf))|((refine And.intro ?_ ?_)<;>(conv=>whnf))))));(focus((conv=>whnf);(repeat' (first|exact zE|((refine And.intro ?_ ?_)<;>(conv=>whnf))))))
theorem mp:Fun TC 50 0 [.i .i64 32] [] 4 (eX 0 2) [(0,some (cd 1 3 32 0 0 0)),(1,some (bP 32 fun _=>0)),(2,some (dn fun _=>[])),(3,some (b9 0 fun _=>[]))]:=by
 refine Fun.mk' Tryz.func50 rfl rfl zN (by decide) ?_
 (repeat' (first|((first|refine Wp.any ab rfl ?_|(with_reducible first|refine Go.mk ?_|apply am.of|refine And.intro zC ?_));conv=>whnf)|((refine aa.fn (nj) [] rfl rfl rfl rfl rfl ?ha ?hh ?_);(case ha=>exact zA);(case hh=>exact zH);(conv=>whnf))))
 (refine af.sealB [0,1,3,2] rfl rfl rfl ?_ ?_);(focus((conv=>whnf);(repeat' (first|exact zE|((refine ak.ptr rfl rfl ?_);(conv=>whnf))|((refine And.intro ?_ ?_)<;>(conv=>whnf))))));(focus((conv=>whnf);(repeat' (first|exact zE|((refine And.intro ?_ ?_)<;>(conv=>whnf))))))
 exact fun i hi=>(show DLe (.val (.slice none 0 0)) (.sl 2 0 _)∧True from⟨.nil,trivial⟩)
theorem ny:Fun TC 24 0 [.i .i64 0,.d (.val (.slice none 0 0)),.d (.fn (.func 25) [])] [] 4 (.iref [eX 0 2,.d (.fn (.func 25) [])] 0)
  [(0,some (cd 1 3 32 (a7 0) 0 1)),(1,some (bP 32 Dir.M0.W)),(2,some (dn Dir.M0.Hd)),(3,some (b9 (a7 0) (dA 0 (fun _=>[]) (eY 0 2 1 0 1 true))))]:=by
 refine Fun.mk' Tryz.func24 rfl rfl zN (by decide) ?_
 (repeat' (first|((first|refine Wp.any ab rfl ?_|(with_reducible first|refine Go.mk ?_|apply am.of|refine Ov.ok zO ?_)|refine zV ?_);conv=>whnf)|((refine aa.fn (mp) [] rfl rfl rfl rfl rfl ?ha ?hh ?_);(case ha=>exact zA);(case hh=>exact zH);(conv=>whnf))|((with_reducible refine ai.pure (bc 0 (by omega) 0) rfl rfl ?_);conv=>whnf)|((refine ai.new (aZ 0 (fun _=>0) (fun _=>[]) (fun _=>[]) 0 0 0 0 1 1 [] (by decide) (by decide) (by decide) (by decide) (by decide) (by decide)) [0,1,2,3] [] rfl rfl rfl rfl rfl rfl ?ha ?hh ?hs ?_);(case ha=>exact zA);(case hh=>exact zH);(case hs=>exact zK);(conv=>whnf))))
 (refine af.sealB [0,1,2,11] rfl rfl rfl ?_ ?_);(focus((conv=>whnf);(repeat' (first|exact zE|((refine ak.ptr rfl rfl ?_);(conv=>whnf))|((refine ak.iref ?_);(conv=>whnf))|((refine And.intro ?_ ?_)<;>(conv=>whnf))))));(focus((conv=>whnf);(repeat' (first|exact zE|((refine And.intro ?_ ?_)<;>(conv=>whnf))))))
 refine fun i hi=>bX.of ?_
 dsimp only
 rw[if_pos rfl]
 unfold Dir.upd
 split<;>rfl
theorem rC:Fun TC 5 0 [] [] 5 (.ptr 0 0) (aN (fun _=>oJ) Dir.M0 (a7 0) (dA 0 (fun _=>[]) (eY 0 2 1 0 1 true)) 0 1):=by
 refine Fun.mk' Tryz.func5 rfl rfl zN (by decide) ?_
 (repeat' (first|((first|refine Wp.any ab rfl ?_|(with_reducible first|refine Go.mk ?_|apply am.of));conv=>whnf)|((refine aa.fn (ny) [] rfl rfl rfl rfl rfl ?ha ?hh ?_);(case ha=>exact zA);(case hh=>exact zH);(conv=>whnf))))
 (refine af.sealB [4,0,1,2,3] rfl rfl rfl ?_ ?_);(focus((conv=>whnf);(repeat' (first|exact zE))));(focus((conv=>whnf);(repeat' (first|exact zE|((refine ak.iref ?_);(conv=>whnf))|((refine And.intro ?_ ?_)<;>(conv=>whnf))))))
 ·exact zzb rfl
 ·exact fun j _=>br (fun _=>.of rfl) j
theorem jy{g:Nat→SV}(q5:∀j,SV.Lt 5 (g j))(M:Dir.Mc)(nl:Nat)(f:Nat→List D)(clk cnt:Int)(h0:0≤M.W 0)(h8:M.W 0≤8) :
  Fun TC 14 5 [.ptr 0 0] (aN g M nl f clk cnt) 5 (.tup [.i .i64 (M.W 0/2),.b (decide (M.W 0%2=1))]) (aN g M nl f clk cnt):=by
 have qr:(M.W 0).tmod 2=M.W 0%2:=Q6 h0
 refine Fun.mk' Tryz.func14 rfl rfl zN (by decide) ?_
 (repeat' (first|((first|refine Wp.any ab rfl ?_|(with_reducible first|refine Go.mk ?_|apply am.of|refine Ov.ok zO ?_|refine And.intro zC ?_));conv=>whnf)|(with_reducible refine aa.inline Tryz.func42 rfl rfl rfl (zzb rfl) ?_)|((with_reducible refine At.mk' 0 rfl ?_);conv=>whnf)|((refine aa.fn (bN nl M.W M.Hd f clk cnt 0 (by decide)) [1,2,3,4] rfl rfl rfl rfl rfl ?ha ?hh ?_);(case ha=>exact zA);(case hh=>exact zH);(conv=>whnf))|(with_reducible refine Ov.tdivN (by omega) ?_)))
 rw[qr]
 (refine af.sealB [0,1,2,3,4] rfl rfl rfl ?_ ?_);(focus((conv=>whnf);(repeat' (first|exact zE))));(focus((conv=>whnf);(repeat' (first|exact zE|((refine And.intro ?_ ?_)<;>(conv=>whnf))))))
theorem jw{g:Nat→SV}(q5:∀j,SV.Lt 5 (g j))(M:Dir.Mc)(nl:Nat)(f:Nat→List D)(clk cnt:Int)(h0:0≤cnt)(h8:cnt≤4611686018427387904) :
  Fun TC 18 5 [.ptr 0 0] (aN g M nl f clk cnt) 5 (.i .i64 (cnt-1)) (aN g M nl f clk cnt):=by
 refine Fun.mk' Tryz.func18 rfl rfl zN (by decide) ?_
 (repeat' (first|((first|refine Wp.any ab rfl ?_|(with_reducible first|refine Go.mk ?_|apply am.of|refine Ov.ok zO ?_|refine And.intro zC ?_));conv=>whnf)|(with_reducible refine aa.inline Tryz.func43 rfl rfl rfl (zzb rfl) ?_)|((with_reducible refine At.mk' 0 rfl ?_);conv=>whnf)))
 (refine af.sealB [0,1,2,3,4] rfl rfl rfl ?_ ?_);(focus((conv=>whnf);(repeat' (first|exact zE))));(focus((conv=>whnf);(repeat' (first|exact zE|((refine And.intro ?_ ?_)<;>(conv=>whnf))))))
section
namespace Dir
def Hn(n:Nat)(h:List Ent):Prop:=h.length≤n∧∀e∈h,IsB e.key
theorem Hn.mono{n m:Nat}{h:List Ent}(x:Hn n h)(e:n≤m):Hn m h:=⟨Nat.le_trans x.1 e,x.2⟩
theorem Hn.get{n:Nat}{h:List Ent}(x:Hn n h)(k:Nat):IsB (h.getD k default).key:=by
 rw[Q1]
 cases e:h[k]? with
 | none=>intro y hy;exact absurd hy (by simp[default,instInhabitedEnt.default])
 | some z=>exact x.2 z (List.mem_of_getElem? e)
theorem Hn.ok{n:Nat}{h:List Ent}(x:Hn n h)(hn:n≤16000000):HOK h:=⟨Nat.le_trans x.1 hn,x.get⟩
theorem Hn.cut{n:Nat}{h:List Ent}(x:Hn n h)(lv sh:Nat):Hn n (bM h lv sh) :=
 ⟨Nat.le_trans (List.length_filter_le _ _) x.1,fun e he=>x.2 e (List.mem_filter.1 he).1⟩
theorem Hn.fnd{n:Nat}{c:Kc}{h m:List Ent}{k:Int}(x:Hn n h)(hc:IsB c.key)(e:dG c h=.inr (m,k)):Hn (n+1) m:=by
 unfold dG at e
 have hp:=jW h c.key
 split at e
 ·cases e
 ·split at e
  ·cases e
  ·split at e
   ·cases e
    refine⟨?_,fun y hy=>?_⟩
    ·unfold cj;simp;have:=x.1;omega
    ·unfold cj at hy
     rcases List.mem_append.1 hy with hy|hy
     ·exact x.2 y (List.mem_of_mem_take hy)
     ·exact x.2 y (List.mem_of_mem_drop hy)
   ·split at e
    ·cases e
     refine⟨by rw[List.length_set];have:=x.1;omega,fun y hy=>?_⟩
     rcases List.mem_or_eq_of_mem_set hy with hy|rfl
     ·exact x.2 y hy
     ·exact x.get _
    ·cases e
     refine⟨by rw[bz _ _ _ hp];have:=x.1;omega,fun y hy=>?_⟩
     unfold cH at hy
     rcases List.mem_append.1 hy with hy|hy
     ·rcases List.mem_append.1 hy with hy|hy
      ·exact x.2 y (List.mem_of_mem_take hy)
      ·rw[List.mem_singleton]at hy;subst hy;exact hc
     ·exact x.2 y (List.mem_of_mem_drop hy)
def okH(n:Nat):CS→Prop
 | .k0 c=>IsB c.key
 | .kE c _=>IsB c.key
 | .kF c _ _=>IsB c.key
 | .kG c _ _ v h=>IsB c.key∧Hn n h∧0≤v
 | .kH c _ _ h=>IsB c.key∧Hn n h
 | .kL c _ _ h=>IsB c.key∧Hn n h
 | .kS c _ _ m _=>IsB c.key∧Hn n m
 | .sG _ _ v h=>Hn n h∧0≤v
 | .sH _ _ _ h=>Hn n h
 | .sL _ _ _ h=>Hn n h
 | _=>True
theorem okH.mono{n m:Nat}(e:n≤m){s:CS}(h:okH n s):okH m s:=by
 cases s<;>first|trivial|exact h|exact⟨h.1,h.2.1.mono e,h.2.2⟩|exact⟨h.1,h.2.mono e⟩|exact⟨Hn.mono h.1 e,h.2⟩|exact Hn.mono h e
theorem i3{lv:Nat}(s:Int):∃i,i<2^lv∧plc lv s=2^lv+i:=by
 refine⟨(s%2^lv).toNat,?_,rfl⟩
 have e:((2^lv:Nat):Int)=2^lv:=by simp
 have h0:(0:Int)<2^lv:=Int.pow_pos (by decide)
 have h1:=Int.emod_lt_of_pos s h0
 have h2:=Int.emod_nonneg s (Int.ne_of_gt h0)
 omega
theorem kZ{lv i:Nat}(h:lv≤4)(hi:i<2^lv):2^lv+i<32:=by
 have:2^lv≤2^4:=Q16 (by omega) h
 omega
theorem found_H{n:Nat}{c:Kc}{w:Nat}{v:Int}{h:List Ent}(hh:Hn n h)(hc:IsB c.key):okH (n+1) (found ae c w v h).1:=by
 unfold found
 cases e:ae.fnd c h with
 | inl r=>trivial
 | inr p=>exact⟨hc,hh.fnd hc (show dG c h=.inr (p.1,p.2)from e)⟩
theorem jo{n:Nat}{c:Kc}{w:Nat}{v:Int}{h:List Ent}(hh:Hn n h)(hc:IsB c.key):okH (n+1) (entered ae c w v h).1:=by
 unfold entered
 split
 ·exact hc
 ·exact found_H hh hc
theorem on_H{n lv i:Nat}{up:Bool}{h:List Ent}(hh:Hn n h):okH n (on lv i up h):=by
 unfold on move
 split
 ·split<;>trivial
 ·exact hh
theorem jM{n:Nat}{f:Nat→List Ent}(hf:∀w,Hn n (f w)){w:Nat}{h:List Ent}(hh:Hn n h):∀j,Hn n (upd f w h j):=fun j=>by
 unfold upd;split
 ·exact hh
 ·exact hf j
theorem Iw.pos{W:Nat→Int}{B:Int}(h:Iw W B){lv i:Nat}(hl:lv≤4)(hi:i<2^lv):0≤W (2^lv+i):=(h.w lv i hl hi).1
theorem nilH{n:Nat}:Hn n []:=⟨Nat.zero_le _,by simp⟩
theorem step_H{n:Nat}{M:Mc}{B:Int}(hI:Iw M.W B)(hM:∀w,Hn n (M.Hd w)){s:CS}(hs:Cw ae M.W s)(h:okH n s):(∀w,Hn (n+1) ((step ae M s).1.Hd w))∧okH (n+1) (step ae M s).2.1:=by
  have hM':∀w,Hn (n+1) (M.Hd w):=fun w=>(hM w).mono (by omega)
  cases s with
  | none=>exact⟨hM',trivial⟩
  | k0 c=>exact⟨hM',by simp only[step];split<;>exact h⟩
  | kE c w=>exact⟨hM',jo (hM w) h⟩
  | kF c lv w =>
    refine⟨hM',?_⟩
    obtain⟨i,hi,e⟩:=i3 (lv:=lv) (ae.sum c.key)
    have hw:0≤M.W w:=by rw[hs.2.1,e];exact hI.pos (by have:=hs.1;omega) hi
    simp only[step];split
    ·exact⟨h,hM' w⟩
    ·exact⟨h,hM' w,hw⟩
  | kG c lv w v l =>
    have hl:=h.2.1.mono (Nat.le_succ n)
    simp only[step];split
    ·exact⟨jM hM' hl,h.1,hl⟩
    ·exact⟨hM',h.1⟩
  | kH c lv w l =>
    simp only[step];split
    ·exact⟨hM',h.1,h.2.mono (Nat.le_succ n)⟩
    ·exact⟨hM',jo (hM w) h.1⟩
  | kL c lv w l =>
    simp only[step];split
    ·exact⟨jM hM' ((h.2.mono (Nat.le_succ n)).cut _ _),h.1⟩
    ·exact⟨hM',h.1⟩
  | kS c w v m k =>
    simp only[step];split
    ·exact⟨jM hM' (h.2.mono (Nat.le_succ n)),trivial⟩
    ·exact⟨hM',h.1⟩
  | s0 => simp only[step];split
          ·exact⟨hM',trivial⟩
          ·split<;>exact⟨hM',trivial⟩
  | sM lv => simp only[step];split
             ·exact⟨jM hM' nilH,trivial⟩
             ·exact⟨hM',trivial⟩
  | sF lv i =>
    refine⟨hM',?_⟩
    have hw:0≤M.W (2^lv+i):=hI.pos (by have:=hs.1;omega) hs.2.1
    simp only[step];split
    ·exact hM' _
    ·exact⟨hM' _,hw⟩
  | sG lv i v l =>
    have hl:=h.1.mono (Nat.le_succ n)
    simp only[step];split
    ·exact⟨jM hM' hl,hl⟩
    ·exact⟨hM',trivial⟩
  | sH lv i up l =>
    have hl:Hn (n+1) l:=Hn.mono h (Nat.le_succ n)
    refine⟨hM',?_⟩
    simp only[step];split
    ·exact hl
    ·exact on_H hl
  | sL lv i up l =>
    have hl:Hn (n+1) l:=Hn.mono h (Nat.le_succ n)
    refine⟨?_,on_H hl⟩
    simp only[step];split
    ·exact jM hM' (hl.cut _ _)
    ·exact hM'
  | sV lv =>
    refine⟨?_,trivial⟩
    simp only[step];split
    ·exact jM hM' nilH
    ·exact hM'
end Dir
open Dir in
theorem okC_of{n:Nat}{W:Nat→Int}{s:Dir.CS}(hs:Dir.Cw ae W s)(h:Dir.okH n s)(hn:n≤16000000):okC s:=by
 cases s with
 | none=>trivial
 | k0 c=>trivial
 | kE c w=>exact⟨hs.2,h⟩
 | kF c lv w =>
  obtain⟨i,hi,e⟩:=i3 (lv:=lv) (ae.sum c.key)
  exact⟨hs.1,by rw[hs.2.1,e];exact kZ (by have:=hs.1;omega) hi⟩
 | kG c lv w v l =>
  obtain⟨i,hi,e⟩:=i3 (lv:=lv) (ae.sum c.key)
  exact⟨⟨hs.1,by rw[hs.2.1,e];exact kZ (by have:=hs.1;omega) hi⟩,h.2.2,hs.2.2.2⟩
 | kH c lv w l =>
  obtain⟨i,hi,e⟩:=i3 (lv:=lv) (ae.sum c.key)
  exact⟨by rw[hs.2.2.1,e];exact kZ hs.2.1 hi,h.1⟩
 | kL c lv w l =>
  obtain⟨i,hi,e⟩:=i3 (lv:=lv) (ae.sum c.key)
  exact⟨⟨hs.2.1,by rw[hs.2.2.1,e];omega,by rw[hs.2.2.1,e];exact kZ hs.2.1 hi⟩,h.2.ok hn⟩
 | kS c w v m k=>exact⟨hs.2.1,Int.le_of_lt hs.2.2.1,hs.2.2.2⟩
 | s0=>trivial
 | sM lv=>exact hs
 | sF lv i=>exact⟨hs.1,hs.2.1⟩
 | sG lv i v l=>exact⟨⟨hs.1,hs.2.1⟩,h.2,hs.2.2.2.2⟩
 | sH lv i up l=>exact⟨hs.1,hs.2.1⟩
 | sL lv i up l=>exact⟨⟨hs.1,hs.2.1⟩,Hn.ok h hn⟩
 | sV lv=>exact hs.1
end
end Go.Proofs.YtejiekfnaddanaaGreat
