/- Lemmas of Sn1, Sn2. No condition. -/
import Derived.Test.YtgkpjebgcfjfnaaGreatMM22
set_option linter.unusedVariables false
set_option linter.unusedSimpArgs false
set_option linter.unusedSectionVars false
set_option maxHeartbeats 80000000
set_option maxRecDepth 100000
namespace Go.Proofs.YtgkpjebgcfjfnaaGreat
open Go.RowKit
section
open Sim
@[reducible] def repZ:SV:=.tup [.agg [.d (.val (.slice none 0 0)),.d (.val (.slice none 0 0)),.i .i64 0,.i .i64 0,.i .i64 0,.i .i64 0],.i .i64 2]
theorem mE{room:Int}{work:List (List Req)}{picks:List (Int×Int)}(fin:Bool)(h:Sim.Ok ax room work picks)(hL:nj work picks)(hs:ny work work.length≤1000000)(hw:work.length≤1000000)(hp:picks.length≤1000000) :
  Pure TC 6 [cfgS ax room work picks fin] repZ:=by
 have hC:=lA fin h hs hw hp
 rw[if_pos hL]at hC
 refine Pure.mk' Tryz.func6 rfl rfl zN ?_
 (repeat' (first|((first|refine Wp.any ac rfl ?_|(with_reducible first|refine Go.mk ?_|apply aj.of|refine ab.pure (hC) rfl rfl ?_));conv=>whnf)))
 all_goals exact .rfl _
namespace Sim
def spl:Req:=⟨6,0,[],0⟩
def wkL(w n:Nat):List (List Req):=List.replicate n spl::List.replicate (w-1) []
theorem mq{w n:Nat}(hw:1≤w):(wkL w n).length=w:=by simp[wkL];omega
theorem pU{w n j:Nat}(hj:1≤j):(wkL w n).getD j []=[]:=by
 obtain⟨i,rfl⟩:∃i,j=i+1:=⟨j-1,by omega⟩
 rw[wkL,List.getD_cons_succ,Q1,List.getElem?_replicate]
 split<;>rfl
theorem pT{w n:Nat}{l:List Req}(h:l∈wkL w n){c:Req}(hc:c∈l):c=spl:=by
 rcases Q22 h with rfl|h
 ·exact(List.mem_replicate.1 hc).2
 ·rw[(List.mem_replicate.1 h).2]at hc;exact absurd hc (by simp)
theorem wkL_sum{w n:Nat}(hw:1≤w):ny (wkL w n) (wkL w n).length=n:=by
 unfold ny wkL
 rw[List.take_length]
 simp
theorem jk{P:Core.Ops}{w n:Nat}(hw:2≤w):∀p,picks P (ss0 (wkL w n)) (List.replicate p ((w:Int)-1,0))=ss0 (wkL w n)
 | 0=>rfl
 | p+1=>by
  rw[List.replicate_succ]
  show picks P (pick P (ss0 (wkL w n)) ((w:Int)-1,0)) (List.replicate p ((w:Int)-1,0))=_
  have:pick P (ss0 (wkL w n)) ((w:Int)-1,0)=ss0 (wkL w n):=by
   unfold pick
   rw[if_neg (by show ¬(w:Int)-1=-1;omega)]
   show(go P _ ((w:Int)-1).toNat).1=_
   rw[rE (by rfl) (by show(wkL w n).getD ((w:Int)-1).toNat []=[];exact pU (by omega))]
  rw[this]
  exact jk hw p
theorem qM:∀n,pend S0 n=0
 | 0=>rfl
 | n+1=>by
  show pend S0 n+(if isC (S0 n).s=true then 1 else 0)=0
  rw[qM n];rfl
theorem xf{w n p:Nat}(hw:2≤w):Sim.Ok ax 4 (wkL w n) (List.replicate p ((w:Int)-1,0)):=by
 refine⟨by decide,fun l hl c hc=>?_,fun q hq=>?_⟩
 ·rw[pT hl hc];decide
 ·rw[(List.mem_replicate.1 hq).2,mq (by omega)]
  exact⟨by show(-1:Int)≤(w:Int)-1;omega,by show(w:Int)-1<w;omega,fun h=>by have h:(w:Int)-1=-1:=h;omega⟩
theorem s7{w n:Nat}:∀l∈wkL w n,∀c∈l,jM c:=fun l hl c hc=>by
 rw[pT hl hc]
 refine⟨by decide,by decide,by decide,fun _ h=>absurd rfl h,by decide⟩
end Sim
theorem wn{w n p:Nat}(hw:60≤w∧w≤67)(hn:n≤5000)(hp:p≤70000) :
  (¬(64<w∨4096<n∨65536<p)→∃x y z:SV,x.free=true∧Pure TC 6 [cfgS ax 4 (wkL w n) (List.replicate p ((w:Int)-1,0)) false] (.tup [.agg [.d (ao 13 Dn.D []),x,y,.i .i64 0,z,.i .i64 0],.i .i64 0])) ∧
  ((64<w∨4096<n∨65536<p)→Pure TC 6 [cfgS ax 4 (wkL w n) (List.replicate p ((w:Int)-1,0)) false] repZ):=by
 have hl:=mq (w:=w) (n:=n) (by omega)
 have hsm:=wkL_sum (w:=w) (n:=n) (by omega)
 have hpl:(List.replicate p ((w:Int)-1,(0:Int))).length=p:=List.length_replicate
 have hLong:nj (wkL w n) (List.replicate p ((w:Int)-1,0))↔(64<w∨4096<n∨65536<p):=by
  unfold nj
  rw[hl,hpl]
  rw[hl]at hsm
  rw[hsm]
 refine⟨fun h=>?_,fun h=>mE false (xf (by omega)) (hLong.2 h) (by omega) (by omega) (by omega)⟩
 have hR:=qp (room:=4) ⟨by decide,by decide⟩ false (xf (w:=w) (n:=n) (p:=p) (by omega)) (fun q=>h (hLong.1 q)) s7 (fun j hj=>pU (by omega))
 rw[jt,jk (by omega)]at hR
 dsimp only[repS]at hR
 have e2:pend (ss0 (wkL w n)).S (wkL w n).length=0:=qM _
 rw[e2]at hR
 exact⟨_,_,_,rfl,hR⟩
end
section
open Sim
@[reducible] def nil0:D:=.val (.slice none 0 0)
@[reducible] def spl0:List D:=[.val (.int .u8 6),.val (.int .i64 0),.val (.slice none 0 0),.val (.int .i64 0)]
def gE(l k:Nat)(j:Nat):SV:=bif Nat.beq j 0 then .sl l 4 0 k else .d (ao 4 Req.D [])
theorem gE_lt{l k m:Nat}(h:Nat.blt l m=true)(j:Nat):SV.Lt m (gE l k j):=by
 unfold gE
 cases Nat.beq j 0 with
 | true=>exact .sl _ _ _ _ (by simpa using h)
 | false=>exact .d _
theorem gE_arg{L:List Nat}{l l' k:Nat}(hi:ij L l=some l')(j:Nat):ae L (gE l k j) (gE l' k j):=by
 unfold gE
 cases Nat.beq j 0 with
 | true=>exact .sl hi
 | false=>exact .rfl rfl
theorem gWE_arg{L:List Nat}{l l' k:Nat}(hi:ij L l=some l')(j:Nat):ae L (gW l k j) (gE l' k j):=by
 unfold gW gE
 cases Nat.beq j 0 with
 | true=>exact .sl hi
 | false=>exact .free SV.Le.nil rfl
theorem Pure.leRX{C:Cx}{g:Nat}{args:List SV}{r r':SV}(h:Pure C g args r)(hr:SV.Le r r'):Pure C g args r' :=
 ⟨h.ent,fun E w vs hI hsz hargs=>(h.out E w vs hI hsz hargs).mono (by rintro e w' ⟨v,h1,h2,h3⟩;exact⟨v,h1,h2,hr.out _ _ _ _ h3⟩)⟩
theorem lc (a b c:Nat) (ha:a≤255) (hb:b≤255) (hc0:c≤255):Pure TC 3 [.i .u8 a,.i .u8 b,.i .u8 c] (.b true):=by
 obtain⟨w,hw,hwb⟩:∃w:Nat,60+(a:Int).tmod 8=w∧(60≤w∧w≤67):=⟨60+a%8,by have:=Q6 (a:=(a:Int)) (b:=8) (by omega);omega,by omega⟩
 obtain⟨n,hn,hnb⟩:∃n:Nat,4090+(b:Int).tmod 12=n∧(4090≤n∧n≤4101):=⟨4090+b%12,by have:=Q6 (a:=(b:Int)) (b:=12) (by omega);omega,by omega⟩
 obtain⟨p,hp,hpb⟩:∃p:Nat,65530+(c:Int).tmod 12=p∧(65530≤p∧p≤65541):=⟨65530+c%12,by have:=Q6 (a:=(c:Int)) (b:=12) (by omega);omega,by omega⟩
 obtain⟨r1,r2⟩:=wn (w:=w) (n:=n) (p:=p) hwb (by omega) (by omega)
 refine Pure.mk' Tryz.func3 rfl rfl zN ?_
 (repeat' (first|((first|refine Wp.any ac rfl ?_|(with_reducible first|refine Go.mk ?_|apply aj.of|refine Ov.ok zO ?_|refine And.intro zC ?_|refine ab.pure (awake19) rfl rfl ?_|refine ab.pure (ic) rfl rfl ?_));conv=>whnf)))
 refine Wp.le (Le.virtC 0 2 29 1 (fun _=>[nil0]) (by decide) rfl rfl) ?_
 refine Wp.loopP (ι:=Nat) (fun i=>i≤w) (fun i=>⟨⟨Tryz.f3.ntmps,0⟩,2,[(7,.ptr 0 0),(8,.i .i64 w),(9,.i .i64 n),(10,.i .i64 p),(29,.i .i64 w),(30,.i .i64 i)],
  [(0,some (.cells [.d (ao 4 Pol.D ax),.i .i64 4,.sl 1 1 0 i,.d nil0,.b false])),(1,some (.row 29 1 i fun _=>[nil0]))]⟩) (fun i=>w-i) 0 (Nat.zero_le _) ?_ ?_
 ·(refine Le.by [0,1] rfl rfl rfl rfl ?_ ?_<;>((conv=>whnf);repeat' (first|exact trivial|exact ae.rfl rfl|exact ae.ptr rfl|exact ae.sl rfl|exact⟨rfl,rfl,rfl⟩|exact fun i hi=>rfl|((with_reducible refine And.intro ?_ ?_)<;>(conv=>whnf)))))
  all_goals first|(rw[hw];exact ae.rfl rfl)|(rw[hn];exact ae.rfl rfl)|(rw[hp];exact ae.rfl rfl)
 ·rintro i h1
  by_cases hi:i<w
  ·(repeat' (first|((first|refine Wp.any ac rfl ?_|(with_reducible first|refine Go.mk ?_|apply aj.of|refine Ov.ok zO ?_|refine And.intro zC ?_));conv=>whnf)|((with_reducible refine And.intro ?hb ?_);(case hb=>exact zz9);(conv=>whnf))|((refine ap (fun hc=>?_) (fun hc=>?_))<;>(try simp only[wz9]at hc)<;>(try (exfalso;omega))<;>(conv=>whnf))))
   refine⟨i+1,by dsimp only;omega,by dsimp only;omega,?_⟩
   (refine Le.by [0,3] rfl rfl rfl rfl ?_ ?_<;>((conv=>whnf);repeat' (first|exact trivial|exact ae.rfl rfl|exact ae.ptr rfl|exact ae.sl rfl|exact⟨rfl,rfl,rfl⟩|((with_reducible refine And.intro ?_ ?_)<;>(conv=>whnf)))))
   all_goals first
    | (intro j hj;dsimp only;unfold bB;split<;>first|rfl|(rw[Nat.sub_eq_zero_of_le (by omega)];rfl))
  ·obtain rfl:i=w:=by omega
   (repeat' (first|((first|refine Wp.any ac rfl ?_|(with_reducible first|refine Go.mk ?_|apply aj.of));conv=>whnf)|((refine ap (fun hc=>?_) (fun hc=>?_))<;>(try simp only[wz9]at hc)<;>(try (exfalso;omega))<;>(conv=>whnf))))
   refine Wp.le (Le.rowCf 1 (fun _=>.d nil0) rfl fun i _=>⟨nil0,rfl,rfl⟩) ?_
   refine Wp.le (Le.virtN 1 32 4 (fun _=>spl0) (by decide) rfl rfl) ?_
   refine Wp.loopP (ι:=Nat) (fun k=>k≤n) (fun k=>⟨⟨Tryz.f3.ntmps,0⟩,3,[(7,.ptr 0 0),(8,.i .i64 i),(9,.i .i64 n),(10,.i .i64 p),(38,.i .i64 n),(39,.i .i64 k)],
    [(0,some (.cells [.d (ao 4 Pol.D ax),.i .i64 4,.sl 1 1 0 i,.d nil0,.b false])),(1,some (.cf 3 i (gW 2 k))),(2,some (.row 32 4 k fun _=>spl0))]⟩) (fun k=>n-k) 0 (Nat.zero_le _) ?_ ?_
   ·(refine Le.by [0,1,2] rfl rfl rfl rfl ?_ ?_<;>((conv=>whnf);repeat' (first|exact trivial|exact ae.rfl rfl|exact ae.ptr rfl|exact ae.sl rfl|exact⟨rfl,rfl,rfl⟩|exact⟨rfl,zzb rfl⟩|exact fun i hi=>rfl|((with_reducible refine And.intro ?_ ?_)<;>(conv=>whnf)))))
    all_goals first
     | exact fun j _=>⟨xG rfl j,gW_lt rfl j⟩
   ·rintro k h1
    by_cases hk:k<n
    ·(repeat' (first|((first|refine Or.inr (CfS.gW rfl (by omega) rfl ?_)|with_reducible refine CfV.mk (And.intro (by omega) ?_)|refine Wp.any ac rfl ?_|(with_reducible first|refine Go.mk ?_|apply aj.of));conv=>whnf)|with_reducible exact rfl|((first|with_reducible refine Ov.ok zO ?_|refine zV ?_|with_reducible refine And.intro zC ?_);conv=>whnf)|((refine mp.b rfl rfl rfl rfl rfl rfl rfl rfl ?hb ?ho ?_);(case hb=>exact zB);(case ho=>omega);(conv=>whnf))|(with_reducible refine Or.inl ?_)|((refine ap (fun hc=>?_) (fun hc=>?_))<;>(try simp only[wz9]at hc)<;>(try (exfalso;omega))<;>(conv=>whnf))))
     refine⟨k+1,by dsimp only;omega,by dsimp only;omega,?_⟩
     (refine Le.by [0,1,11] rfl rfl rfl rfl ?_ ?_<;>((conv=>whnf);repeat' (first|exact trivial|exact ae.rfl rfl|exact ae.ptr rfl|exact ae.sl rfl|exact⟨rfl,rfl,rfl⟩|exact⟨rfl,zzb rfl⟩|((with_reducible refine And.intro ?_ ?_)<;>(conv=>whnf)))))
     all_goals first
      | exact fun j _=>⟨xG rfl j,gW_lt rfl j⟩
      | (intro j hj;dsimp only;unfold bB;split<;>first|rfl|(rw[Nat.sub_eq_zero_of_le (by omega)];rfl))
    ·obtain rfl:k=n:=by omega
     (repeat' (first|((first|refine Wp.any ac rfl ?_|(with_reducible first|refine Go.mk ?_|apply aj.of));conv=>whnf)|((refine ap (fun hc=>?_) (fun hc=>?_))<;>(try simp only[wz9]at hc)<;>(try (exfalso;omega))<;>(conv=>whnf))))
     refine Wp.le (Le.rowD 2 (fun j=>Req.D ((List.replicate k spl).getD j default)) rfl fun j hj=>?_) ?_
     ·rw[show(List.replicate k spl).getD j default=spl by rw[Q1,List.getElem?_replicate,if_pos hj];rfl]
      exact⟨.refl _,.refl _,.nil,.refl _,trivial⟩
     refine Wp.le (Le.virtC 0 3 34 2 (fun _=>fZ ((i:Int)-1,0)) (by decide) rfl rfl) ?_
     refine Wp.loopP (ι:=Nat) (fun q=>q≤p) (fun q=>⟨⟨Tryz.f3.ntmps,0⟩,4,[(7,.ptr 0 0),(8,.i .i64 i),(9,.i .i64 k),(10,.i .i64 p),(52,.i .i64 p),(53,.i .i64 q)],
      [(0,some (.cells [.d (ao 4 Pol.D ax),.i .i64 4,.sl 1 1 0 i,.sl 3 2 0 q,.b false])),(1,some (.cf 3 i (gE 2 k))),(2,some (.row 32 4 k fun j=>Req.D ((List.replicate k spl).getD j default))),(3,some (.row 34 2 q fun _=>fZ ((i:Int)-1,0)))]⟩) (fun q=>p-q) 0 (Nat.zero_le _) ?_ ?_
     ·(refine Le.by [0,1,2,3] rfl rfl rfl rfl ?_ ?_<;>((conv=>whnf);repeat' (first|exact trivial|exact ae.rfl rfl|exact ae.ptr rfl|exact ae.sl rfl|exact⟨rfl,rfl,rfl⟩|exact⟨rfl,zzb rfl⟩|exact fun i hi=>rfl|((with_reducible refine And.intro ?_ ?_)<;>(conv=>whnf)))))
      all_goals first
       | exact fun j _=>⟨gWE_arg rfl j,gE_lt rfl j⟩
     ·rintro q h1
      by_cases hq:q<p
      ·(repeat' (first|((first|refine Wp.any ac rfl ?_|(with_reducible first|refine Go.mk ?_|apply aj.of|refine Ov.ok zO ?_|refine And.intro zC ?_));conv=>whnf)|((with_reducible refine And.intro ?hb ?_);(case hb=>exact zz9);(conv=>whnf))|((refine ap (fun hc=>?_) (fun hc=>?_))<;>(try simp only[wz9]at hc)<;>(try (exfalso;omega))<;>(conv=>whnf))))
       refine⟨q+1,by dsimp only;omega,by dsimp only;omega,?_⟩
       (refine Le.by [0,1,2,5] rfl rfl rfl rfl ?_ ?_<;>((conv=>whnf);repeat' (first|exact trivial|exact ae.rfl rfl|exact ae.ptr rfl|exact ae.sl rfl|exact⟨rfl,rfl,rfl⟩|exact⟨rfl,zzb rfl⟩|exact fun i hi=>rfl|((with_reducible refine And.intro ?_ ?_)<;>(conv=>whnf)))))
       all_goals first
        | exact fun j _=>⟨gE_arg rfl j,gE_lt rfl j⟩
        | (intro j hj;dsimp only;unfold bB;split<;>first|rfl|(rw[Nat.sub_eq_zero_of_le (by omega)];rfl))
      ·obtain rfl:q=p:=by omega
       have e1:ao 1 cq (wkL i k)=.sl 1 i fun j=>cq ((wkL i k).getD j default):=by unfold ao;rw[mq (by omega)]
       have e2:ao 2 fZ (List.replicate q ((i:Int)-1,(0:Int)))=.sl 2 q fun j=>fZ ((List.replicate q ((i:Int)-1,(0:Int))).getD j default):=by unfold ao;rw[List.length_replicate]
       have hA:Les [.agg [.d (ao 4 Pol.D ax),.i .i64 4,.d (.sl 1 i fun j=>cq ((wkL i k).getD j default)),.d (.sl 2 q fun j=>(fun _=>fZ ((i:Int)-1,0)) (0+j)),.b false]] [cfgS ax 4 (wkL i k) (List.replicate q ((i:Int)-1,0)) false]:=by
        dsimp only[cfgS]
        rw[e1,e2]
        refine .cons (.agg (.cons (.rfl _) (.cons (.rfl _) (.cons (.rfl _) (.cons (SV.Le.sl fun j hj=>?_) (.cons (.rfl _) .nil)))))) .nil
        rw[show(List.replicate q ((i:Int)-1,(0:Int))).getD j default=((i:Int)-1,0)by rw[Q1,List.getElem?_replicate,if_pos hj];rfl]
       refine Wp.frzN 0 2 (fun j=>cq ((wkL i k).getD j default)) rfl rfl rfl (by omega) rfl rfl (Q4 _) (by decide) (by decide) (by decide) ?_ ?_ ?_
       ·show[D.sl 4 (List.replicate k spl).length _]=_
        rw[List.length_replicate];simp only[Q19];rfl
       ·rintro j h0 h2
        refine⟨ao 4 Req.D [],?_,?_⟩
        ·unfold gE
         cases hj:Nat.beq j 0 with
         | true=>have:=Q2 hj;omega
         | false=>rfl
        ·show cq ((wkL i k).getD j [])=_
         rw[pU (w:=i) (n:=k) (by omega)]
       refine Wp.frzC 0 3 rfl rfl rfl (by decide) (by simp) ?_
       by_cases hL:64<i∨4096<k∨65536<q
       ·have hR:=(r2 hL).leX hA
        (repeat' (first|((first|refine Wp.any ac rfl ?_|(with_reducible first|refine Go.mk ?_|apply aj.of|refine ab.pure (hR) rfl rfl ?_));conv=>whnf)|((refine ap (fun hc=>?_) (fun hc=>?_))<;>(try simp only[wz9]at hc)<;>(try (exfalso;omega))<;>(conv=>whnf))))
        all_goals exact .rfl _
       ·obtain⟨x,y,z,-,hR⟩:=r1 hL
        have hR:=(hR.leX hA).leRX (r':=.tup [.agg [.d (ao 13 Dn.D []),.any,.any,.i .i64 0,.any,.i .i64 0],.i .i64 0]) (.tup (.cons (.agg (.cons (.rfl _) (.cons .any (.cons .any (.cons (.rfl _) (.cons .any (.cons (.rfl _) .nil))))))) (.cons (.rfl _) .nil)))
        (repeat' (first|((first|refine Wp.any ac rfl ?_|(with_reducible first|refine Go.mk ?_|apply aj.of|refine ab.pure (hR) rfl rfl ?_));conv=>whnf)|((refine ap (fun hc=>?_) (fun hc=>?_))<;>(try simp only[wz9]at hc)<;>(try (exfalso;omega))<;>(conv=>whnf))))
        all_goals exact .rfl _
theorem ml(a b c:Int)(ha:0≤a∧a≤255)(hb:0≤b∧b≤255)(hc:0≤c∧c≤255):Pure TC 3 [.i .u8 a,.i .u8 b,.i .u8 c] (.b true):=by
 obtain⟨a,rfl⟩:=Int.eq_ofNat_of_zero_le ha.1
 obtain⟨b,rfl⟩:=Int.eq_ofNat_of_zero_le hb.1
 obtain⟨c,rfl⟩:=Int.eq_ofNat_of_zero_le hc.1
 exact lc a b c (by omega) (by omega) (by omega)
end
end Go.Proofs.YtgkpjebgcfjfnaaGreat
