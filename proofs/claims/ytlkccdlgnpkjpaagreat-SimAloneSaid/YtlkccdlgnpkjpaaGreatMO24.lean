/- Lemmas of Smc, Smh, Smf, Rs1, Smg, Cv1, Cv2, Sq1, Sq2, Sq3, Sm5, Sq4, Sq5, Pl2, Sq6, Sq7, Smj, Sq8, Sx32. No condition. -/
import Derived.Test.YtlkccdlgnpkjpaaGreatMO23
set_option linter.unusedVariables false
set_option linter.unusedSimpArgs false
set_option linter.unusedSectionVars false
set_option maxHeartbeats 80000000
set_option maxRecDepth 100000
namespace Go.Proofs.YtlkccdlgnpkjpaaGreat
open Go.RowKit
section
open Sim
@[reducible] noncomputable def repS(room:Int)(s:SS)(n:Nat):SV :=
 .tup [.agg [.d (am 13 Dn.D s.out),.d (am 4 Cel.D (aE ak room s.M)),.i .i64 s.M.clk,.i .i64 s.k,.i .i64 (s.M.W 32),.i .i64 (pend s.S n)],.i .i64 0]
theorem rO{room:Int}(hr:1≤room∧room≤4096){work:List (List Req)}{picks:List (Int×Int)}(fin:Bool)(h:Sim.Ok ak room work picks)(hL:¬qT work picks)(hcO:∀w∈work,∀c∈w,db c)(h8:∀j,8≤j→work.getD j []=[]) :
  Pure TC 6 [cfgS ak room work picks fin] (repS room (eT (aa ak room) fin work.length (Sim.picks (aa ak room) (ss0 work) picks)) work.length):=by
 have hL':=hL
 unfold qT at hL'
 have hC:=rN fin h (by omega) (by omega) (by omega)
 rw[if_neg hL]at hC
 have hN:=pM (ps:=ak) (room:=room) h.new
 refine Pure.mk' Tryz.func6 rfl rfl zN ?_
 (repeat' (first|((first|refine Wp.any ac rfl ?_|(with_reducible first|refine Go.mk ?_|apply ai.of|refine ab.pure (hC) rfl rfl ?_));conv=>whnf)|((refine ab.fn (hN) [] rfl rfl rfl rfl rfl ?ha ?hh ?_);(case ha=>exact zA);(case hh=>exact zH);(conv=>whnf))))
 refine Wp.le (Le.virtC 16 1 71 6 (fun i=>wo0 (([]:List (List Req)).getD i default)) (by decide) rfl rfl) ?_
 refine Wp.le (Le.virtC 16 2 50 13 (fun i=>Dn.D (([]:List Dn).getD i default)) (by decide) rfl rfl) ?_
 have x0:∀i j,SV.Lt 1 ((xs0 i).f j):=fun _ _=>.any
 refine Wp.loopP (ι:=Nat) (fun i=>i≤work.length) (fun i=>⟨⟨Tryz.f6.ntmps,0⟩,19,[(1,.ptr 17 0),(2,.ptr 18 0),(3,.i .i64 0),(5,.ptr 0 0),(7,.ptr 14 0),(31,.d (am 1 aQ work)),(32,.i .i64 work.length),(33,.i .i64 i)],
  ao ak room (gOf (aa ak room) 4 S0) Core.M0 xs0 (aC 0) f0' 1++[(14,some (qp (work.take i).length 0 0)),(15,some (ay 71 6 wo0 (work.take i))),(16,some (ay 50 13 Dn.D [])),(17,some (cfgB room work picks fin)),(18,some resB)]⟩) (fun i=>work.length-i) 0 (Nat.zero_le _) ?_ ?_
 ·(refine Le.by [2,3,4,5,6,7,8,9,10,11,12,13,14,15,16,17,18,0,1] rfl rfl rfl rfl ?_ ?_<;>((conv=>whnf);repeat' (first|exact trivial|exact bT (by decide) (fun l hl=>by rcases l with _|_|_|_|l<;>first|exact⟨zzb rfl,rfl⟩|exact⟨zzb rfl,rfl,rfl⟩|omega) (fun q hq=>by rcases q with _|_|_|_|_|_|_|_|_|q<;>first|exact⟨zzb rfl,rfl⟩|omega)|exact ae.rfl rfl|exact ae.ptr rfl|exact ae.sl rfl|exact⟨rfl,rfl,rfl⟩|exact⟨rfl,zzb rfl⟩|exact fun i hi=>rfl|((with_reducible refine And.intro ?_ ?_)<;>(conv=>whnf)))))
  all_goals exact fun j hj=>absurd hj (Nat.not_lt_zero j)
 ·rintro i h1
  have hlt:(work.take i).length=i:=by rw[Q10];omega
  (repeat' (first|((first|refine Wp.any ac rfl ?_|(with_reducible first|refine Go.mk ?_|apply ai.of|refine Ov.ok zO ?_|refine And.intro zC ?_));conv=>whnf)|((with_reducible refine And.intro ?hb ?_);(case hb=>exact zz6);(conv=>whnf))|((refine aq (fun hc=>?_) (fun hc=>?_))<;>(try simp only[wz9]at hc)<;>(try (exfalso;omega))<;>(conv=>whnf))))
  ·refine⟨i+1,by dsimp only;omega,by dsimp only;omega,?_⟩
   dsimp only
   rw[eJ (by omega)]
   (refine Le.by [0,1,2,3,4,5,6,7,8,9,10,11,12,13,14,20,16,17,18] rfl rfl rfl rfl ?_ ?_<;>((conv=>whnf);repeat' (first|exact trivial|exact cF (by decide) (by decide) (fun l hl=>by rcases l with _|_|_|_|l<;>first|exact⟨zzb rfl,rfl⟩|exact⟨zzb rfl,rfl,rfl⟩|omega) (fun q hq=>by rcases q with _|_|_|_|_|_|_|_|_|q<;>first|exact⟨zzb rfl,rfl⟩|omega)|exact ae.rfl rfl|exact ae.ptr rfl|exact ae.sl rfl|exact⟨rfl,rfl,rfl⟩|exact⟨rfl,zzb rfl⟩|exact gz (by assumption)|exact fun i hi=>rfl|((with_reducible refine And.intro ?_ ?_)<;>(conv=>whnf)))))
   all_goals first|(rw[Q9];exact ae.sl rfl)|exact y3 _ _|rfl|(rw[Q9];rfl)
  ·obtain rfl:i=work.length:=by omega
   rw[List.take_length]
   refine Wp.le (Le.rowD 15 (fun j=>(((ss0 work).ws j).D)) rfl fun j hj=>?_) ?_
   ·show gy (wo0 (work.getD j default)) (Wo.D ((ss0 work).ws j))
    exact⟨.refl _,.refl _,.refl _,.nil,.refl _,.refl _,trivial⟩
   have hI0:SI room xs0 (aC 0) (ss0 work):=.zero ⟨hr.1,by have:=hr.2;omega⟩ (.inr h8) hcO
   refine Wp.endB 2 (RE2 room work picks) (RJ2 room work picks fin) ?_ ?_
   ·refine Wp.loopP (RP2 room work picks) (RI2 room work picks fin) (fun k=>picks.length-k.1) (0,ss0 work,xs0,aC 0,f0') ⟨Nat.zero_le _,rfl,hI0,Nat.zero_le _,Q4 _⟩ ?_ ?_
    ·dsimp only[RI2]
     (refine Le.by [0,1,2,3,4,5,6,7,8,9,10,11,12,13,14,15,16,17,18] rfl rfl rfl rfl ?_ ?_<;>((conv=>whnf);repeat' (first|exact trivial|exact cF (by decide) (by decide) (fun l hl=>by rcases l with _|_|_|_|l<;>first|exact⟨zzb rfl,rfl⟩|exact⟨zzb rfl,rfl,rfl⟩|omega) (fun q hq=>by rcases q with _|_|_|_|_|_|_|_|_|q<;>first|exact⟨zzb rfl,rfl⟩|omega)|exact ae.rfl rfl|exact ae.ptr rfl|exact ae.sl rfl|exact⟨rfl,rfl,rfl⟩|exact⟨rfl,zzb rfl⟩|exact gz (by assumption)|exact fun i hi=>rfl|((with_reducible refine And.intro ?_ ?_)<;>(conv=>whnf)))))
    ·rintro⟨i,s,xs,nl,f⟩ ⟨a1,a2,a3,a4,a5⟩
     dsimp only at a1 a2 a3 a4 a5
     by_cases hi:i<picks.length
     ·have hm:=h.pick _ (cy hi)
      by_cases h0:(picks.getD (i:Int).toNat default).1=-1
      ·exact run_2t hi (by omega) a2 a3 a4 a5 h0 (hm.2.2 h0).1 (hm.2.2 h0).2
      ·exact run_2w hi (by omega) (by omega) a2 a3 a4 a5 (w:=(picks.getD (i:Int).toNat default).1.toNat) (by omega) (by omega)
     ·obtain rfl:i=picks.length:=by omega
      exact run_2e a2 a3 a4 a5
   ·rintro⟨s,xs,nl,f⟩ ⟨b1,b2,b3,b4⟩ S' hl
    dsimp only at b1 b2 b3 b4 hl
    have xc:=b2.law.xl
    show Wp TC _ S' _
    refine Wp.le hl ?_
    have hm0:=o6 (s:=s) (t:=ss0 work) (fun j=>by rw[b1];exact jZ j picks _) work.length
    have hm1:=nW work work.length (Q4 _)
    have hm2:((work.take work.length).map List.length).sum=qX work work.length:=rfl
    (repeat' (first|((first|refine Wp.any ac rfl ?_|(with_reducible first|refine Go.mk ?_|apply ai.of));conv=>whnf)))
    refine Wp.endB 4 (RE4 room fin s work.length) (RJ4 room work picks fin) ?_ ?_
    ·refine Wp.loopP (RP4 room fin s work.length) (RI4 room work picks fin) (fun k=>work.length-k.1) (0,s,xs,nl,f) ⟨Nat.zero_le _,rfl,b2,Nat.le_add_right _ _,b4⟩ ?_ ?_
     ·dsimp only[RI4]
      (refine Le.by [0,1,2,3,4,5,6,7,8,9,10,11,12,13,14,15,16,17,18] rfl rfl rfl rfl ?_ ?_<;>((conv=>whnf);repeat' (first|exact trivial|exact cF (by decide) (by decide) (fun l hl=>by rcases l with _|_|_|_|l<;>first|exact⟨zzb rfl,rfl⟩|exact⟨zzb rfl,rfl,rfl⟩|omega) (fun q hq=>by rcases q with _|_|_|_|_|_|_|_|_|q<;>first|exact⟨zzb rfl,rfl⟩|omega)|exact ae.rfl rfl|exact ae.ptr rfl|exact ae.sl rfl|exact⟨rfl,rfl,rfl⟩|exact⟨rfl,zzb rfl⟩|exact gz (by assumption)|exact fun i hi=>rfl|((with_reducible refine And.intro ?_ ?_)<;>(conv=>whnf)))))
     ·exact run_4 b2 (by omega) (by omega)
    ·rintro⟨s',xs',nl',f'⟩ ⟨d1,d2,d3,d4⟩ S' hl
     dsimp only at d1 d2 d3 d4 hl
     have xl':=d2.law.xl
     have hcl:=d2.law.clk
     have hCe:=sR (f:=f') d2.law (by omega) (by omega)
     have hSt:=eo (nl:=nl') (f:=f') (cnt:=(s'.k:Int)+1) (d2.law.cok (by omega) 0 (by decide)) (by omega) (by omega)
     rw[show(s'.k:Int)+1-1=(s'.k:Int)by omega]at hSt
     have hCo:=sQ (f:=f') d2.law (by omega)
     have hT:=nm (f:=f') (nl:=nl') (cnt:=(s'.k:Int)+1) (d2.law.cok (by omega) 0 (by decide)) hcl.1 hcl.2 0 (by omega) (by omega)
     show Wp TC _ S' _
     refine Wp.le hl ?_
     (repeat' (first|((first|refine Wp.any ac rfl ?_|(with_reducible first|refine Go.mk ?_|apply ai.of|refine And.intro zC ?_));conv=>whnf)|((refine ab.fn (hCe) [0,1,2,3,4,5,6,7,8,9,10,11,12,13] rfl rfl rfl rfl rfl ?ha ?hh ?_);(case ha=>exact zA);(case hh=>exact zz3);(conv=>whnf))|((refine ab.fn (hSt) [0,1,2,3,4,5,6,7,8,9,10,11,12,13] rfl rfl rfl rfl rfl ?ha ?hh ?_);(case ha=>exact zA);(case hh=>exact zz3);(conv=>whnf))|((refine ab.fn (hCo) [0,1,2,3,4,5,6,7,8,9,10,11,12,13] rfl rfl rfl rfl rfl ?ha ?hh ?_);(case ha=>exact zA);(case hh=>exact zz3);(conv=>whnf))|((refine ab.fn (hT) [0,1,2,3,4,5,6,7,8,9,10,11,12,13] rfl rfl rfl rfl rfl ?ha ?hh ?_);(case ha=>exact zA);(case hh=>exact zz3);(conv=>whnf))))
     rw[← b1,← d1]
     show SV.Le _ _
     dsimp only[repS]
     rw[Int.add_zero,show min s'.M.clk 4611686018427387903=s'.M.clk by omega]
     simp only[Q19]
     exact .rfl _
end
section
open Sim
theorem kx_of{op pol n:Int}{key:List Int}(hk:IsB key)(hl:key.length≤255)(hp:0≤pol∧pol<2):Core.Kx ak (aJ op pol key n) :=
 ⟨hk,hl,by show([]:List Int).length≤64;decide,hp⟩
theorem fit1_ok{c:Req}(h:c.ok):db (cZ c):=by
 have h1:1≤(cZ c).op∧(cZ c).op≤6:=by
  have:=h.op
  show 1≤(if c.op<1∨6<c.op then 1+c.op%6 else c.op)∧(if c.op<1∨6<c.op then 1+c.op%6 else c.op)≤6
  split<;>omega
 have h2:(cZ c).pol=if(cZ c).op=2∨(cZ c).op=3 then 1 else 0:=rfl
 have h3:(c.key.take 1).length≤1:=by simp;omega
 have h4:=tM c.n
 have h5:0≤(cZ c).pol∧(cZ c).pol<2:=by rw[h2];split<;>omega
 refine⟨?_,h1,by show(c.key.take 1).length≤255;omega,fun _ _=>kx_of (fun x hx=>h.key x (List.mem_of_mem_take hx)) (by show(c.key.take 1).length≤255;omega) h5,h4.1⟩
 show l7 ak (cZ c).op (cZ c).pol (c.key.take 1) (cA c.n)=0
 have g3:cq (cA c.n)=true:=by simp[cq];omega
 have g1:(cZ c).op=2∨(cZ c).op=3→(cZ c).pol=1:=fun e=>by rw[h2,if_pos e]
 have g2:¬((cZ c).op=2∨(cZ c).op=3)→(cZ c).pol=0:=fun e=>by rw[h2,if_neg e]
 clear h2 h
 generalize (cZ c).op=o at *
 generalize (cZ c).pol=q at *
 generalize cA c.n=m at *
 unfold l7
 rw[if_neg (by
  rintro(e|e|⟨e,e2⟩)
  ·omega
  ·omega
  ·rw[g3]at e2;cases e2),if_neg (by omega),if_neg (by simp[nK]),if_neg]
 rintro⟨_,e|e|⟨e,e2⟩⟩
 ·omega
 ·simp[ak]at e;omega
 ·apply e2
  by_cases o2:o=2∨o=3
  ·rw[g1 o2];rcases o2 with rfl|rfl<;>rfl
  ·by_cases o1:o=1
   ·rw[g2 o2,o1];rfl
   ·exfalso;apply e;unfold jC;rw[if_neg o1,if_neg (by omega)]
structure Sim.Few(W:List (List Req)):Prop where
 len:W.length≤8
 each:∀w∈W,w.length≤64
 call:∀w∈W,∀c∈w,db c
theorem yD{work:List (List Req)}(hw:∀w∈work,∀c∈w,c.ok):Few (q9 work):=by
 have h:∀w∈q9 work,∃u∈work,w=(u.take 4).map cZ:=fun w h=>by
  obtain⟨u,hu,rfl⟩:=List.mem_map.1 h
  exact⟨u,List.mem_of_mem_take hu,rfl⟩
 refine⟨by unfold q9;rw[List.length_map,Q10];omega,fun w hm=>?_,fun w hm c hc=>?_⟩
 ·obtain⟨u,_,rfl⟩:=h w hm
  rw[List.length_map,Q10];omega
 ·obtain⟨u,hu,rfl⟩:=h w hm
  obtain⟨d,hd,rfl⟩:=List.mem_map.1 hc
  exact fit1_ok (hw u hu d (List.mem_of_mem_take hd))
@[reducible] def Sim.PickOk(n:Nat)(p:Int×Int):Prop:=-1≤p.1∧p.1<n∧(p.1=-1→0≤p.2∧p.2≤4611686018427387903)
theorem tq:∀{W:List (List Req)},(∀w∈W,w.length≤64)→(W.map List.length).sum≤64*W.length
 | [],_=>Q4 _
 | w::W,h=>by
  have h1:=tq (W:=W) fun u hu=>h u (List.mem_cons_of_mem _ hu)
  have h2:=h w (List.mem_cons_self ..)
  simp only[List.map_cons,List.sum_cons,List.length_cons];omega
theorem run_fit{room:Int}(hr:1≤room∧room≤4096){W:List (List Req)}(h:Few W){P:List (Int×Int)}(hl:P.length≤1000)(hp:∀p∈P,PickOk W.length p)(fin:Bool) :
  Pure TC 6 [cfgS ak room W P fin] (repS room (eT (aa ak room) fin W.length (Sim.picks (aa ak room) (ss0 W) P)) W.length):=by
 have h1:=tq h.each
 have h2:=h.len
 refine rO hr fin ⟨oH (by omega),fun w hw c hc=>(h.call w hw c hc).chk,hp⟩ ?_ h.call fun j hj=>?_
 ·unfold qT qX
  rw[List.take_length]
  omega
 ·rw[Q1,List.getElem?_eq_none (by omega)];rfl
end
section
open Sim
def awW:List (List Req):=[[⟨1,0,[97],1⟩],[⟨1,0,[97],3⟩]]
noncomputable def awZ(room:Int):SS:=eT (aa ak room) true 2 (Sim.picks (aa ak room) (ss0 awW) [])
theorem awZ_out:(awZ 2).out.length=2∧((awZ 2).out.getD 0 default).last=6∧((awZ 2).out.getD 0 default).r.g=true∧((awZ 2).out.getD 1 default).first=7∧((awZ 2).out.getD 1 default).r.wait=10∧(awZ 2).k=9:=by
 unfold awZ
 decide +kernel
end
theorem kl{a b:List Int}(hl:a.length=b.length)(h:∀j,j<a.length→a.getD j default=b.getD j default):a=b:=by
 refine List.ext_getElem hl fun j h1 h2=>?_
 have:=h j h1
 rw[Q1,Q1,Q0 h1,Q0 h2]at this
 simpa using this
theorem mF(a b:List Int):Pure TC 34 [.d (am 1 (aM .u8) a),.d (am 1 (aM .u8) b)] (.b (decide (a=b))):=by
 refine Pure.lens (.mk Tryz.func34 rfl rfl) fun hlen=>?_
 have ha:=hlen a.length (by simp[dB,am])
 refine Pure.mk' Tryz.func34 rfl rfl zN ?_
 (repeat' (first|((first|refine Wp.any ac rfl ?_|(with_reducible first|refine Go.mk ?_|apply ai.of));conv=>whnf)|((refine aq (fun hc=>?_) (fun hc=>?_))<;>(try simp only[wz9]at hc)<;>(try (exfalso;omega))<;>(conv=>whnf))))
 ·exact .b (decide_eq_false fun e=>by subst e;omega).symm
 refine Wp.loopP (ι:=Nat) (fun i=>i≤a.length∧∀j,j<i→a.getD j default=b.getD j default) (fun i=>⟨⟨Tryz.f34.ntmps,0⟩,0,[(0,.d (am 1 (aM .u8) a)),(1,.d (am 1 (aM .u8) b)),(12,.i .i64 a.length),(13,.i .i64 i)],[]⟩) (fun i=>a.length-i) 0 ⟨by simp,by simp⟩ ?_ ?_
 ·(refine Le.by [] rfl rfl rfl rfl ?_ ?_<;>(conv=>whnf)<;>(repeat' (first|exact trivial|exact ae.rfl rfl|((with_reducible refine And.intro ?_ ?_)<;>(conv=>whnf)))))
 ·rintro i ⟨h1,h2⟩
  (repeat' (first|((first|refine Wp.any ac rfl ?_|(with_reducible first|refine Go.mk ?_|apply ai.of|refine Ov.ok zO ?_)|refine zV ?_|with_reducible refine And.intro zC ?_);conv=>whnf)|((refine aq (fun hc=>?_) (fun hc=>?_))<;>(try simp only[wz9]at hc)<;>(try (exfalso;omega))<;>(conv=>whnf))))
  all_goals try simp only[Q13]at *
  ·exact .b (decide_eq_false fun e=>by subst e;exact hc rfl).symm
  ·refine⟨i+1,⟨by omega,fun j hj=>?_⟩,by first|omega|(dsimp only;omega),?_⟩
   ·by_cases e:j=i
    ·subst e;exact hc
    ·exact h2 j (by omega)
   ·(refine Le.by [] rfl rfl rfl rfl ?_ ?_<;>(conv=>whnf)<;>(repeat' (first|exact trivial|exact ae.rfl rfl|((with_reducible refine And.intro ?_ ?_)<;>(conv=>whnf)))))
  ·exact .b (decide_eq_true (kl (by omega) fun j hj=>h2 j (by omega))).symm
theorem nT(a b:List Int):Pure TC 35 [.d (am 1 (aM .i64) a),.d (am 1 (aM .i64) b)] (.b (decide (a=b))):=by
 refine Pure.lens (.mk Tryz.func35 rfl rfl) fun hlen=>?_
 have ha:=hlen a.length (by simp[dB,am])
 refine Pure.mk' Tryz.func35 rfl rfl zN ?_
 (repeat' (first|((first|refine Wp.any ac rfl ?_|(with_reducible first|refine Go.mk ?_|apply ai.of));conv=>whnf)|((refine aq (fun hc=>?_) (fun hc=>?_))<;>(try simp only[wz9]at hc)<;>(try (exfalso;omega))<;>(conv=>whnf))))
 ·exact .b (decide_eq_false fun e=>by subst e;omega).symm
 refine Wp.loopP (ι:=Nat) (fun i=>i≤a.length∧∀j,j<i→a.getD j default=b.getD j default) (fun i=>⟨⟨Tryz.f35.ntmps,0⟩,0,[(0,.d (am 1 (aM .i64) a)),(1,.d (am 1 (aM .i64) b)),(12,.i .i64 a.length),(13,.i .i64 i)],[]⟩) (fun i=>a.length-i) 0 ⟨by simp,by simp⟩ ?_ ?_
 ·(refine Le.by [] rfl rfl rfl rfl ?_ ?_<;>(conv=>whnf)<;>(repeat' (first|exact trivial|exact ae.rfl rfl|((with_reducible refine And.intro ?_ ?_)<;>(conv=>whnf)))))
 ·rintro i ⟨h1,h2⟩
  (repeat' (first|((first|refine Wp.any ac rfl ?_|(with_reducible first|refine Go.mk ?_|apply ai.of|refine Ov.ok zO ?_)|refine zV ?_|with_reducible refine And.intro zC ?_);conv=>whnf)|((refine aq (fun hc=>?_) (fun hc=>?_))<;>(try simp only[wz9]at hc)<;>(try (exfalso;omega))<;>(conv=>whnf))))
  all_goals try simp only[Q13]at *
  ·exact .b (decide_eq_false fun e=>by subst e;exact hc rfl).symm
  ·refine⟨i+1,⟨by omega,fun j hj=>?_⟩,by first|omega|(dsimp only;omega),?_⟩
   ·by_cases e:j=i
    ·subst e;exact hc
    ·exact h2 j (by omega)
   ·(refine Le.by [] rfl rfl rfl rfl ?_ ?_<;>(conv=>whnf)<;>(repeat' (first|exact trivial|exact ae.rfl rfl|((with_reducible refine And.intro ?_ ?_)<;>(conv=>whnf)))))
  ·exact .b (decide_eq_true (kl (by omega) fun j hj=>h2 j (by omega))).symm
instance:DecidableEq Cel:=fun a b=>decidable_of_iff (a.pol=b.pol∧a.key=b.key∧a.tat=b.tat∧a.held=b.held) (by
 cases a;cases b;simp)
theorem xT(xs ys:List Cel):Pure TC 10 [.d (am 4 Cel.D xs),.d (am 4 Cel.D ys)] (.b (decide (xs=ys))):=by
 refine Pure.lens (.mk Tryz.func10 rfl rfl) fun hlen=>?_
 have ha:=hlen xs.length (by simp[dB,am])
 refine Pure.mk' Tryz.func10 rfl rfl zN ?_
 (repeat' (first|((first|refine Wp.any ac rfl ?_|(with_reducible first|refine Go.mk ?_|apply ai.of));conv=>whnf)|((refine aq (fun hc=>?_) (fun hc=>?_))<;>(try simp only[wz9]at hc)<;>(try (exfalso;omega))<;>(conv=>whnf))))
 ·exact .b (decide_eq_false fun e=>by subst e;omega).symm
 refine Wp.loopP (ι:=Nat) (fun i=>i≤xs.length∧∀j,j<i→xs.getD j default=ys.getD j default) (fun i=>⟨⟨Tryz.f10.ntmps,0⟩,0,[(0,.d (am 4 Cel.D xs)),(1,.d (am 4 Cel.D ys)),(12,.i .i64 xs.length),(13,.i .i64 i)],[]⟩) (fun i=>xs.length-i) 0 ⟨by simp,by simp⟩ ?_ ?_
 ·(refine Le.by [] rfl rfl rfl rfl ?_ ?_<;>(conv=>whnf)<;>(repeat' (first|exact trivial|exact ae.rfl rfl|((with_reducible refine And.intro ?_ ?_)<;>(conv=>whnf)))))
 ·rintro i ⟨h1,h2⟩
  (repeat' (first|((first|refine Wp.any ac rfl ?_|(with_reducible first|refine Go.mk ?_|apply ai.of|refine Ov.ok zO ?_)|refine zV ?_|(with_reducible first|refine And.intro zC ?_|refine ag.pure (mF _ _) rfl rfl ?_|refine ag.pure (nT _ _) rfl rfl ?_));conv=>whnf)|((refine aq (fun hc=>?_) (fun hc=>?_))<;>(try simp only[wz9]at hc)<;>(try (exfalso;omega))<;>(conv=>whnf))))
  all_goals try simp only[Q13]at *
  ·exact .b (decide_eq_false fun e=>by subst e;exact hc rfl).symm
  ·exact .b (decide_eq_false fun e=>by subst e;exact hc rfl).symm
  ·exact .b (decide_eq_false fun e=>by subst e;exact hc rfl).symm
  ·exact .b (decide_eq_false fun e=>by subst e;exact hc rfl).symm
  ·rename_i q1 q2 q3
   refine⟨i+1,⟨by omega,fun j hj=>?_⟩,by first|omega|(dsimp only;omega),?_⟩
   ·by_cases e:j=i
    ·subst e
     cases hx:xs.getD j default with|mk a1 a2 a3 a4 =>
     cases hy:ys.getD j default with|mk b1 b2 b3 b4 =>
     rw[hx,hy]at q1 q2 q3 hc
     simp only at q1 q2 q3 hc
     subst q1 q2 q3 hc;rfl
    ·exact h2 j (by omega)
   ·(refine Le.by [] rfl rfl rfl rfl ?_ ?_<;>(conv=>whnf)<;>(repeat' (first|exact trivial|exact ae.rfl rfl|((with_reducible refine And.intro ?_ ?_)<;>(conv=>whnf)))))
  ·refine .b (decide_eq_true (List.ext_getElem (by omega) fun j g1 g2=>?_)).symm
   have:=h2 j (by omega)
   rw[Q1,Q1,Q0 g1,Q0 g2]at this
   simpa using this
section
open Sim
@[reducible] def Sim.Req.S(c:Req):SV:=.agg [.i .u8 c.op,.i .i64 c.pol,.d (am 1 (aM .u8) c.key),.i .i64 c.n]
theorem aw_ok:Sim.Ok ak 2 awW []:=⟨by decide,fun w hw c hc=>by
 rcases Q22 hw with rfl|hw
 ·obtain rfl:=List.mem_singleton.1 hc;decide
 ·obtain rfl:=List.mem_singleton.1 hw
  obtain rfl:=List.mem_singleton.1 hc;decide,fun p hp=>absurd hp (by simp)⟩
theorem aw_call:∀w∈awW,∀c∈w,db c:=fun w hw c hc=>by
 have h:∀n:Int,n=1∨n=3→db ⟨1,0,[97],n⟩:=fun n hn=>by
  refine⟨by rcases hn with rfl|rfl<;>decide,by show(1:Int)≤1∧(1:Int)≤6;decide,by show([97]:List Int).length≤255;decide,fun _ _=>kx_of (fun x hx=>by obtain rfl:=List.mem_singleton.1 hx;decide) (by show([97]:List Int).length≤255;decide) (by show(0:Int)≤0∧(0:Int)<2;decide),by show 0≤n;omega⟩
 rcases Q22 hw with rfl|hw
 ·obtain rfl:=List.mem_singleton.1 hc;exact h _ (.inl rfl)
 ·obtain rfl:=List.mem_singleton.1 hw
  obtain rfl:=List.mem_singleton.1 hc;exact h _ (.inr rfl)
@[reducible] def awC(n:Int):List D:=[.val (.int .u8 1),.val (.int .i64 0),.sl 1 1 fun i=>bm [.val (.int .u8 97)] 1 (0+i),.val (.int .i64 n)]
theorem aw_tle:TLe (.sl 1 2 (bm [.sl 4 1 (bm (awC 1) 4),.sl 4 1 (bm (awC 3) 4)] 1)) (am 1 aQ awW):=by
 have hk:TLe (.sl 1 1 fun i=>bm [D.val (.int .u8 97)] 1 (0+i)) (am 1 (aM .u8) [97]):=TLe.sl fun i hi=>by
  obtain rfl:i=0:=by omega
  exact .cons (.rfl _) .nil
 have hc:∀n:Int,TLe (.sl 4 1 (bm (awC n) 4)) (am 4 Req.D [⟨1,0,[97],n⟩]):=fun n=>TLe.sl fun i hi=>by
  obtain rfl:i=0:=by omega
  exact .cons (.rfl _) (.cons (.rfl _) (.cons hk (.cons (.rfl _) .nil)))
 refine TLe.sl fun i hi=>?_
 have:i=0∨i=1:=by omega
 rcases this with rfl|rfl
 ·exact .cons (hc 1) .nil
 ·exact .cons (hc 3) .nil
theorem aw_len:awW.length=2:=rfl
theorem awZ_def(room:Int):awZ room=eT (aa ak room) true 2 (Sim.picks (aa ak room) (ss0 awW) []):=rfl
theorem aw_run:∃Z:SS,(Z.out.length=2∧(Z.out.getD 0 default).last=6∧(Z.out.getD 0 default).r.g=true∧(Z.out.getD 1 default).first=7∧(Z.out.getD 1 default).r.wait=10∧Z.k=9) ∧
  Pure TC 6 [.agg [.d (am 4 Pol.D ak),.i .i64 2,.d (.sl 1 2 (bm [.sl 4 1 (bm (awC 1) 4),.sl 4 1 (bm (awC 3) 4)] 1)),.d (.val (.slice none 0 0)),.b true]] (repS 2 Z 2):=by
 have hR:=rO (room:=2) ⟨by decide,by decide⟩ true aw_ok (by decide) aw_call (fun j hj=>by
  show awW.getD j []=[]
  rw[Q1,List.getElem?_eq_none (by show 2≤j;omega)];rfl)
 rw[aw_len,← awZ_def]at hR
 exact⟨awZ 2,awZ_out,hR.leX (.cons (.agg (.cons (.rfl _) (.cons (.rfl _) (.cons aw_tle.sv (.cons .nil (.cons (.rfl _) .nil)))))) .nil)⟩
theorem awake19:Pure TC 4 [] (.b true):=by
 obtain⟨Z,⟨z1,z2,z3,z4,z5,z6⟩,hR'⟩:=aw_run
 dsimp only[repS]at hR'
 rw[z6]at hR'
 refine Pure.mk' Tryz.func4 rfl rfl zN ?_
 (repeat' (first|((first|with_reducible refine Or.inr (And.intro rfl ?_)|refine ag.pure hR' rfl rfl ?_|refine Wp.any ac rfl ?_|(with_reducible first|refine Go.mk ?_|apply ai.of)|refine zV ?_|(with_reducible first|refine And.intro zC ?_|refine ag.pure (eO) rfl rfl ?_));conv=>whnf)|((refine aq (fun hc=>?_) (fun hc=>?_))<;>(try simp only[wz9]at hc)<;>(try (exfalso;omega))<;>(conv=>whnf))))
 ·exact .b rfl
 ·exact absurd z5 hc
 ·exact absurd z4 hc
 ·exact absurd (z3.symm.trans hc) (by decide)
 ·exact absurd z2 hc
end
section
namespace Core
open Dir (FZ plc upd upW Iw okW dj upd_same upd_ne pow_pos2 plc_sh sh_32)
open Hm (bh aS aT)
variable{sm:List Int→Int}{P:Ops}
def newCl(x:X):Cel:=⟨x.pol,x.key,0,[]⟩
def one(P:Ops)(x:X)(o:Option Cel)(clk w33:Int):Rpl×Option Cel :=
 if x.op=1 then
  if(P.allow (P.pol x.pol) (o.getD (newCl x)) clk x.n).1.g=false∨x.n=0 then((P.allow (P.pol x.pol) (o.getD (newCl x)) clk x.n).1,none)
  else((P.allow (P.pol x.pol) (o.getD (newCl x)) clk x.n).1,some (P.allow (P.pol x.pol) (o.getD (newCl x)) clk x.n).2)
 else if x.op=2 then
  if((o.getD (newCl x)).held.length:Int)=(P.pol x.pol).permits then(er 9,none)
  else if w33=MAX then(er 5,none)
  else((P.acq (P.pol x.pol) (o.getD (newCl x)) (w33+1)).1,some (P.acq (P.pol x.pol) (o.getD (newCl x)) (w33+1)).2)
 else if x.op=3 then
  if(P.rel (P.pol x.pol) (o.getD (newCl x)) x.n).1.e=0 then((P.rel (P.pol x.pol) (o.getD (newCl x)) x.n).1,some (P.rel (P.pol x.pol) (o.getD (newCl x)) x.n).2)
  else((P.rel (P.pol x.pol) (o.getD (newCl x)) x.n).1,none)
 else if(P.pol x.pol).kind=2 then(P.peek (P.pol x.pol) (o.getD (newCl x)) 0,none)
 else(P.peek (P.pol x.pol) (o.getD (newCl x)) clk,none)
def SameX(x y:X):Prop:=x.op=y.op∧x.pol=y.pol∧x.key=y.key∧x.n=y.n∧x.sum=y.sum
theorem one_x{x y:X}(h:SameX x y)(o:Option Cel)(a b:Int):one P x o a b=one P y o a b:=by
 obtain⟨h1,h2,h3,h4,h5⟩:=h
 unfold one newCl
 rw[h1,h2,h3,h4]
structure At0 where
 own:List Int→Option Cel
 w32:Int
 w33:Int
 clk:Int
 x:X
def kk(Z:At0):List Int:=Z.x.pol::Z.x.key
def oc(Z:At0):Option Cel:=Z.own (kk Z)
def res1(P:Ops)(Z:At0):Rpl×Option Cel:=one P Z.x (oc Z) Z.clk Z.w33
structure Pre(sm:List Int→Int)(Z:At0)(M:Mc)(x:X)(w33:Int):Prop where
 own:∀k,Core.own sm M k=Z.own k
 w33:M.W 33=w33
 clk:M.clk=Z.clk
 x:SameX x Z.x
def Jk(sm:List Int→Int)(P:Ops)(Z:At0)(M:Mc)(x:X):CS→Prop
 | .k0 f=>f=.key∧Pre sm Z M x Z.w33∧x.ser=0∧x.res=false∧M.W 32=Z.w32
 | .kE f _=>f=.key∧Pre sm Z M x Z.w33∧x.ser=0∧x.res=false∧M.W 32=Z.w32
 | .kF f _ _=>f=.key∧Pre sm Z M x Z.w33∧x.ser=0∧x.res=false∧M.W 32=Z.w32
 | .kG f _ _ _ _=>f=.key∧Pre sm Z M x Z.w33∧x.ser=0∧x.res=false∧M.W 32=Z.w32
 | .kH f _ _ _=>f=.key∧Pre sm Z M x Z.w33∧x.ser=0∧x.res=false∧M.W 32=Z.w32
 | .kL f _ _ _=>f=.key∧Pre sm Z M x Z.w33∧x.ser=0∧x.res=false∧M.W 32=Z.w32
 | .al f=>Pre sm Z M x Z.w33∧x.op=1∧x.ser=0∧x.res=false∧M.W 32=Z.w32∧M.W f.w=f.v∧f.cell=(oc Z).getD (newCl x)∧f.there=(oc Z).isSome
 | .pk c=>Pre sm Z M x Z.w33∧(x.op≠1∧x.op≠2∧x.op≠3)∧(P.pol x.pol).kind≠2∧M.W 32=Z.w32∧c=(oc Z).getD (newCl x)
 | .a0 f=>Pre sm Z M x Z.w33∧x.op=2∧(f.cell.held.length:Int)≠(P.pol x.pol).permits∧x.ser=0∧x.res=false∧M.W 32=Z.w32∧M.W f.w=f.v∧f.cell=(oc Z).getD (newCl x)∧f.there=(oc Z).isSome
 | .a1 f u=>u=Z.w33∧Z.w33≠MAX∧Pre sm Z M x Z.w33∧x.op=2∧(f.cell.held.length:Int)≠(P.pol x.pol).permits∧x.ser=0∧x.res=false∧M.W 32=Z.w32∧M.W f.w=f.v∧f.cell=(oc Z).getD (newCl x)∧f.there=(oc Z).isSome
 | .p0 f c r=>Pre sm Z M x (if x.op=2 then Z.w33+1 else Z.w33)∧res1 P Z=(r,some c)∧x.res=false∧M.W 32=Z.w32∧M.W f.w=f.v∧f.there=false∧oc Z=none
 | .p1 f c r u=>u=Z.w32∧Pre sm Z M x (if x.op=2 then Z.w33+1 else Z.w33)∧res1 P Z=(r,some c)∧x.res=false∧M.W 32=Z.w32∧M.W f.w=f.v∧f.there=false∧oc Z=none
 | .pS f c r=>Pre sm Z M x (if x.op=2 then Z.w33+1 else Z.w33)∧res1 P Z=(r,some c)∧M.W f.w=f.v∧f.there=(oc Z).isSome∧(if f.there=true then x.res=false∧M.W 32=Z.w32 else M.W 32=Z.w32+1)
 | _=>False
structure Jd(sm:List Int→Int)(P:Ops)(Z:At0)(M:Mc)(r:Rpl):Prop where
 r:r=(res1 P Z).1
 own:∀k,Core.own sm M k=if k=kk Z then(res1 P Z).2.or (Z.own k)else Z.own k
 w33:M.W 33=if Z.x.op=2∧(res1 P Z).2.isSome=true then Z.w33+1 else Z.w33
 w32:M.W 32=if(res1 P Z).2.isSome=true∧oc Z=none then Z.w32+1 else Z.w32
 clk:M.clk=Z.clk
structure Jo(sm:List Int→Int)(P:Ops)(Z:At0)(o:Out):Prop where
 go:o.r.done=false→Jk sm P Z o.M o.x o.s
 out:o.r.done=true→Jd sm P Z o.M o.r.r
theorem Jd.none{Z:At0}{M:Mc}{x:X}{r:Rpl}(h:Pre sm Z M x Z.w33)(h32:M.W 32=Z.w32)(hr:res1 P Z=(r,none)):Jd sm P Z M r:=by
 refine⟨by rw[hr],fun k=>?_,?_,?_,h.clk⟩
 ·rw[hr,h.own];split<;>rfl
 ·rw[hr];simp[h.w33]
 ·rw[hr];simp[h32]
theorem mE{Z:At0}{M:Mc}{x:X}{a:Int}(h:Pre sm Z M x a):res1 P Z=one P x (oc Z) Z.clk Z.w33:=(one_x (P:=P) h.x _ _ _).symm
theorem lE{x:X}(h:x.res=false)(r:Rpl):leave x r=(.none,⟨true,r⟩):=by unfold leave;rw[if_neg (by rw[h];simp)]
theorem put_J{Z:At0}{M:Mc}{x y:X}{f:Fd}{c:Cel}{r:Rpl}(h:Pre sm Z M x (if x.op=2 then Z.w33+1 else Z.w33))(hr:res1 P Z=(r,some c))(h0:x.res=false)(hy:y.res=false)(h32:M.W 32=Z.w32)(hw:M.W f.w=f.v)(ht:f.there=(oc Z).isSome):Jk sm P Z M x (put y f c r):=by
 unfold put
 rw[hy]
 cases e:oc Z with
 | none =>
  rw[e]at ht
  rw[if_neg (by rw[ht];simp)]
  exact⟨h,hr,h0,h32,hw,ht,e⟩
 | some d =>
  rw[e]at ht
  rw[if_pos (.inl ht)]
  refine⟨h,hr,hw,by rw[e];exact ht,?_⟩
  have ht':f.there=true:=ht
  rw[if_pos ht'];exact⟨h0,h32⟩
theorem fd_oc(hP:OpsOk sm P){Z:At0}{M:Mc}{B:Int}(hi:Iw M.W B)(hI:Ih sm M){x:X}(hk:K sm x){a:Int}(h:Pre sm Z M x a){w:Nat}(hw:∃lv,lv≤4∧w=plc lv x.sum)(hv:0<M.W w∧M.W w<FZ) :
  (fdOf P x w (M.W w) (M.Hd w)).cell=(oc Z).getD (newCl x)∧(fdOf P x w (M.W w) (M.Hd w)).there=(oc Z).isSome:=by
 obtain⟨lv,hl,rfl⟩:=hw
 have hs:Srt (M.Hd (plc lv x.sum)):=hI.word (plc_32 hl _)
 have hh:bh M.W (sm (x.pol::x.key))=plc lv x.sum:=by rw[← hk.2];exact aT hi hl hv
 have ho:oc Z=look (M.Hd (plc lv x.sum)) (x.pol::x.key):=by
  have e:kk Z=x.pol::x.key:=by unfold kk;rw[← h.x.2.1,← h.x.2.2.1]
  unfold oc
  rw[e,← h.own];unfold own;rw[hh]
 obtain⟨h1,h2⟩:=hP.fnd (M.Hd (plc lv x.sum)) x.pol x.key hs hk.1
 exact⟨by rw[ho];exact h2,by rw[ho];exact h1⟩
theorem yw{Z:At0}{M:Mc}{x:X}{f:Fd}(h:Pre sm Z M x Z.w33)(h0:x.ser=0)(hr:x.res=false)(h32:M.W 32=Z.w32)(hw:M.W f.w=f.v)(hc:f.cell=(oc Z).getD (newCl x))(ht:f.there=(oc Z).isSome) :
  Jo sm P Z (same M x (foundK P x f)):=by
 have hq:=mE (P:=P) h
 unfold foundK
 by_cases h1:x.op=1
 ·rw[if_pos h1];exact⟨fun _=>⟨h,h1,h0,hr,h32,hw,hc,ht⟩,(fun e=>by cases e)⟩
 rw[if_neg h1]
 by_cases h2:x.op=2
 ·rw[if_pos h2]
  by_cases h3:(f.cell.held.length:Int)=(P.pol x.pol).permits
  ·rw[if_pos h3,lE hr]
   refine⟨(fun e=>by cases e),fun _=>Jd.none h h32 ?_⟩
   rw[hq];unfold one
   rw[if_neg h1,if_pos h2,if_pos (by rw[← hc];exact h3)];rfl
  ·rw[if_neg h3,if_neg (by omega)]
   exact⟨fun _=>⟨h,h2,h3,h0,hr,h32,hw,hc,ht⟩,(fun e=>by cases e)⟩
 rw[if_neg h2]
 by_cases h3:x.op=3
 ·rw[if_pos h3]
  by_cases h4:(P.rel (P.pol x.pol) f.cell x.n).1.e=0
  ·rw[if_pos h4]
   refine⟨fun _=>put_J (show Pre sm Z M x (if x.op=2 then Z.w33+1 else Z.w33)by rw[if_neg h2];exact h) ?_ hr hr h32 hw ht,(fun e=>by cases e)⟩
   rw[hq];unfold one
   rw[if_neg h1,if_neg h2,if_pos h3,← hc,if_pos h4]
  ·rw[if_neg h4]
   refine⟨(fun e=>by cases e),fun _=>Jd.none h h32 ?_⟩
   rw[hq];unfold one
   rw[if_neg h1,if_neg h2,if_pos h3,← hc,if_neg h4];rfl
 rw[if_neg h3]
 by_cases h4:(P.pol x.pol).kind=2
 ·rw[if_pos h4]
  refine⟨(fun e=>by cases e),fun _=>Jd.none h h32 ?_⟩
  rw[hq];unfold one
  rw[if_neg h1,if_neg h2,if_neg h3,← hc,if_pos h4];rfl
 ·rw[if_neg h4]
  exact⟨fun _=>⟨h,⟨h1,h2,h3⟩,h4,h32,hc⟩,(fun e=>by cases e)⟩
theorem nf(hP:OpsOk sm P){Z:At0}{M:Mc}{B:Int}(hi:Iw M.W B)(hI:Ih sm M){x:X}(hk:K sm x)(h:Pre sm Z M x Z.w33)(h0:x.ser=0)(hr:x.res=false)(h32:M.W 32=Z.w32){w:Nat}(hw:∃lv,lv≤4∧w=plc lv x.sum)(hv:0≤M.W w) :
  Jo sm P Z (same M x (entered P x .key w (M.W w) (M.Hd w))):=by
 unfold entered
 by_cases e:M.W w=0∨FZ≤M.W w
 ·rw[if_pos e];exact⟨fun _=>⟨rfl,h,h0,hr,h32⟩,(fun e=>by cases e)⟩
 ·rw[if_neg e]
  obtain⟨g1,g2⟩:=fd_oc hP hi hI hk h hw (by omega)
  exact yw h h0 hr h32 rfl g1 g2
end Core
end
section
namespace Core
open Dir (FZ plc upd upW Iw okW dj upd_same upd_ne pow_pos2 plc_sh sh_32 aN)
open Hm (bh aS aT)
variable{sm:List Int→Int}{P:Ops}
theorem Pre.to{Z:At0}{M M':Mc}{x:X}{a:Int}(h:Pre sm Z M x a)(ho:∀k,Core.own sm M' k=Core.own sm M k)(h33:M'.W 33=M.W 33)(hc:M'.clk=M.clk):Pre sm Z M' x a :=
 ⟨fun k=>by rw[ho,h.own],by rw[h33,h.w33],by rw[hc,h.clk],h.x⟩
theorem step_J(hP:OpsOk sm P){Z:At0}{M:Mc}{B:Int}(hi:Iw M.W B)(hB:1≤B∧B+1<FZ){x:X}{s:CS}(hs:Cw x M.W s)(hI:Ih sm M)(hc:Ch sm P x M s)(hroom:Z.w32≠P.room)(h:Jk sm P Z M x s):Jo sm P Z (step P M x s):=by
 have calm:hit M s=false→(∀j sh g w v m n,s≠.eS j sh g w v m n)→∀k,own sm (step P M x s).M k=own sm M k:=fun h1 h2=>mA hP hi hB hs hI hc h1 h2
 have p32:∀lv,lv≤4→∀s:Int,plc lv s<32:=fun lv hl s=>by obtain⟨i,h1,h2⟩:=plc_sh lv s;rw[h2];exact(sh_32 hl h1).2
 have ne:∀(w j:Nat) (v:Int) (h:List Cel),j≠w→(M.set w v h).W j=M.W j:=fun w j v h hw=>upd_ne _ _ hw
 cases s with
 | k0 f =>
  obtain⟨rfl,h1,h2,h3,h4⟩:=h
  refine⟨fun _=>?_,(fun e=>by cases e)⟩
  show Jk sm P Z M x (if _ then _ else _)
  split<;>exact⟨rfl,h1,h2,h3,h4⟩
 | kE f w =>
  obtain⟨rfl,h1,h2,h3,h4⟩:=h
  obtain⟨lv,i,hl,hi2,rfl⟩:=aN hs.2
  have hsh:=hi.sh hl hi2
  exact nf hP hi hI hc.1 h1 h2 h3 h4 hc.2 (by unfold okW at hsh;omega)
 | kF f lv w =>
  obtain⟨rfl,h1,h2,h3,h4⟩:=h
  refine⟨fun _=>?_,(fun e=>by cases e)⟩
  show Jk sm P Z M x (if _ then _ else _)
  split<;>exact⟨rfl,h1,h2,h3,h4⟩
 | kG f lv w v m =>
  obtain⟨rfl,h1,h2,h3,h4⟩:=h
  have hcalm:=calm rfl (by simp)
  have hw:w<32:=by rw[hs.2.2.1];exact p32 _ (by have:=hs.2.1;omega) _
  by_cases hm:M.W w=v
  ·simp only[step,if_pos hm]at hcalm⊢
   refine⟨fun _=>⟨rfl,h1.to hcalm (ne _ _ _ _ (by omega)) rfl,h2,h3,?_⟩,(fun e=>by cases e)⟩
   show(M.set w (v+FZ) m).W 32=_
   rw[ne _ _ _ _ (by omega)];exact h4
  ·simp only[step,if_neg hm]
   exact⟨fun _=>⟨rfl,h1,h2,h3,h4⟩,(fun e=>by cases e)⟩
 | kH f lv w m =>
  obtain⟨rfl,h1,h2,h3,h4⟩:=h
  obtain⟨z,a,b,d,e,g⟩:=hs
  by_cases hm:M.W w=0
  ·simp only[step,if_pos hm]
   exact⟨fun _=>⟨rfl,h1,h2,h3,h4⟩,(fun e=>by cases e)⟩
  ·simp only[step,if_neg hm]
   have hw:w<32:=by rw[d];exact p32 _ b _
   have hw1:1≤w:=by rw[d];exact aS _ _
   obtain⟨lv2,i,hl,hi2,e2⟩:=aN ⟨hw1,hw⟩
   have hsh:=hi.sh hl hi2
   rw[← e2]at hsh
   exact nf hP hi hI hc.1 h1 h2 h3 h4 ⟨lv,b,d⟩ (by unfold okW at hsh;omega)
 | kL f lv w m =>
  obtain⟨rfl,h1,h2,h3,h4⟩:=h
  have hcalm:=calm rfl (by simp)
  have hw:w<32:=by rw[hs.2.2.2.1];exact p32 _ hs.2.2.1 _
  refine⟨fun _=>?_,(fun e=>by cases e)⟩
  show Jk sm P Z (if M.W w=0 then M.set w 1 (P.cut m lv (w-2^lv))else M) x (.kE .key w)
  replace hcalm:∀k,own sm (if M.W w=0 then M.set w 1 (P.cut m lv (w-2^lv))else M) k=own sm M k:=hcalm
  by_cases hm:M.W w=0
  ·rw[if_pos hm]at hcalm⊢
   refine⟨rfl,h1.to hcalm (ne _ _ _ _ (by omega)) rfl,h2,h3,?_⟩
   rw[ne _ _ _ _ (by omega)];exact h4
  ·rw[if_neg hm];exact⟨rfl,h1,h2,h3,h4⟩
 | al f =>
  obtain⟨h1,h2,h3,h4,h5,h6,h7,h8⟩:=h
  have hq:=mE (P:=P) h1
  have ht:M.clk=Z.clk:=h1.clk
  simp only[step]
  split
  ·rename_i hg
   rw[lE h4]
   refine⟨(fun e=>by cases e),fun _=>Jd.none h1 h5 ?_⟩
   rw[hq];unfold one
   rw[if_pos h2,← h7,← ht,if_pos hg];rfl
  ·rename_i hg
   refine⟨fun _=>put_J (show Pre sm Z M x (if x.op=2 then Z.w33+1 else Z.w33)by rw[if_neg (by omega)];exact h1) ?_ h4 h4 h5 h6 h8,(fun e=>by cases e)⟩
   rw[hq];unfold one
   rw[if_pos h2,← h7,← ht,if_neg hg]
 | pk c =>
  obtain⟨h1,⟨h2,h3,h4⟩,h5,h6,h7⟩:=h
  have hq:=mE (P:=P) h1
  refine⟨(fun e=>by cases e),fun _=>Jd.none h1 h6 ?_⟩
  rw[hq];unfold one
  rw[if_neg h2,if_neg h3,if_neg h4,if_neg h5,← h7,← h1.clk];rfl
 | a0 f =>
  obtain⟨h1,h2,h3,h4,h5,h6,h7,h8,h9⟩:=h
  have hq:=mE (P:=P) h1
  simp only[step]
  split
  ·rename_i hm
   rw[lE h5]
   refine⟨(fun e=>by cases e),fun _=>Jd.none h1 h6 ?_⟩
   rw[hq];unfold one
   rw[if_neg (by omega),if_pos h2,← h8,if_neg h3,if_pos (by rw[← h1.w33];exact hm)];rfl
  ·rename_i hm
   exact⟨fun _=>⟨h1.w33,by rw[← h1.w33];exact hm,h1,h2,h3,h4,h5,h6,h7,h8,h9⟩,(fun e=>by cases e)⟩
 | a1 f u =>
  obtain⟨hu,hmx,h1,h2,h3,h4,h5,h6,h7,h8,h9⟩:=h
  have hq:=mE (P:=P) h1
  have hcalm:=calm rfl (by simp)
  have hm:M.W 33=u:=by rw[h1.w33,hu]
  simp only[step,if_pos hm]at hcalm⊢
  have hf:f.w<32:=hs.1.2.1
  have hpre:Pre sm Z (M.set 33 (u+1) []) { x with ser:=u+1 } (if x.op=2 then Z.w33+1 else Z.w33):=by
   refine⟨fun k=>by rw[hcalm,h1.own],?_,h1.clk,h1.x⟩
   show upd M.W 33 (u+1) 33=_
   rw[upd_same,if_pos h2,hu]
  refine⟨fun _=>put_J (x:={ x with ser:=u+1 }) hpre ?_ h5 h5 (by rw[ne _ _ _ _ (by omega)];exact h6) (by rw[ne _ _ _ _ (by omega)];exact h7) h9,(fun e=>by cases e)⟩
  rw[hq];unfold one
  rw[if_neg (by omega),if_pos h2,← h8,if_neg h3,if_neg hmx,hu]
 | p0 f c r =>
  obtain⟨h1,h2,h3,h4,h5,h6,h7⟩:=h
  simp only[step]
  rw[if_neg (by rw[h4];exact hroom)]
  exact⟨fun _=>⟨h4,h1,h2,h3,h4,h5,h6,h7⟩,(fun e=>by cases e)⟩
 | p1 f c r u =>
  obtain⟨hu,h1,h2,h3,h4,h5,h6,h7⟩:=h
  have hcalm:=calm rfl (by simp)
  have hm:M.W 32=u:=by rw[h4,hu]
  have hf:f.w<32:=hs.1.2.1
  simp only[step,if_pos hm]at hcalm⊢
  refine⟨fun _=>⟨⟨fun k=>by rw[hcalm,h1.own],?_,h1.clk,h1.x⟩,h2,(by rw[ne _ _ _ _ (by omega)];exact h5),by rw[h7];exact h6,?_⟩,(fun e=>by cases e)⟩
  ·rw[ne _ _ _ _ (by omega)];exact h1.w33
  ·rw[if_neg (by rw[h6];simp)]
   show upd M.W 32 (u+1) 32=_
   rw[upd_same,hu]
 | pS f c r =>
  obtain⟨h1,h2,h3,h4,h5⟩:=h
  have hf:f.w<32:=hs.1.2.1
  have hrr:(if f.there=true then leave x r else(.none,⟨true,r⟩):CS×Rs)=(.none,⟨true,r⟩):=by
   split
   ·rename_i ht;rw[if_pos ht]at h5;exact lE h5.1 r
   ·rfl
  have hown:∀k,own sm (step P M x (.pS f c r)).M k=if k=x.pol::x.key then some c else own sm M k:=by
   cases(gQ hP hi hB hs hI hc).own with
   | calm hd ho hn=>exact absurd h3 (hn f c r rfl)
   | put f' c' r' e hw h0 ho=>cases e;exact ho
   | evict j sh g w v m n e=>cases e
  simp only[step,if_pos h3]at hown⊢
  rw[hrr]
  have ek:kk Z=x.pol::x.key:=by unfold kk;rw[← h1.x.2.1,← h1.x.2.2.1]
  refine⟨(fun e=>by cases e),fun _=>⟨by rw[h2];rfl,fun k=>?_,?_,?_,h1.clk⟩⟩
  ·show own sm (M.set f.w (f.v+1) _) k=_
   rw[h2,ek]
   refine(hown k).trans ?_
   split
   ·rfl
   ·exact h1.own k
  ·show(M.set f.w (f.v+1) _).W 33=_
   rw[ne _ _ _ _ (by omega),h1.w33,h2,h1.x.1];simp
  ·show(M.set f.w (f.v+1) _).W 32=_
   rw[ne _ _ _ _ (by omega),h2]
   cases e:oc Z with
   | none =>
    rw[e]at h4
    rw[if_neg (by rw[h4];simp)]at h5
    rw[if_pos ⟨rfl,rfl⟩];exact h5
   | some d =>
    rw[e]at h4
    have h4:f.there=true:=h4
    rw[if_pos h4]at h5
    rw[if_neg (by simp)];exact h5.2
 | _=>exact False.elim h
end Core
end
section
namespace Core
open Dir (FZ plc upd upW Iw okW dj upd_same upd_ne pow_pos2 plc_sh sh_32)
open Hm (bh aS aT)
variable{sm:List Int→Int}{P:Ops}
def niO(P:Ops)(t:Int)(o:Option Cel):Option Cel:=o.filter fun c=>!P.idle c t
structure Ev0 where
 own:List Int→Option Cel
 w32:Int
 w33:Int
 clk:Int
 d:Nat
structure Pv(sm:List Int→Int)(P:Ops)(Z:Ev0)(M:Mc)(j:Nat):Prop where
 d0:M.W 0=2*(Z.d:Int)
 d1:Z.d≤4
 w33:M.W 33=Z.w33
 clk:M.clk=Z.clk
 own:∀k,Core.own sm M k=if sm k%2^Z.d<(j:Int)then niO P Z.clk (Z.own k)else Z.own k
def Jv(sm:List Int→Int)(P:Ops)(Z:Ev0)(M:Mc):CS→Prop
 | .e0=>Pv sm P Z M 0∧M.W 32=Z.w32
 | .k0 f=>∃j g,f=.ev j (2^Z.d) g∧j<2^Z.d∧Pv sm P Z M j∧g+M.W 32=Z.w32∧0≤g
 | .kE f w=>∃j g,f=.ev j (2^Z.d) g∧j<2^Z.d∧w=2^Z.d+j∧Pv sm P Z M j∧g+M.W 32=Z.w32∧0≤g
 | .eC j sh g w v h=>sh=2^Z.d∧j<2^Z.d∧w=2^Z.d+j∧v=M.W w∧h=M.Hd w∧Pv sm P Z M j∧g+M.W 32=Z.w32∧0≤g
 | .eS j sh g w v m n=>0≤n∧sh=2^Z.d∧j<2^Z.d∧w=2^Z.d+j∧v=M.W w∧m=dH P (M.Hd w) Z.clk∧Pv sm P Z M j∧g+M.W 32=Z.w32∧0≤g
 | .b0 n k=>0≤n∧∃j g,k=.ev j (2^Z.d) g∧j<2^Z.d∧Pv sm P Z M (j+1)∧g+M.W 32=Z.w32∧0≤g
 | .b1 n k u=>0≤n∧∃j g,k=.ev j (2^Z.d) g∧j<2^Z.d∧Pv sm P Z M (j+1)∧g+M.W 32=Z.w32∧0≤g∧u=M.W 32
 | _=>False
structure Jvd(sm:List Int→Int)(P:Ops)(Z:Ev0)(M:Mc)(r:Rpl):Prop where
 r:r=gn (Z.w32-M.W 32)
 le:M.W 32≤Z.w32
 own:∀k,Core.own sm M k=niO P Z.clk (Z.own k)
 w0:M.W 0=2*(Z.d:Int)
 w33:M.W 33=Z.w33
 clk:M.clk=Z.clk
structure Jvo(sm:List Int→Int)(P:Ops)(Z:Ev0)(o:Out):Prop where
 go:o.r.done=false→Jv sm P Z o.M o.s
 out:o.r.done=true→Jvd sm P Z o.M o.r.r
theorem x4(d:Nat)(s:Int):plc d s=2^d+(s%2^d).toNat:=rfl
theorem iU{W:Nat→Int}{d:Nat}(h:W 0=2*(d:Int))(s:Int):bh W s=plc d s:=by
 unfold bh
 rw[if_pos (.inl (by omega)),show(W 0/2).toNat=d by omega]
theorem pow2i(d:Nat):(0:Int)<2^d:=by
 have:=pow_pos2 d
 have e:((2^d:Nat):Int)=2^d:=by simp
 omega
theorem iZ{Z:Ev0}{M:Mc}{j:Nat}{g:Int}(hj:j<2^Z.d)(h:Pv sm P Z M (j+1))(hg:g+M.W 32=Z.w32∧0≤g){x:X}:Jvo sm P Z (same M x (further j (2^Z.d) g)):=by
 have e:((2^Z.d:Nat):Int)=2^Z.d:=by simp
 unfold further
 by_cases h1:j+1=2^Z.d
 ·rw[if_pos h1]
  refine⟨(fun e=>by cases e),fun _=>⟨by show gn g=gn (Z.w32-M.W 32);rw[show g=Z.w32-M.W 32 by omega],by show M.W 32≤_;omega,fun k=>?_,h.d0,h.w33,h.clk⟩⟩
  have:=h.own k
  rw[if_pos (by have:=Int.emod_lt_of_pos (sm k) (pow2i Z.d);omega)]at this
  exact this
 ·rw[if_neg h1]
  exact⟨fun _=>⟨j+1,g,rfl,by omega,h,hg⟩,(fun e=>by cases e)⟩
theorem Pv.next{Z:Ev0}{M:Mc}{j:Nat}(h:Pv sm P Z M j)(hn:∀k,sm k%2^Z.d=(j:Int)→niO P Z.clk (Core.own sm M k)=Core.own sm M k):Pv sm P Z M (j+1):=by
 refine⟨h.d0,h.d1,h.w33,h.clk,fun k=>?_⟩
 have ho:=h.own k
 by_cases e:sm k%2^Z.d=(j:Int)
 ·rw[if_neg (by omega)]at ho
  rw[if_pos (by omega),← ho]
  exact(hn k e).symm
 ·rw[ho]
  by_cases e2:sm k%2^Z.d<(j:Int)
  ·rw[if_pos e2,if_pos (by omega)]
  ·rw[if_neg e2,if_neg (by omega)]
theorem se{Z:Ev0}{M:Mc}{j:Nat}(h:Pv sm P Z M j){i:Nat}{k:List Int}(hk:sm k%2^Z.d=(i:Int)):Core.own sm M k=look (M.Hd (2^Z.d+i)) k:=by
 unfold Core.own
 rw[iU h.d0,x4,hk,Q13]
theorem step_Jv(hP:OpsOk sm P){Z:Ev0}{M:Mc}{B:Int}(hi:Iw M.W B){x:X}{s:CS}(hI:Ih sm M)(h:Jv sm P Z M s):Jvo sm P Z (step P M x s):=by
 cases s with
 | e0 =>
  obtain⟨h1,h2⟩:=h
  refine⟨fun _=>⟨0,0,?_,pow_pos2 Z.d,h1,by show 0+M.W 32=_;omega,Int.le_refl 0⟩,(fun e=>by cases e)⟩
  show Fc.ev 0 (2^((M.W 0+1)/2).toNat) 0=_
  rw[h1.d0,show((2*(Z.d:Int)+1)/2).toNat=Z.d by omega]
 | k0 f =>
  obtain⟨j,g,rfl,hj,h1,h2⟩:=h
  refine⟨fun _=>?_,(fun e=>by cases e)⟩
  show Jv sm P Z M (if _ then _ else _)
  rw[if_pos (by rw[h1.d0];omega)]
  refine⟨j,g,rfl,hj,?_,h1,h2⟩
  show plc (M.W 0/2).toNat (j:Int)=_
  have e:((2^Z.d:Nat):Int)=2^Z.d:=by simp
  rw[h1.d0,show(2*(Z.d:Int)/2).toNat=Z.d by omega,x4,Int.emod_eq_of_lt (by omega) (by omega),Q13]
 | kE f w =>
  obtain⟨j,g,rfl,hj,rfl,h1,h2⟩:=h
  have hok:=hi.w Z.d j h1.d1 hj
  have hv:0<M.W (2^Z.d+j)∧M.W (2^Z.d+j)<FZ:=hok.2.2.2.2.1 h1.d0
  show Jvo sm P Z (same M x (if _ then _ else _))
  rw[if_neg (by omega)]
  show Jvo sm P Z (same M x (if _ then _ else _))
  by_cases h0:(M.Hd (2^Z.d+j)).length=0
  ·rw[if_pos h0]
   refine iZ hj (h1.next fun k hk=>?_) h2
   rw[se h1 hk,List.length_eq_zero_iff.1 h0]
   rfl
  ·rw[if_neg h0]
   exact⟨fun _=>⟨rfl,hj,rfl,rfl,rfl,h1,h2⟩,(fun e=>by cases e)⟩
 | eC j sh g w v h0 =>
  obtain⟨rfl,hj,rfl,rfl,rfl,h1,h2⟩:=h
  show Jvo sm P Z (if _ then _ else _)
  by_cases hl:(dH P (M.Hd (2^Z.d+j)) M.clk).length=(M.Hd (2^Z.d+j)).length
  ·rw[if_pos hl]
   refine iZ hj (h1.next fun k hk=>?_) h2
   have hr:dH P (M.Hd (2^Z.d+j)) M.clk=M.Hd (2^Z.d+j):=List.filter_sublist.eq_of_length hl
   have hf:=eU (hI Z.d j h1.d1 hj).1 (fun c=>!P.idle c M.clk) k
   rw[se h1 hk]
   unfold niO
   rw[← h1.clk,← hf]
   exact congrArg (fun l=>look l k) hr
  ·rw[if_neg hl]
   exact⟨fun _=>⟨by have:=List.length_filter_le (fun c=>!P.idle c M.clk) (M.Hd (2^Z.d+j));show(0:Int)≤(M.Hd (2^Z.d+j)).length-(dH P (M.Hd (2^Z.d+j)) M.clk).length;unfold dH;omega,rfl,hj,rfl,rfl,by rw[h1.clk],h1,h2⟩,(fun e=>by cases e)⟩
 | eS j sh g w v m n =>
  obtain⟨hn,rfl,hj,rfl,rfl,rfl,h1,h2⟩:=h
  show Jvo sm P Z (if _ then _ else _)
  rw[if_pos rfl]
  refine⟨fun _=>⟨hn,j,g,rfl,hj,?_,?_⟩,(fun e=>by cases e)⟩
  ·obtain⟨w1,w2⟩:=sh_32 h1.d1 hj
   have ne:∀q,q≠2^Z.d+j→(M.set (2^Z.d+j) (M.W (2^Z.d+j)+1) (dH P (M.Hd (2^Z.d+j)) Z.clk)).W q=M.W q:=fun q hq=>upd_ne _ _ hq
   have e0:=ne 0 (by omega)
   refine⟨by rw[show(Out.M _).W 0=_ from e0];exact h1.d0,h1.d1,by rw[show(Out.M _).W 33=_ from ne 33 (by omega)];exact h1.w33,h1.clk,fun k=>?_⟩
   have ho:=h1.own k
   have hh:Core.own sm (M.set (2^Z.d+j) (M.W (2^Z.d+j)+1) (dH P (M.Hd (2^Z.d+j)) Z.clk)) k=look (upd M.Hd (2^Z.d+j) (dH P (M.Hd (2^Z.d+j)) Z.clk) (plc Z.d (sm k))) k:=by
    unfold Core.own
    rw[iU (d:=Z.d) (e0.trans h1.d0)];rfl
   show Core.own sm (M.set (2^Z.d+j) (M.W (2^Z.d+j)+1) (dH P (M.Hd (2^Z.d+j)) Z.clk)) k=_
   rw[hh]
   by_cases e:sm k%2^Z.d=(j:Int)
   ·rw[x4,e,Q13,show upd M.Hd (2^Z.d+j) (dH P (M.Hd (2^Z.d+j)) Z.clk) (2^Z.d+j)=dH P (M.Hd (2^Z.d+j)) Z.clk by simp[upd],if_pos (by omega)]
    rw[if_neg (by omega),se h1 e]at ho
    rw[← ho]
    exact eU (hI Z.d j h1.d1 hj).1 (fun c=>!P.idle c Z.clk) k
   ·have hp:plc Z.d (sm k)≠2^Z.d+j:=by
     rw[x4]
     have:=Int.emod_nonneg (sm k) (show(2:Int)^Z.d≠0 by have:=pow2i Z.d;omega)
     omega
    rw[upd_ne _ _ hp,← iU h1.d0 (sm k)]
    show Core.own sm M k=_
    rw[ho]
    by_cases e2:sm k%2^Z.d<(j:Int)
    ·rw[if_pos e2,if_pos (by omega)]
    ·rw[if_neg e2,if_neg (by omega)]
  ·obtain⟨w1,w2⟩:=sh_32 h1.d1 hj
   show g+upd M.W (2^Z.d+j) _ 32=_∧_
   rw[upd_ne _ _ (by omega)];exact h2
 | b0 n k =>
  obtain⟨hn,j,g,rfl,hj,h1,h2,h3⟩:=h
  exact⟨fun _=>⟨hn,j,g,rfl,hj,h1,h2,h3,rfl⟩,(fun e=>by cases e)⟩
 | b1 n k u =>
  obtain⟨hn,j,g,rfl,hj,h1,h2,h3,rfl⟩:=h
  show Jvo sm P Z (if _ then _ else _)
  rw[if_pos rfl]
  have e32:(M.set 32 (M.W 32-n) []).W 32=M.W 32-n:=by show upd M.W 32 (M.W 32-n) 32=_;simp[upd]
  refine iZ (M:=M.set 32 (M.W 32-n) []) hj ⟨?_,h1.d1,?_,h1.clk,fun k=>?_⟩ ⟨by rw[e32];omega,by omega⟩
  ·show upd M.W 32 (M.W 32-n) 0=_;rw[upd_ne _ _ (by omega)];exact h1.d0
  ·show upd M.W 32 (M.W 32-n) 33=_;rw[upd_ne _ _ (by omega)];exact h1.w33
  ·rw[oX hi (Q4 32)];exact h1.own k
 | none=>exact h.elim
 | kF f lv w=>exact h.elim
 | kG f lv w v h=>exact h.elim
 | kH f lv w h=>exact h.elim
 | kL f lv w h=>exact h.elim
 | al f=>exact h.elim
 | pk c=>exact h.elim
 | a0 f=>exact h.elim
 | a1 f u=>exact h.elim
 | p0 f c r=>exact h.elim
 | p1 f c r u=>exact h.elim
 | pS f c r=>exact h.elim
 | s0=>exact h.elim
 | sM lv=>exact h.elim
 | sF lv i=>exact h.elim
 | sG lv i v h=>exact h.elim
 | sH lv i up h=>exact h.elim
 | sL lv i up h=>exact h.elim
 | sV lv=>exact h.elim
end Core
end
section
namespace Core
open Dir (FZ plc upd upW Iw okW dj upd_same upd_ne pow_pos2 plc_sh sh_32 upW_sh)
open Hm (bh aS aT)
variable{sm:List Int→Int}{P:Ops}
structure Sv(sm:List Int→Int)(Z:Ev0)(M:Mc):Prop where
 own:∀k,Core.own sm M k=Z.own k
 w32:M.W 32=Z.w32
 w33:M.W 33=Z.w33
 clk:M.clk=Z.clk
theorem Sv.to{Z:Ev0}{M M':Mc}(h:Sv sm Z M)(ho:∀k,Core.own sm M' k=Core.own sm M k)(h32:M'.W 32=M.W 32)(h33:M'.W 33=M.W 33)(hc:M'.clk=M.clk):Sv sm Z M' :=
 ⟨fun k=>by rw[ho,h.own],by rw[h32,h.w32],by rw[h33,h.w33],by rw[hc,h.clk]⟩
theorem split_Sv(hP:OpsOk sm P){Z:Ev0}{M:Mc}{B:Int}(hi:Iw M.W B)(hB:1≤B∧B+1<FZ){x:X}{s:CS}(hs:Cw x M.W s)(hI:Ih sm M)(hc:Ch sm P x M s){d:Int}(hd:Sp d (M.W 0) s)(h:Sv sm Z M):Sv sm Z (step P M x s).M:=by
 have calm:hit M s=false→(∀j sh g w v m n,s≠.eS j sh g w v m n)→∀k,own sm (step P M x s).M k=own sm M k:=fun h1 h2=>mA hP hi hB hs hI hc h1 h2
 have ne:∀(w j:Nat) (v:Int) (h:List Cel),j≠w→(M.set w v h).W j=M.W j:=fun w j v h hw=>upd_ne _ _ hw
 cases s with
 | s0=>simp only[step];(repeat' split)<;>exact h
 | sM lv =>
  have hcalm:=calm rfl (by simp)
  by_cases hm:M.W 0=2*(lv:Int)
  ·simp only[step,if_pos hm]at hcalm⊢
   exact h.to hcalm (ne _ _ _ _ (by omega)) (ne _ _ _ _ (by omega)) rfl
  ·simp only[step,if_neg hm];exact h
 | sF lv i=>simp only[step];exact h
 | sG lv i v m =>
  have hcalm:=calm rfl (by simp)
  have hw:=(sh_32 (by have:=hs.1;omega:lv≤4) hs.2.1)
  by_cases hm:M.W (2^lv+i)=v
  ·simp only[step,if_pos hm]at hcalm⊢
   exact h.to hcalm (ne _ _ _ _ (by omega)) (ne _ _ _ _ (by omega)) rfl
  ·simp only[step,if_neg hm];exact h
 | sH lv i up m=>simp only[step];exact h
 | sL lv i up m =>
  have hcalm:=calm rfl (by simp)
  obtain⟨j,h1,h2,h3⟩:=upW_sh (up:=up) hs.2.1
  have hw:=(sh_32 (by have:=hs.1;omega:lv+1≤4) h1)
  by_cases hm:M.W (upW lv i up)=0
  ·simp only[step,if_pos hm]at hcalm⊢
   exact h.to hcalm (ne _ _ _ _ (by omega)) (ne _ _ _ _ (by omega)) rfl
  ·simp only[step,if_neg hm];exact h
 | sV lv =>
  have hcalm:=calm rfl (by simp)
  by_cases hm:M.W 0=2*(lv:Int)+1
  ·simp only[step,if_pos hm]at hcalm⊢
   exact h.to hcalm (ne _ _ _ _ (by omega)) (ne _ _ _ _ (by omega)) rfl
  ·simp only[step,if_neg hm];exact h
 | _=>exact hd.elim
end Core
end
section
namespace Core
open Dir (FZ plc upd upW Iw okW dj upd_same upd_ne pow_pos2 plc_sh sh_32 upW_sh)
open Hm (bh aS aT)
variable{sm:List Int→Int}{P:Ops}
theorem key_W0{Z:At0}{M:Mc}{x:X}{s:CS}(hs:Cw x M.W s)(h:Jk sm P Z M x s):(step P M x s).M.W 0=M.W 0:=by
 have ne:∀(w:Nat) (v:Int) (h:List Cel),0<w→(M.set w v h).W 0=M.W 0:=fun w v h hw=>upd_ne _ _ (by omega)
 cases s with
 | kG f lv w v m =>
  simp only[step]
  split
  ·exact ne _ _ _ (by rw[hs.2.2.1];exact aS _ _)
  ·rfl
 | kL f lv w m =>
  simp only[step]
  split
  ·exact ne _ _ _ (by rw[hs.2.2.2.1];exact aS _ _)
  ·rfl
 | a1 f u=>simp only[step];split<;>first|exact ne _ _ _ (by omega)|rfl
 | p1 f c r u=>simp only[step];split<;>first|exact ne _ _ _ (by omega)|rfl
 | pS f c r =>
  simp only[step]
  split
  ·refine ne _ _ _ ?_
   have h1:=hs.1
   unfold qZ at h1
   omega
  ·rfl
 | k0 f=>rfl
 | kE f w=>rfl
 | kF f lv w=>rfl
 | kH f lv w m=>simp only[step];split<;>rfl
 | al f=>simp only[step];split<;>rfl
 | pk c=>rfl
 | a0 f=>simp only[step];split<;>rfl
 | p0 f c r=>simp only[step];split<;>rfl
 | _=>exact h.elim
end Core
end
section
namespace Sim
open Dir (upd upd_same upd_ne)
variable{room:Int}{xs:Nat→XB}{nl:Nat}{s:SS}
structure Ck where
 nx:Nat→Nat
 la:Nat→Int
 en:Int
@[reducible] def Ck.add(k:Ck)(d:Dn):Ck:=⟨upd k.nx d.who.toNat (k.nx d.who.toNat+1),upd k.la d.who.toNat d.last,d.last⟩
def ck0:Ck:=⟨fun _=>0,fun _=>0,0⟩
structure CkOk(n:Nat)(work:List (List Req))(k:Ck)(d:Dn):Prop where
 who:0≤d.who∧d.who<n
 nx:k.nx d.who.toNat<(work.getD d.who.toNat []).length
 c:d.c=(work.getD d.who.toNat []).getD (k.nx d.who.toNat) default
 la:k.la d.who.toNat<d.first
 fi:d.first≤d.last
 en:k.en<d.last
def ckF(k:Ck)(l:List Dn):Ck:=l.foldl Ck.add k
def CkAll(n:Nat)(work:List (List Req))(k:Ck):List Dn→Prop
 | []=>True
 | d::l=>CkOk n work k d∧CkAll n work (k.add d) l
def ratedD(key:List Int)(fr to_:Int)(d:Dn):Int:=if d.c.op=1∧d.c.pol=0∧d.c.key=key∧d.r.g=true∧fr≤d.r.now∧d.r.now≤to_∧0≤d.c.n then d.c.n else 0
def sumD(key:List Int)(fr to_:Int)(l:List Dn):Int:=l.foldl (fun n d=>n+ratedD key fr to_ d) 0
section
variable(T tau fr to_:Int)(key:List Int)(n:Nat)(work:List (List Req))
structure Or(s:SS):Prop where
 all:CkAll n work ck0 s.out
 on:∀j,j<n→isC (s.S j).s=true→(ckF ck0 s.out).nx j<(work.getD j []).length∧(s.ws j).c=(work.getD j []).getD ((ckF ck0 s.out).nx j) default∧(s.ws j).left=(work.getD j []).drop ((ckF ck0 s.out).nx j+1)∧(ckF ck0 s.out).la j<(s.ws j).first∧(s.ws j).first≤s.k
 off:∀j,j<n→isC (s.S j).s=false→(s.ws j).left=(work.getD j []).drop ((ckF ck0 s.out).nx j)
 le:∀j,(ckF ck0 s.out).nx j≤(work.getD j []).length
 la:∀j,(ckF ck0 s.out).la j≤s.k
 en:(ckF ck0 s.out).en≤s.k
 q:(∃j,j<n∧isC (s.S j).s=true)∨(s.k:Int)=(ckF ck0 s.out).en
 call:∀j,isC (s.S j).s=true→(s.S j).x.op=(s.ws j).c.op∧(s.S j).x.pol=(s.ws j).c.pol∧(s.S j).x.key=(s.ws j).c.key∧(s.S j).x.n=(s.ws j).c.n
 frq:∀j,Core.Fr (aa ak room) (s.S j).x (s.S j).s
 rate:Core.RW T tau fr to_ key cC 64 (sumD key fr to_ s.out) s.M s.S
end
variable{fr to_:Int}{key:List Int}{n:Nat}{work:List (List Req)}
theorem tA{α:Type}[Inhabited α]{l:List α}{i:Nat}{c:α}{r:List α}(h:l.drop i=c::r):i<l.length∧c=l.getD i default∧r=l.drop (i+1):=by
 have hi:i<l.length:=by
  by_cases e:i<l.length
  ·exact e
  ·rw[List.drop_eq_nil_of_le (by omega)]at h;cases h
 rw[List.drop_eq_getElem_cons hi]at h
 obtain⟨h1,h2⟩:=List.cons.inj h
 exact⟨hi,by rw[Q1,Q0 hi];exact h1.symm,h2.symm⟩
theorem yl{s:Core.CS}(h:s≠.none):isC s=true:=by cases s<;>first|rfl|exact absurd rfl h
theorem Or.zero(hft:fr≤to_):Or (room:=room) 10 20 fr to_ key n work (ss0 work):=by
 refine⟨trivial,fun j _ h=>?_,fun j _ _=>rfl,fun j=>Nat.zero_le _,fun j=>Int.le_refl _,Int.le_refl _,.inr rfl,fun j h=>?_,fun j=>trivial,Core.RW.zero hft (by decide) (by decide) 64 _⟩
 ·cases h
 ·cases h
end Sim
end
section
namespace Sim
variable{room:Int}
def at0(M:Core.Mc)(c:Req):Core.At0:=⟨Core.own cC M,M.W 32,M.W 33,M.clk,aJ c.op c.pol c.key c.n⟩
def ev0(M:Core.Mc):Core.Ev0:=⟨Core.own cC M,M.W 32,M.W 33,M.clk,(M.W 0/2).toNat⟩
def zF(room:Int)(c:Req)(M M':Core.Mc)(r:Rpl):Prop :=
 ((c.op≠5∧c.op≠6)∧Core.Jd cC (aa ak room) (at0 M c) M' r∧M'.W 0=M.W 0) ∨
 (c.op=5∧Core.Jvd cC (aa ak room) (ev0 M) M' r) ∨
 (c.op=6∧Core.Sv cC (ev0 M) M'∧((r=Core.er 5∧M.W 0=8∧M'.W 0=8)∨(r=Core.z0∧M.W 0<8∧M'.W 0=2*(M.W 0/2)+2)))
def OnQ(room:Int)(c:Req)(M M':Core.Mc)(k:Core.Wk):Prop :=
 ((c.op≠5∧c.op≠6)∧Core.Jk cC (aa ak room) (at0 M c) M' k.x k.s∧M'.W 0=M.W 0) ∨
 (c.op=5∧Core.Jv cC (aa ak room) (ev0 M) M' k.s) ∨
 (c.op=6∧Core.Sv cC (ev0 M) M'∧Core.Sp (M.W 0) (M'.W 0) k.s)
theorem x9{c:Req}{M:Core.Mc}(hd:0≤M.W 0∧M.W 0≤8∧M.W 0%2=0):OnQ room c M M (newC c):=by
 by_cases h5:c.op=5
 ·refine .inr (.inl ⟨h5,?_⟩)
  have e:(newC c).s=.e0:=by simp[newC,Core.first,aJ,h5]
  rw[e]
  refine⟨⟨by show M.W 0=2*(((M.W 0/2).toNat:Nat):Int);omega,by show(M.W 0/2).toNat≤4;omega,rfl,rfl,fun k=>?_⟩,rfl⟩
  rw[if_neg]
  ·rfl
  ·have:=Int.emod_nonneg (cC k) (show(2:Int)^(ev0 M).d≠0 by have:=Core.pow2i (ev0 M).d;omega)
   omega
 ·by_cases h6:c.op=6
  ·refine .inr (.inr ⟨h6,⟨fun _=>rfl,rfl,rfl,rfl⟩,?_⟩)
   have e:(newC c).s=.s0:=by simp[newC,Core.first,aJ,h6]
   rw[e];exact rfl
  ·refine .inl ⟨⟨h5,h6⟩,?_,rfl⟩
   have e:(newC c).s=.k0 .key:=by simp[newC,Core.first,aJ,h5,h6]
   rw[e]
   exact⟨rfl,⟨fun _=>rfl,rfl,rfl,⟨rfl,rfl,rfl,rfl,rfl⟩⟩,rfl,rfl,rfl⟩
theorem on_step{xs:Nat→XB}{nl:Nat}{s:SS}(h:SI room xs nl s)(hk:s.k≤900000){w:Nat}{c:Req}{M:Core.Mc}(hd:0≤M.W 0∧M.W 0≤8∧M.W 0%2=0)(hr:M.W 32≠room)(hq:OnQ room c M s.M (s.S w)) :
  ((res (aa ak room) s w).done=false→OnQ room c M (Core.mx (aa ak room) s.M s.S w) (Core.nx (aa ak room) s.M s.S w w)) ∧
  ((res (aa ak room) s w).done=true→zF room c M (Core.mx (aa ak room) s.M s.S w) (res (aa ak room) s w).r):=by
 have hA:=h.law.all
 have hI:=hA.inv
 have hB:(1:Int)≤(s.k:Int)+1∧(s.k:Int)+1+1<Dir.FZ:=⟨by omega,by unfold Dir.FZ;omega⟩
 have hme:Core.nx (aa ak room) s.M s.S w w=⟨(Core.step (aa ak room) s.M (s.S w).x (s.S w).s).x,(Core.step (aa ak room) s.M (s.S w).x (s.S w).s).s⟩:=by unfold Core.nx;rw[Dir.upd_same]
 rw[hme]
 show((Core.step (aa ak room) s.M (s.S w).x (s.S w).s).r.done=false→OnQ room c M (Core.step (aa ak room) s.M (s.S w).x (s.S w).s).M _)∧((Core.step (aa ak room) s.M (s.S w).x (s.S w).s).r.done=true→zF room c M (Core.step (aa ak room) s.M (s.S w).x (s.S w).s).M (Core.step (aa ak room) s.M (s.S w).x (s.S w).s).r.r)
 rcases hq with⟨ho,hJ,h0⟩|⟨ho,hJ⟩|⟨ho,hS,hJ⟩
 ·have h1:=Core.step_J (bR ak room) hI.iw hB (hI.cw w) hA.ih (hA.ch w) hr hJ
  have h2:=(Core.key_W0 (P:=aa ak room) (hI.cw w) hJ).trans h0
  exact⟨fun e=>.inl ⟨ho,h1.go e,h2⟩,fun e=>.inl ⟨ho,h1.out e,h2⟩⟩
 ·have h1:=Core.step_Jv (bR ak room) hI.iw (x:=(s.S w).x) hA.ih hJ
  exact⟨fun e=>.inr (.inl ⟨ho,h1.go e⟩),fun e=>.inr (.inl ⟨ho,h1.out e⟩)⟩
 ·have h1:=Core.split_step (P:=aa ak room) (x:=(s.S w).x) ⟨hd.1,hd.2.1⟩ (hI.cw w) hJ
  have h2:=Core.split_Sv (bR ak room) hI.iw hB (hI.cw w) hA.ih (hA.ch w) hJ hS
  rcases h1 with⟨g1,g2⟩|⟨g1,g2,g3⟩|⟨g1,g2,g3⟩
  ·exact⟨fun _=>.inr (.inr ⟨ho,h2,g2⟩),(fun e=>by rw[g1]at e;cases e)⟩
  ·exact⟨(fun e=>by rw[g1]at e;cases e),fun _=>.inr (.inr ⟨ho,h2,.inl ⟨by rw[g1],g2,g3⟩⟩)⟩
  ·exact⟨(fun e=>by rw[g1]at e;cases e),fun _=>.inr (.inr ⟨ho,h2,.inr ⟨by rw[g1],g2,g3⟩⟩)⟩
end Sim
end
section
namespace Sim
open Dir (upd upd_same upd_ne)
variable{room:Int}
theorem ta{α:Type}[Inhabited α](l:List α)(d:α)(t:Nat)(h:t<l.length):(l++[d]).getD t default=l.getD t default:=by
 rw[Q1,Q1,Q11 h]
theorem s9{α:Type}[Inhabited α](l:List α)(d:α):(l++[d]).getD l.length default=d:=by simp
structure Bd(room:Int)(M:Core.Mc):Prop where
 srt:Srt (aE ak room M)
 look:∀k,look (aE ak room M) k=Core.own cC M k
 cnt:M.W 32=((aE ak room M).length:Int)
 cel:∀c∈aE ak room M,eH ak c
theorem SI.bd{xs:Nat→XB}{nl:Nat}{s:SS}(h:SI room xs nl s)(hn:∀j,(s.S j).s=.none):Bd room s.M:=by
 have hA:=h.law.all
 obtain⟨a1,a2⟩:=Core.all_ok (bR ak room) hA.inv.iw hA.ih
 have hp:=Core.sortC_perm (Core.allE (aa ak room) s.M)
 have hs:Srt (aE ak room s.M):=⟨fun c hc=>(h.law.all_cel (hp.mem_iff.1 hc)).2,Core.sortC_srt a1⟩
 refine⟨hs,fun k=>iJ fun d=>?_,?_,fun c hc=>(h.law.all_cel (hp.mem_iff.1 hc)).1⟩
 ·rw[bC hs]
  constructor
  ·rintro⟨h1,h2⟩
   rw[← h2];exact(a2 d).1 (hp.mem_iff.1 h1)
  ·intro h1
   have h2:=Core.own_idn h1
   exact⟨hp.mem_iff.2 ((a2 d).2 (by rw[h2];exact h1)),h2⟩
 ·have h1:=hA.cnt
  have h2:(Core.sumI 64 fun i=>Core.owes (s.S i).x (s.S i).s)=0:=by
   have:(fun i=>Core.owes (s.S i).x (s.S i).s)=fun _=>0:=funext fun i=>by rw[hn];rfl
   rw[this,Core.sumI_zero]
  have h3:(aE ak room s.M).length=(Core.allE (aa ak room) s.M).length:=hp.length_eq
  omega
structure Chn(room:Int)(calls:List Req)(s:SS):Prop where
  oth:∀j,j≠0→(s.S j).s=.none
  ex : ∃ms:Nat→Core.Mc,ms 0=Core.M0∧s.out.length≤calls.length ∧
    (∀t,t≤s.out.length→Bd room (ms t)) ∧
    (∀t,t<s.out.length→(s.out.getD t default).c=calls.getD t default∧zF room (calls.getD t default) (ms t) (ms (t+1)) (s.out.getD t default).r) ∧
    (∀t,t≤s.out.length→(0≤(ms t).W 0∧(ms t).W 0≤8∧(ms t).W 0%2=0)∧(ms t).W 32≤t) ∧
    ((isC (s.S 0).s=true∧s.out.length<calls.length∧(s.ws 0).c=calls.getD s.out.length default∧(s.ws 0).left=calls.drop (s.out.length+1)∧OnQ room (calls.getD s.out.length default) (ms s.out.length) s.M (s.S 0)) ∨
     (isC (s.S 0).s=false∧(s.ws 0).left=calls.drop s.out.length∧s.M=ms s.out.length))
theorem zF.w{c:Req}{M M':Core.Mc}{r:Rpl}(h:zF room c M M' r)(hd:0≤M.W 0∧M.W 0≤8∧M.W 0%2=0):(0≤M'.W 0∧M'.W 0≤8∧M'.W 0%2=0)∧M'.W 32≤M.W 32+1:=by
 rcases h with⟨_,hJ,h0⟩|⟨_,hJ⟩|⟨_,hS,hr⟩
 ·have h2:=hJ.w32
  refine⟨by omega,?_⟩
  have e:(at0 M c).w32=M.W 32:=rfl
  rw[h2]
  split<;>omega
 ·have h1:=hJ.w0
  have h2:=hJ.le
  have h3:((ev0 M).d:Int)=M.W 0/2:=by show(((M.W 0/2).toNat:Nat):Int)=_;omega
  have h4:(ev0 M).w32=M.W 32:=rfl
  exact⟨by omega,by omega⟩
 ·have h2:=hS.w32
  have h4:(ev0 M).w32=M.W 32:=rfl
  exact⟨by omega,by omega⟩
theorem Chn.adv{calls:List Req}(hroom:(calls.length:Int)<room){xs:Nat→XB}{nl:Nat}{s:SS}(h:SI room xs nl s)(hk:s.k≤900000){ms:Nat→Core.Mc}(m0:ms 0=Core.M0)(hl:s.out.length<calls.length)(ho:∀j,j≠0→(s.S j).s=.none)(hb:∀t,t≤s.out.length→Bd room (ms t))
  (h1:∀t,t<s.out.length→(s.out.getD t default).c=calls.getD t default∧zF room (calls.getD t default) (ms t) (ms (t+1)) (s.out.getD t default).r)
  (h2:∀t,t≤s.out.length→(0≤(ms t).W 0∧(ms t).W 0≤8∧(ms t).W 0%2=0)∧(ms t).W 32≤t)
  (hc:isC (s.S 0).s=true) (h3:(s.ws 0).c=calls.getD s.out.length default) (h4:(s.ws 0).left=calls.drop (s.out.length+1)) (hq:OnQ room (calls.getD s.out.length default) (ms s.out.length) s.M (s.S 0)) :
  Chn room calls (adv (aa ak room) s 0):=by
 obtain⟨hd,h32⟩:=h2 _ (Q4 _)
 obtain⟨q1,q2⟩:=on_step (room:=room) h hk (M:=ms s.out.length) (c:=calls.getD s.out.length default) hd (fun e=>by have h5:(ms s.out.length).W 32=room:=e;rw[h5]at h32;omega) hq
 have hme:Core.nx (aa ak room) s.M s.S 0 0=⟨(Core.step (aa ak room) s.M (s.S 0).x (s.S 0).s).x,(Core.step (aa ak room) s.M (s.S 0).x (s.S 0).s).s⟩:=by unfold Core.nx;rw[upd_same]
 have hgo:(Sim.go (aa ak room) s 0).1=Sim.adv (aa ak room) s 0:=by unfold Sim.go;rw[if_pos hc]
 have hoth:∀j,j≠0→((Sim.adv (aa ak room) s 0).S j).s=.none:=fun j hj=>by
  show(Core.nx (aa ak room) s.M s.S 0 j).s=.none
  unfold Core.nx;rw[upd_ne _ _ hj];exact ho j hj
 obtain⟨xs9,nl9,h9⟩:=h.go (by omega) 0
 rw[hgo]at h9
 refine⟨hoth,?_⟩
 unfold Sim.adv at h9⊢
 cases hdn:(res (aa ak room) s 0).done with
 | false =>
  rw[if_neg (by decide)]
  have hsome:isC (Core.nx (aa ak room) s.M s.S 0 0).s=true:=by rw[hme];exact yl (Core.step_some (mR hc) hdn)
  exact⟨ms,m0,Nat.le_of_lt hl,hb,h1,h2,.inl ⟨hsome,hl,h3,h4,q1 hdn⟩⟩
 | true =>
  rw[hdn,if_pos rfl]at h9
  rw[if_pos rfl]
  have hnone:isC (Core.nx (aa ak room) s.M s.S 0 0).s=false:=by rw[hme];exact ym (Core.step_none hdn)
  have hret:=q2 hdn
  obtain⟨w1,w2⟩:=hret.w hd
  generalize hD:(⟨((0:Nat):Int),(s.ws 0).c,(s.ws 0).first,(s.k:Int)+1,(res (aa ak room) s 0).r⟩:Dn)=d
  have dc:d.c=calls.getD s.out.length default:=by rw[← hD];exact h3
  have dr:d.r=(res (aa ak room) s 0).r:=by rw[← hD]
  let M':=Core.mx (aa ak room) s.M s.S 0
  let ms':Nat→Core.Mc:=fun t=>if t=s.out.length+1 then M' else ms t
  have e1:∀t,t≤s.out.length→ms' t=ms t:=fun t ht=>if_neg (by omega)
  have e2:ms' (s.out.length+1)=M':=if_pos rfl
  have hlen:(s.out++[d]).length=s.out.length+1:=by simp
  have hbd:Bd room M':=h9.bd fun j=>by
   by_cases e:j=0
   ·subst e
    show(Core.nx (aa ak room) s.M s.S 0 0).s=.none
    exact mQ hnone
   ·exact hoth j e
  refine⟨ms',by rw[e1 0 (Nat.zero_le _)];exact m0,by show(s.out++[d]).length≤_;omega,fun t ht=>?_,fun t ht=>?_,fun t ht=>?_,.inr ⟨hnone,?_,?_⟩⟩
  ·replace ht:t≤(s.out++[d]).length:=ht
   by_cases e:t≤s.out.length
   ·rw[e1 t e];exact hb t e
   ·obtain rfl:t=s.out.length+1:=by omega
    rw[e2];exact hbd
  ·replace ht:t<(s.out++[d]).length:=ht
   show((s.out++[d]).getD t default).c=_∧zF room _ (ms' t) (ms' (t+1)) ((s.out++[d]).getD t default).r
   by_cases e:t<s.out.length
   ·rw[ta _ _ _ e,e1 t (by omega),e1 (t+1) (by omega)];exact h1 t e
   ·obtain rfl:t=s.out.length:=by omega
    rw[s9,e1 _ (Q4 _),e2,dr]
    exact⟨dc,hret⟩
  ·replace ht:t≤(s.out++[d]).length:=ht
   by_cases e:t≤s.out.length
   ·rw[e1 t e];exact h2 t e
   ·obtain rfl:t=s.out.length+1:=by omega
    rw[e2]
    exact⟨w1,by show M'.W 32≤_;have w2:M'.W 32≤(ms s.out.length).W 32+1:=w2;omega⟩
  ·show(s.ws 0).left=calls.drop (s.out++[d]).length
   rw[hlen];exact h4
  ·show M'=ms' (s.out++[d]).length
   rw[hlen,e2]
theorem Chn.go{calls:List Req}(hroom:(calls.length:Int)<room){xs:Nat→XB}{nl:Nat}{s:SS}(h:SI room xs nl s)(hk:s.k≤900000)(ho:Chn room calls s):Chn room calls (go (aa ak room) s 0).1:=by
 obtain⟨ms,m0,hl,hbb,h1,h2,h3⟩:=ho.ex
 unfold Sim.go
 split
 ·rename_i hc
  rcases h3 with⟨a,b,c,d,e⟩|⟨a,_⟩
  ·exact Chn.adv hroom h hk m0 b ho.oth hbb h1 h2 hc c d e
  ·rw[a]at hc;cases hc
 ·rename_i hc
  have hn:isC (s.S 0).s=false:=by simpa using hc
  split
  ·exact ho
  ·rename_i c r hlf
   rcases h3 with⟨a,_⟩|⟨_,hd,hM⟩
   ·rw[a]at hn;cases hn
   have hok:=h.cok 0 c (by rw[hlf];exact List.mem_cons_self ..)
   have hb:=h.beg hlf (h.law.start (.inl (h.w8l hlf)) (mQ hn) (key:=c.key) (n:=c.n) hok.kx)
   have hp:isC ((Sim.beg s 0 c r).S 0).s=true:=by
    show isC (upd s.S 0 (newC c) 0).s=true
    rw[upd_same]
    show isC (Core.first (aJ c.op c.pol c.key c.n))=true
    unfold Core.first;(repeat' split)<;>rfl
   rw[hlf]at hd
   obtain⟨d1,d2,d3⟩:=tA hd.symm
   have wsw:(Sim.beg s 0 c r).ws 0=⟨r,c,(s.k:Int)+1⟩:=rfl
   have Sw:(Sim.beg s 0 c r).S 0=newC c:=rfl
   refine Chn.adv hroom hb hk m0 d1 (fun j hj=>by show(upd s.S 0 (newC c) j).s=.none;rw[upd_ne _ _ hj];exact ho.oth j hj) hbb h1 h2 hp (by rw[wsw];exact d2) (by rw[wsw];exact d3) ?_
   rw[Sw,← d2]
   show OnQ room c (ms s.out.length) s.M (newC c)
   rw[hM]
   exact x9 (h2 _ (Q4 _)).1
theorem Chn.fin{calls:List Req}(hroom:(calls.length:Int)<room):∀(f:Nat) {xs:Nat→XB} {nl:Nat} {s:SS},SI room xs nl s→s.k+f≤900000→Chn room calls s→Chn room calls (Sim.fin (aa ak room) f s 0)
 | 0,xs,nl,s,_,_,ho=>ho
 | f+1,xs,nl,s,h,hk,ho=>by
  unfold Sim.fin
  split
  ·obtain⟨xs',nl',h'⟩:=h.go (by omega) 0
   have:=go_k (aa ak room) s 0
   exact Chn.fin hroom f h' (by omega) (ho.go hroom h (by omega))
  ·exact ho
theorem Chn.zero(calls:List Req)(hb:Bd room Core.M0):Chn room calls (ss0 [calls]) :=
 ⟨fun _ _=>rfl,fun _=>Core.M0,rfl,Nat.zero_le _,fun _ _=>hb,fun t ht=>absurd ht (Nat.not_lt_zero t),fun t _=>⟨by show 0≤Core.M0.W 0∧Core.M0.W 0≤8∧Core.M0.W 0%2=0;decide,by show(Core.M0.W 32)≤_;have:Core.M0.W 32=0:=rfl;omega⟩,.inr ⟨rfl,rfl,rfl⟩⟩
end Sim
end
section
theorem nD.mem{ps:List Pol}{xs:List Cel}(h:nD ps xs){c:Cel}(hc:c∈xs):(∀b∈c.key,0≤b∧b≤255)∧c.key.length≤255∧c.held.length≤64∧0≤c.pol∧c.pol<ps.length:=by
 obtain⟨k,hk,rfl⟩:=List.getElem_of_mem hc
 have e:=cI hk
 refine⟨?_,?_,?_,?_⟩
 ·have:=h.byt k;rw[e]at this;exact this
 ·have:=h.key k;rw[e]at this;exact this
 ·have:=h.held k;rw[e]at this;exact this
 ·have:=h.pol k hk;rw[e]at this;exact this
structure za(ps:List Pol)(room:Int)(xs:List Cel):Prop where
 srt:Srt xs
 ok:nD ps xs
 le:(xs.length:Int)≤room
 rm:room≤4096
 pl:ps.length≤32
theorem za.len{ps:List Pol}{room:Int}{xs:List Cel}(h:za ps room xs):xs.length≤4096:=by have:=h.le;have:=h.rm;omega
section
variable{ps:List Pol}{room:Int}{xs:List Cel}{op pol:Int}{key:List Int}{n now serial:Int}
theorem id_of(hE:c9 ps op pol key n now serial=0)(hop:op<5):fQ pol key∧pol<ps.length:=by
 obtain⟨_,_,_,h1,h2,_⟩:=pX hE
 have:=h2 hop
 have:=cT h1
 exact⟨⟨by omega,by omega,by omega⟩,by omega⟩
theorem one_idn{p:Pol}{c:Cel}:idn (mK p c op n now serial).2=idn c:=by
 unfold mK
 split
 ·rfl
 ·split
  ·unfold fR idn;split<;>rfl
  ·unfold jp idn;split<;>rfl
theorem x7{p:Pol}{c:Cel}(h:c.held.length≤64):(mK p c op n now serial).2.held.length≤64:=by
 unfold mK
 split
 ·exact h
 ·split
  ·unfold fR
   split
   ·have:=gP (by assumption:bN p.permits c.held serial=0);simp only;omega
   ·exact h
  ·unfold jp
   split
   ·have:=ia (by assumption:cX p.permits c.held n=0);simp only;omega
   ·exact h
def cS(p:Pol)(o:Option Cel)(op pol:Int)(key:List Int)(n now serial:Int):Rpl×Option Cel :=
 if op=4 then(iH p (o.getD (newC pol key)) now,none)
 else if(mK p (o.getD (newC pol key)) op n now serial).1.g=false∨(op=1∧n=0)then((mK p (o.getD (newC pol key)) op n now serial).1,none)
 else((mK p (o.getD (newC pol key)) op n now serial).1,some (mK p (o.getD (newC pol key)) op n now serial).2)
theorem pK(h:za ps room xs)(hE:c9 ps op pol key n now serial=0)(hop:op<5) :
  doS ps room xs op pol key n now serial=match(cS (ps.getD pol.toNat default) (look xs (pol::key)) op pol key n now serial).2 with
   | none=>((cS (ps.getD pol.toNat default) (look xs (pol::key)) op pol key n now serial).1,xs)
   | some c=>if look xs (pol::key)=none∧(xs.length:Int)=room then(ml 10,xs)else((cS (ps.getD pol.toNat default) (look xs (pol::key)) op pol key n now serial).1,bM xs (bo xs (newC pol key)) (cH xs (newC pol key)) c):=by
 obtain⟨hid,_⟩:=id_of hE hop
 unfold doS
 rw[if_neg (fun h=>h hE),if_neg (by omega),if_neg (by omega),m9 h.srt hid]
 unfold cS
 by_cases h4:op=4
 ·rw[if_pos h4,if_pos h4]
 ·rw[if_neg h4,if_neg h4]
  unfold xY
  have hdz:(decide (op=1∧n=0)=true)↔(op=1∧n=0):=by simp
  generalize mK (ps.getD pol.toNat default) ((look xs (pol::key)).getD (newC pol key)) op n now serial=q
  by_cases h1:q.1.g=false∨(op=1∧n=0)
  ·rw[if_pos (h1.imp (fun h=>h) hdz.2),if_pos h1]
  ·rw[if_neg (fun h=>h1 (h.imp (fun h=>h) hdz.1)),if_neg h1]
   have hh:cH xs (newC pol key)=false↔look xs (pol::key)=none:=by
    have:=od h.srt (t:=newC pol key) hid
    rw[this,show idn (newC pol key)=pol::key from rfl]
    cases look xs (pol::key)<;>simp
   show _=if look xs (pol::key)=none∧(xs.length:Int)=room then _ else _
   by_cases h9:look xs (pol::key)=none∧(xs.length:Int)=room
   ·rw[if_pos ⟨hh.2 h9.1,h9.2⟩,if_pos h9]
   ·rw[if_neg (fun h=>h9 ⟨hh.1 h.1,h.2⟩),if_neg h9]
theorem pQ{p:Pol}{o:Option Cel}{c:Cel}(ho:∀d,o=some d→idn d=pol::key)(h:(cS p o op pol key n now serial).2=some c):idn c=pol::key:=by
 have hb:idn (o.getD (newC pol key))=pol::key:=by
  cases o with
  | none=>rfl
  | some d=>exact ho d rfl
 unfold cS at h
 split at h
 ·cases h
 ·split at h
  ·cases h
  ·simp only[Option.some.injEq]at h;rw[← h,one_idn];exact hb
theorem tP{p:Pol}{o:Option Cel}{c:Cel}(ho:∀d,o=some d→d.held.length≤64)(h:(cS p o op pol key n now serial).2=some c):c.held.length≤64:=by
 have hb:(o.getD (newC pol key)).held.length≤64:=by
  cases o with
  | none=>exact Nat.zero_le _
  | some d=>exact ho d rfl
 unfold cS at h
 split at h
 ·cases h
 ·split at h
  ·cases h
  ·simp only[Option.some.injEq]at h;rw[← h];exact x7 hb
theorem ok_put(h:za ps room xs)(hk:IsB key)(hE:c9 ps op pol key n now serial=0)(hop:op<5){c:Cel}(hc:(cS (ps.getD pol.toNat default) (look xs (pol::key)) op pol key n now serial).2=some c)(hfull:¬(look xs (pol::key)=none∧(xs.length:Int)=room)) :
  za ps room (bM xs (bo xs (newC pol key)) (cH xs (newC pol key)) c):=by
 obtain⟨hid,hpl⟩:=id_of hE hop
 have hidn:idn c=pol::key:=pQ (fun d hd=>(bc hd).2) hc
 have e1:c.pol=pol∧c.key=key:=by simpa[idn]using hidn
 have hheld:c.held.length≤64:=tP (fun d hd=>(h.ok.mem (bc hd).1).2.2.1) hc
 have hcid:fQ c.pol c.key:=by rw[e1.1,e1.2];exact hid
 obtain⟨s1,s2,s3⟩:=gM h.srt (t:=newC pol key) hcid hidn
 have hlen:((bM xs (bo xs (newC pol key)) (cH xs (newC pol key)) c).length:Int)≤room:=by
  have hr:=h.le
  rw[s3]
  split
  ·exact hr
  ·rename_i hh
   have h9:look xs (pol::key)=none:=by
    have:=od h.srt (t:=newC pol key) hid
    rw[show idn (newC pol key)=pol::key from rfl]at this
    cases hl:look xs (pol::key)with
    | none=>rfl
    | some d=>rw[this,hl]at hh;simp at hh
   have:¬(xs.length:Int)=room:=fun e=>hfull ⟨h9,e⟩
   push_cast
   omega
 refine⟨s1,ok_of ⟨?_,fun d hd=>?_⟩,hlen,h.rm,h.pl⟩
 ·have:=h.rm;omega
 ·rcases(s2 d).1 hd with rfl|⟨hd,_⟩
  ·rw[e1.1,e1.2]
   exact⟨hk,hid.2.2,hheld,hid.1,hpl⟩
  ·exact h.ok.mem hd
theorem do_inv(h:za ps room xs)(hk:IsB key):za ps room (doS ps room xs op pol key n now serial).2:=by
 by_cases hE:c9 ps op pol key n now serial=0
 ·by_cases hop:op<5
  ·rw[pK h hE hop]
   cases hc:(cS (ps.getD pol.toNat default) (look xs (pol::key)) op pol key n now serial).2 with
   | none=>exact h
   | some c =>
    simp only
    split
    ·exact h
    ·exact ok_put h hk hE hop hc (by assumption)
  ·unfold doS
   rw[if_neg (fun h=>h hE)]
   have hb:=(pX hE).2.2.1
   by_cases h5:op=5
   ·rw[if_pos h5]
    refine⟨h.srt.filter _,ok_of ⟨?_,fun d hd=>h.ok.mem (List.mem_filter.1 hd).1⟩,?_,h.rm,h.pl⟩
    ·have:=List.length_filter_le (fun c=>!aH ps c now) xs
     have:=h.len
     simp only[dd];omega
    ·have:=List.length_filter_le (fun c=>!aH ps c now) xs
     have:=h.le
     simp only[dd];omega
   ·rw[if_neg h5,if_pos (by omega)];exact h
 ·unfold doS;rw[if_pos hE];exact h
def rH(ps:List Pol)(o:Option Cel)(op pol:Int)(key:List Int)(n now serial:Int):Rpl×Option Cel :=
 if c9 ps op pol key n now serial≠0 then(ml (c9 ps op pol key n now serial),none)else cS (ps.getD pol.toNat default) o op pol key n now serial
theorem do_step(h:za ps room xs)(hop:op<5)(hroom:(xs.length:Int)<room) :
  (doS ps room xs op pol key n now serial).1=(rH ps (look xs (pol::key)) op pol key n now serial).1 ∧
  (∀i,look (doS ps room xs op pol key n now serial).2 i=if i=pol::key then((rH ps (look xs (pol::key)) op pol key n now serial).2.or (look xs i))else look xs i) ∧
  (doS ps room xs op pol key n now serial).2.length≤xs.length+1:=by
 unfold rH
 by_cases hE:c9 ps op pol key n now serial=0
 ·rw[if_neg (fun h=>h hE),pK h hE hop]
  obtain⟨hid,_⟩:=id_of hE hop
  cases hc:(cS (ps.getD pol.toNat default) (look xs (pol::key)) op pol key n now serial).2 with
  | none=>exact⟨rfl,fun i=>by simp,by simp⟩
  | some c =>
   simp only
   rw[if_neg (fun h=>by omega)]
   have hidn:idn c=pol::key:=pQ (fun d hd=>(bc hd).2) hc
   have e1:c.pol=pol∧c.key=key:=by simpa[idn]using hidn
   have hcid:fQ c.pol c.key:=by rw[e1.1,e1.2];exact hid
   refine⟨rfl,fun i=>?_,?_⟩
   ·rw[mp h.srt (t:=newC pol key) hcid hidn,hidn]
    split<;>simp
   ·rw[(gM h.srt (t:=newC pol key) hcid hidn).2.2]
    split<;>omega
 ·rw[if_pos hE]
  unfold doS
  rw[if_pos hE]
  exact⟨rfl,fun i=>by simp,by simp⟩
theorem yH(hE:c9 ps 5 pol key n now serial=0):doS ps room xs 5 pol key n now serial=(⟨0,false,(xs.length:Int)-(dd ps now xs).length,0,0,now⟩,dd ps now xs):=by
 unfold doS;rw[if_neg (fun h=>h hE),if_pos rfl]
theorem rI(h:Srt xs)(i:List Int):look (dd ps now xs) i=(look xs i).filter fun c=>!aH ps c now:=eU h _ i
end
end
theorem x8{ps:List Pol}{room:Int}{op pol n w33:Int}{key:List Int}(h0:1≤op∧op≤4)(hM:w33≠Core.MAX){o:Option Cel}
  (hT:op=2→(((o.getD (newC pol key)).held.length:Int)=(ps.getD pol.toNat default).permits→bN (ps.getD pol.toNat default).permits (o.getD (newC pol key)).held (w33+1)=9) ∧
   (¬((o.getD (newC pol key)).held.length:Int)=(ps.getD pol.toNat default).permits→bN (ps.getD pol.toNat default).permits (o.getD (newC pol key)).held (w33+1)=0)) :
  Core.one (aa ps room) (aJ op pol key n) o 0 w33=cS (ps.getD pol.toNat default) o op pol key n 0 (w33+1):=by
 generalize hc:o.getD (newC pol key)=c at hT
 have hc':o.getD (Core.newCl (aJ op pol key n))=c:=hc
 have hx:(aJ op pol key n).op=op:=rfl
 generalize hp:ps.getD pol.toNat default=p at hT
 have hp':(aa ps room).pol (aJ op pol key n).pol=p:=hp
 unfold Core.one cS
 rw[hc,hc',hx,hp']
 by_cases h1:op=1
 ·rw[if_pos h1,if_neg (show ¬op=4 by omega),kc h1]
  show(if(eG p c 0 n).g=false∨n=0 then _ else _)=_
  by_cases h2:(eG p c 0 n).g=false∨n=0
  ·rw[if_pos h2,if_pos (h2.imp id fun h=>⟨h1,h⟩)];rfl
  ·rw[if_neg h2,if_neg (fun h=>h2 (h.imp id And.right))];rfl
 ·rw [if_neg h1]
  by_cases h2:op=2
  ·obtain⟨t1,t2⟩:=hT h2
   rw[if_pos h2,if_neg (show ¬op=4 by omega),j9 h2]
   by_cases h3:(c.held.length:Int)=p.permits
   ·have hA:jm p c (w33+1)=⟨9,false,0,0,0,0⟩:=by unfold jm;rw[t1 h3,if_neg (by decide)]
    rw[if_pos h3,if_pos (.inl (by rw[hA])),hA];rfl
   ·have hA:(jm p c (w33+1)).g=true:=by unfold jm;rw[if_pos (t2 h3)]
    rw[if_neg h3,if_neg hM,if_neg (fun h=>h.elim (fun h=>by rw[hA]at h;cases h) fun h=>h1 h.1)]
    rfl
  ·rw[if_neg h2]
   by_cases h3:op=3
   ·rw[if_pos h3,if_neg (show ¬op=4 by omega),mJ h3]
    show(if(jo p c n).e=0 then _ else _)=_
    by_cases h4:cX p.permits c.held n=0
    ·have hA:(jo p c n).e=0∧(jo p c n).g=true:=by unfold jo;rw[if_pos h4];exact⟨rfl,rfl⟩
     rw[if_pos hA.1,if_neg (fun h=>h.elim (fun h=>by rw[hA.2]at h;cases h) fun h=>h1 h.1)]
     rfl
    ·have hA:(jo p c n).e≠0∧(jo p c n).g=false:=by unfold jo;rw[if_neg h4];exact⟨h4,rfl⟩
     rw[if_neg hA.1,if_pos (.inl hA.2)]
     rfl
   ·have h4:op=4:=by omega
    rw[if_neg h3,if_pos h4]
    show(if p.kind=2 then(iH p c 0,none)else(iH p c 0,none))=_
    split<;>rfl
section
open Sim hiding newC
variable{room:Int}
theorem ok_q{c:Req}(h:db c):Qt c.op c.pol c.key:=by
 have hE:c9 ak c.op c.pol c.key c.n 0 1=0:=by
  unfold c9;rw[if_neg]
  ·exact h.chk
  ·rintro(e|⟨_,e⟩)
   ·exact absurd e (by decide)
   ·omega
 obtain⟨_,_,_,_,h1,_,_,h2⟩:=pX hE
 have e2:ak.length=2:=rfl
 refine⟨fun ho=>?_,fun ho=>?_⟩
 ·by_cases e:c.op<5
  ·have:=h1 e;omega
  ·omega
 ·have h3:=h1 (by omega)
  have hk:jC c.op=2:=by unfold jC;rw[if_neg (by omega),if_pos (by omega)]
  have h4:=h2 (by rw[hk];decide)
  rw[hk]at h4
  have h5:c.pol=0∨c.pol=1:=by omega
  rcases h5 with e|e
  ·rw[e]at h4;exact absurd h4 (by decide)
  ·exact e
theorem ok_b{c:Req}(h:db c){ser:Int}(hs:1≤ser∧ser≤4611686018427387903):c9 ak c.op c.pol c.key c.n 0 ser=0:=by
 unfold c9;rw[if_neg]
 ·exact h.chk
 ·rintro(e|⟨_,e⟩)
  ·exact absurd e (by decide)
  ·omega
def HelD(o:List Int→Option Cel)(w:Int):Prop:=∀k d,o k=some d→Vt d∧∀n∈d.held,n≤w
theorem HelD.base(room:Int){o:List Int→Option Cel}{w:Int}(h:HelD o w){op pol:Int}{key:List Int}(hq:Qt op pol key)(ho:1≤op∧op≤3)(k:List Int):Vt ((o k).getD (newC pol key))∧∀n∈((o k).getD (newC pol key)).held,n≤w:=by
 cases e:o k with
 | none=>exact⟨(kU room).new op pol key (by omega) hq,fun n hn=>by cases hn⟩
 | some d=>exact h k d e
theorem vt_sem{c:Cel}(h:Vt c)(hp:c.pol=1):gB 2 c.held=0:=by
 rcases h with⟨e,_⟩|⟨_,e⟩
 ·omega
 ·exact e
theorem oY{c:Cel}{w:Int}(h:∀n∈c.held,n≤w):w+1∉c.held:=fun hn=>by have:=h _ hn;omega
theorem one_hel{x:Core.X}{o:Option Cel}{w:Int}(hq:Qt x.op x.pol x.key)(ho:1≤x.op∧x.op≤4)(hpol:(o.getD (Core.newCl x)).pol=x.pol)(hV:x.op≤3→Vt (o.getD (Core.newCl x))∧∀n∈(o.getD (Core.newCl x)).held,n≤w)(hw:0≤w){d:Cel}
  (h:(Core.one (aa ak room) x o 0 w).2=some d):Vt d∧∀n∈d.held,n≤if x.op=2 then w+1 else w:=by
 have hM:Core.MAX=4611686018427387903:=rfl
 unfold Core.one at h
 by_cases h1:x.op=1
 ·rw[if_pos h1]at h
  split at h
  ·cases h
  ·cases h
   obtain⟨a,b⟩:=hV (by omega)
   obtain⟨a1,a2⟩:=(kU room).allow ((aa ak room).pol x.pol) _ 0 x.n a
   refine⟨a1,fun n hn=>?_⟩
   rw[a2]at hn
   rw[if_neg (by omega)]
   exact b n hn
 ·rw [if_neg h1]at h
  by_cases h2:x.op=2
  ·rw [if_pos h2]at h
   split at h
   ·cases h
   ·rename_i g1
    split at h
    ·cases h
    ·rename_i g2
     obtain⟨a,b⟩:=hV (by omega)
     by_cases hmx:w+1≤Core.MAX
     ·obtain⟨_,_,a1,a2⟩:=(kU room).acq x.key (o.getD (Core.newCl x)) (w+1) (by rw[hpol,← h2];exact hq) a (oY b) (by omega) hmx (by rw[hpol];exact g1)
      rw[hpol]at a1 a2
      cases h
      refine⟨a1,fun n hn=>?_⟩
      rw[if_pos h2]
      rcases Q22 (a2.mem_iff.1 hn)with e|e
      ·omega
      ·have:=b n e;omega
     ·cases h
      have hp1:x.pol=1:=hq.2 (.inl h2)
      have hser:nP (w+1)=false:=by simp[nP];omega
      have hC:(fR ((aa ak room).pol x.pol) (o.getD (Core.newCl x)) (w+1))=o.getD (Core.newCl x):=by
       unfold fR
       rw[if_neg]
       unfold bN;rw[if_pos hser];decide
      refine⟨by show Vt (fR _ _ _);rw[hC];exact a,fun n hn=>?_⟩
      replace hn:n∈(fR ((aa ak room).pol x.pol) (o.getD (Core.newCl x)) (w+1)).held:=hn
      rw[hC]at hn
      rw[if_pos h2]
      have:=b n hn;omega
  ·rw[if_neg h2]at h
   by_cases h3:x.op=3
   ·rw[if_pos h3]at h
    split at h
    ·rename_i g1
     obtain⟨a,b⟩:=hV (by omega)
     obtain⟨a1,a2⟩:=(kU room).rel x.key (o.getD (Core.newCl x)) x.n (by rw[hpol,← h3];exact hq) a (by rw[hpol];exact g1)
     rw[hpol]at a1 a2
     cases h
     refine⟨a1,fun n hn=>?_⟩
     rw[if_neg h2]
     exact b n (a2.mem_iff.2 (List.mem_cons_of_mem _ hn))
    ·cases h
   ·rw[if_neg h3]at h
    split at h<;>cases h
theorem yN{p:Pol}{o:Option Cel}{pol n now ser:Int}{key:List Int}:(cS p o 2 pol key n now ser).2.isSome=true↔(cS p o 2 pol key n now ser).1.e=0:=by
 unfold cS
 rw[if_neg (show ¬(2:Int)=4 by decide),j9 rfl]
 generalize o.getD (newC pol key)=c
 by_cases h:bN p.permits c.held ser=0
 ·have hA:jm p c ser=⟨0,true,p.permits-(eK p.permits c.held ser).length,0,ser,0⟩:=by unfold jm;rw[if_pos h]
  rw[hA,if_neg (fun h=>h.elim (fun h=>by cases h) fun h=>absurd h.1 (by decide))]
  exact⟨fun _=>rfl,fun _=>rfl⟩
 ·have hA:jm p c ser=⟨bN p.permits c.held ser,false,0,0,0,0⟩:=by unfold jm;rw[if_neg h]
  rw[hA,if_pos (.inl rfl)]
  exact⟨(fun h1=>by cases h1),fun h2=>absurd h2 h⟩
structure BkS(room:Int)(M:Core.Mc):Prop where
 bd:Bd room M
 clk:M.clk=0
 hel:HelD (Core.own cC M) (M.W 33)
theorem tY{M:Core.Mc}(h:Bd room M)(hr:1≤room∧room≤4096)(hlen:((aE ak room M).length:Int)≤room):za ak room (aE ak room M) :=
 ⟨h.srt,ok_of ⟨by omega,fun c hc=>by have:=h.cel c hc;exact⟨this.byt,this.key,this.held,this.pol⟩⟩,hlen,hr.2,by decide⟩
theorem own_pol{M:Core.Mc}{k:List Int}{d:Cel}{pol:Int}{key:List Int}(hk:k=pol::key)(h:Core.own cC M k=some d):d.pol=pol:=by
 have h1:=Core.own_idn h
 rw[hk]at h1
 have h2:d.pol::d.key=pol::key:=h1
 exact(List.cons.inj h2).1
theorem xO(hr:1≤room∧room≤4096){M M':Core.Mc}{c:Req}{r:Rpl}(hc:db c)(hS:BkS room M)(hB':Bd room M')(h33:0≤M.W 33∧M.W 33<1000000)(hlen:M.W 32<room)(hW:0≤M.W 0∧M.W 0≤8∧M.W 0%2=0)(hq:zF room c M M' r) :
  ∃w,doS ak room (aE ak room M) c.op c.pol c.key c.n 0 (M.W 33+1)=(w,aE ak room M')∧M'.W 33=(if c.op=2∧w.e=0 then M.W 33+1 else M.W 33) ∧
   r=(if c.op=6∧M.W 0=8 then ml 5 else w)∧M'.W 0=(if c.op=6∧M.W 0<8 then 2*(M.W 0/2)+2 else M.W 0)∧BkS room M':=by
 obtain⟨hB,hclk,hH⟩:=hS
 have hcnt:=hB.cnt
 have hl:((aE ak room M).length:Int)<room:=by omega
 have hI:=tY hB hr (by omega)
 have hE:=ok_b hc (ser:=M.W 33+1) (by omega)
 have hMX:Core.MAX=4611686018427387903:=rfl
 have hop:=hc.op
 rcases hq with⟨ho,hJ,h0⟩|⟨ho,hJ⟩|⟨ho,hS,hrr⟩
 ·have ho4:1≤c.op∧c.op≤4:=by omega
  have hkx:=hc.kx ho.1 ho.2
  have hkb:IsB c.key:=hkx.1
  have hQ:=ok_q hc
  have hd:=do_step (n:=c.n) (now:=0) (serial:=M.W 33+1) (key:=c.key) (pol:=c.pol) hI (op:=c.op) (by omega) hl
  have hinv:=do_inv (op:=c.op) (pol:=c.pol) (n:=c.n) (now:=0) (serial:=M.W 33+1) hI hkb
  generalize hD:doS ak room (aE ak room M) c.op c.pol c.key c.n 0 (M.W 33+1)=D at hd hinv⊢
  obtain⟨d1,d2,_⟩:=hd
  have hst:rH ak (look (aE ak room M) (c.pol::c.key)) c.op c.pol c.key c.n 0 (M.W 33+1)=cS (ak.getD c.pol.toNat default) (Core.own cC M (c.pol::c.key)) c.op c.pol c.key c.n 0 (M.W 33+1):=by
   unfold rH;rw[if_neg (fun h=>h hE),hB.look]
  rw[hst]at d1 d2
  have hbpol:((Core.own cC M (c.pol::c.key)).getD (newC c.pol c.key)).pol=c.pol:=by
   cases e:Core.own cC M (c.pol::c.key)with
   | none=>rfl
   | some d=>exact own_pol rfl e
  have h1:Core.res1 (aa ak room) (at0 M c)=cS (ak.getD c.pol.toNat default) (Core.own cC M (c.pol::c.key)) c.op c.pol c.key c.n 0 (M.W 33+1):=by
   show Core.one (aa ak room) (aJ c.op c.pol c.key c.n) (Core.own cC M (c.pol::c.key)) M.clk (M.W 33)=_
   rw[hclk]
   refine x8 ho4 (by omega) fun e2=>?_
   obtain⟨b1,b2⟩:=hH.base room hQ (by omega) (c.pol::c.key)
   have hp1:=hQ.2 (.inl e2)
   have hse:=vt_sem b1 (hbpol.trans hp1)
   have hpm:(ak.getD c.pol.toNat default).permits=2:=by rw[hp1];rfl
   rw[hpm]
   have hsb:nP (M.W 33+1)=true:=by simp[nP];omega
   have hhi:lN ((Core.own cC M (c.pol::c.key)).getD (newC c.pol c.key)).held (M.W 33+1)=false:=by
    cases e:lN ((Core.own cC M (c.pol::c.key)).getD (newC c.pol c.key)).held (M.W 33+1)with
    | false=>rfl
    | true=>exact absurd ((hX (b9.1 (e7.1 hse).2.2.2).2).1 e) (oY b2)
   constructor
   ·intro e
    unfold bN
    rw[if_neg (by rw[hsb];decide),if_neg (by rw[hse];decide),if_neg (by rw[hhi];decide),if_pos e]
   ·intro e
    exact nJ.2 ⟨hsb,hse,hhi,e⟩
  have hown:=hJ.own
  have h33':=hJ.w33
  have hr':=hJ.r
  rw[h1]at hr' h33'
  have hkk:Core.kk (at0 M c)=c.pol::c.key:=rfl
  have hown':∀k,Core.own cC M' k=if k=c.pol::c.key then(cS (ak.getD c.pol.toNat default) (Core.own cC M (c.pol::c.key)) c.op c.pol c.key c.n 0 (M.W 33+1)).2.or (Core.own cC M k)else Core.own cC M k:=fun k=>by
   rw[hown k,hkk,h1];rfl
  have hcells:D.2=aE ak room M':=kY hinv.srt hB'.srt fun i=>by
   rw[d2 i,hB'.look,hown',hB.look]
  have hZ33:(at0 M c).w33=M.W 33:=rfl
  have hxop:(at0 M c).x.op=c.op:=rfl
  rw[hZ33,hxop]at h33'
  have h33e:M'.W 33=if c.op=2∧D.1.e=0 then M.W 33+1 else M.W 33:=by
   rw[h33',d1]
   by_cases e2:c.op=2
   ·have:=yN (p:=ak.getD c.pol.toNat default) (o:=Core.own cC M (c.pol::c.key)) (pol:=c.pol) (n:=c.n) (now:=0) (ser:=M.W 33+1) (key:=c.key)
    rw[e2]
    by_cases e3:(cS (ak.getD c.pol.toNat default) (Core.own cC M (c.pol::c.key)) 2 c.pol c.key c.n 0 (M.W 33+1)).1.e=0
    ·rw[if_pos ⟨rfl,this.2 e3⟩,if_pos ⟨rfl,e3⟩]
    ·rw[if_neg (fun h=>e3 (this.1 h.2)),if_neg (fun h=>e3 h.2)]
   ·rw[if_neg (fun h=>e2 h.1),if_neg (fun h=>e2 h.1)]
  refine⟨D.1,by rw[← hcells],h33e,?_,?_,hB',hJ.clk.trans hclk,?_⟩
  ·rw[if_neg (fun h=>by omega),d1];exact hr'
  ·rw[if_neg (fun h=>by omega)];exact h0
  ·have hge:M.W 33≤M'.W 33:=by rw[h33'];split<;>omega
   intro k d hk
   rw[hown' k]at hk
   by_cases e:k=c.pol::c.key
   ·rw[if_pos e]at hk
    rw[← h1]at hk
    cases e3:(Core.res1 (aa ak room) (at0 M c)).2 with
    | none =>
     rw[e3]at hk
     obtain⟨b1,b2⟩:=hH k d (by simpa using hk)
     exact⟨b1,fun n hn=>by have:=b2 n hn;omega⟩
    | some q =>
     rw[e3]at hk
     obtain rfl:q=d:=by simpa using hk
     have e4:(Core.one (aa ak room) (aJ c.op c.pol c.key c.n) (Core.own cC M (c.pol::c.key)) 0 (M.W 33)).2=some q:=by
      rw[← e3]
      show _=(Core.one (aa ak room) (aJ c.op c.pol c.key c.n) (Core.own cC M (c.pol::c.key)) M.clk (M.W 33)).2
      rw[hclk]
     obtain⟨b1,b2⟩:=one_hel (room:=room) (x:=aJ c.op c.pol c.key c.n) hQ ho4 hbpol (fun h3=>hH.base room hQ ⟨ho4.1,h3⟩ _) h33.1 e4
     refine⟨b1,fun n hn=>?_⟩
     have b3:=b2 n hn
     rw[h1]at e3
     have hx2:(aJ c.op c.pol c.key c.n).op=c.op:=rfl
     rw[hx2]at b3
     rw[h33',e3]
     by_cases e2:c.op=2
     ·rw[if_pos e2]at b3;rw[if_pos ⟨e2,rfl⟩];exact b3
     ·rw[if_neg e2]at b3;rw[if_neg (fun h=>e2 h.1)];exact b3
   ·rw[if_neg e]at hk
    obtain⟨b1,b2⟩:=hH k d hk
    exact⟨b1,fun n hn=>by have:=b2 n hn;omega⟩
 ·rw[ho]at hE⊢
  have e1:∀k,Core.own cC M' k=(Core.own cC M k).filter fun d=>!aH ak d 0:=fun k=>by
   have h1:=hJ.own k
   have h2:(ev0 M).clk=0:=hclk
   rw[h2]at h1
   exact h1
  have hst:dd ak 0 (aE ak room M)=aE ak room M':=kY (hB.srt.filter _) hB'.srt fun i=>by
   rw[hB'.look,e1,← hB.look];exact rI hB.srt i
  have hw0:=hJ.w0
  have h33':M'.W 33=M.W 33:=hJ.w33
  have hdd:((ev0 M).d:Int)=M.W 0/2:=by show(((M.W 0/2).toNat:Nat):Int)=_;omega
  refine⟨_,by rw[yH hE,hst],?_,?_,?_,hB',hJ.clk.trans hclk,fun k d hk=>?_⟩
  ·rw[if_neg (fun h=>by omega)];exact h33'
  ·rw[if_neg (fun h=>by omega),hJ.r]
   have hc':=hB'.cnt
   show Core.gn (M.W 32-M'.W 32)=_
   rw[hcnt,hc'];rfl
  ·rw[if_neg (fun h=>by omega)];omega
  ·rw[e1]at hk
   obtain⟨h1,_⟩:=Option.filter_eq_some_iff.1 hk
   rw[h33']
   exact hH k d h1
 ·rw[ho]at hE⊢
  have h33':M'.W 33=M.W 33:=hS.w33
  have hcells:aE ak room M=aE ak room M':=kY hB.srt hB'.srt fun i=>by
   rw[hB.look,hB'.look];exact(hS.own i).symm
  refine⟨ml 0,?_,?_,?_,?_,hB',(hS.clk).trans hclk,fun k d hk=>?_⟩
  ·unfold doS
   rw[if_neg (fun h=>h hE),if_neg (by decide),if_pos rfl,hcells]
  ·rw[if_neg (fun h=>by omega)];exact h33'
  ·rcases hrr with⟨e,h8,_⟩|⟨e,h8,_⟩
   ·rw[if_pos ⟨rfl,h8⟩,e];rfl
   ·rw[if_neg (fun h=>by omega),e];rfl
  ·rcases hrr with⟨_,h8,e⟩|⟨_,h8,e⟩
   ·rw[if_neg (fun h=>by omega),e,h8]
   ·rw[if_pos ⟨rfl,h8⟩,e]
  ·rw[h33']
   exact hH k d ((hS.own k).symm.trans hk)
end
section
namespace Sim
variable{P:Core.Ops}
end Sim
end
section
open Sim hiding newC
variable{room:Int}
def spl(calls:List Req):Nat→Nat
 | 0=>0
 | t+1=>spl calls t+if(calls.getD t default).op=6 then 1 else 0
structure Aln(room:Int)(calls:List Req)(M:Core.Mc)(t:Nat):Prop where
 bk:BkS room M
 ser:0≤M.W 33∧M.W 33≤t
 cnt:M.W 32≤t
 lv:M.W 0=2*(min (spl calls t) 4:Nat)
structure Aln1(room:Int)(calls:List Req)(M M':Core.Mc)(t:Nat)(r:Rpl)(w:Rpl):Prop where
 bk:doS ak room (aE ak room M) (calls.getD t default).op (calls.getD t default).pol (calls.getD t default).key (calls.getD t default).n 0 (M.W 33+1)=(w,aE ak room M')
 ser:M'.W 33=if(calls.getD t default).op=2∧w.e=0 then M.W 33+1 else M.W 33
 r:r=if(calls.getD t default).op=6∧4≤spl calls t then ml 5 else w
 sp:(calls.getD t default).op=6→w=ml 0
structure AlnOk(room:Int)(calls:List Req)(s:SS)(ms:Nat→Core.Mc):Prop where
 len:s.out.length=calls.length
 m0:ms 0=Core.M0
 at_:∀t,t≤calls.length→Aln room calls (ms t) t
 st:∀t,t<calls.length→∃w,Aln1 room calls (ms t) (ms (t+1)) t (s.out.getD t default).r w
 fin:aE ak room s.M=aE ak room (ms calls.length)
theorem t6(hr:65≤room∧room≤4096){calls:List Req}(hc:∀c∈calls,db c)(hl:calls.length≤64) :
  ∃ms,AlnOk room calls (eT (aa ak room) true 1 (picks (aa ak room) (ss0 [calls]) [])) ms:=by
 have h0:SI room xs0 (aC 0) (ss0 [calls]):=.zero ⟨by omega,hr.2⟩ (.inl (by show 1≤8;decide)) fun w hw c hcw=>by
  rw[List.mem_singleton.1 hw]at hcw;exact hc c hcw
 have hb:Bd room Core.M0:=h0.bd fun j=>rfl
 have hm0:muS (ss0 [calls]) 1=165*1+166*((([calls]:List (List Req)).take 1).map List.length).sum:=nW [calls] 1 (Q4 _)
 have hm1:((([calls]:List (List Req)).take 1).map List.length).sum=calls.length:=by simp
 rw[hm1]at hm0
 have hk0:(ss0 [calls]).k=0:=rfl
 obtain⟨⟨xs2,nl2,h2⟩,hk2,hend⟩:=lT (room:=room) true 1 h0 (by omega)
 have hmu:mu (ss0 [calls]) 0≤muS (ss0 [calls]) 1:=by
  have e1:mu (ss0 [calls]) 0=0+166*((ss0 [calls]).ws 0).left.length:=by
   unfold mu
   rfl
  have e2:((ss0 [calls]).ws 0).left.length=calls.length:=rfl
  omega
 have o2:=Chn.fin (room:=room) (calls:=calls) (by omega) (mu (ss0 [calls]) 0) h0 (by omega) (Chn.zero calls hb)
 change Chn room calls (eT (aa ak room) true 1 (ss0 [calls]))at o2
 show ∃ms,AlnOk room calls (eT (aa ak room) true 1 (ss0 [calls])) ms
 have he:=hend rfl 0 (by decide)
 generalize eT (aa ak room) true 1 (ss0 [calls])=s at *
 obtain⟨ms,m0,hle,hbd,h1,h3,h4⟩:=o2.ex
 have hlen:s.out.length=calls.length:=by
  rcases h4 with⟨a,_⟩|⟨_,a,_⟩
  ·rw[he.1]at a;cases a
  ·rw[he.2]at a
   have h5:=congrArg List.length a
   rw[List.length_drop]at h5
   simp at h5
   omega
 have hM:s.M=ms s.out.length:=by
  rcases h4 with⟨a,_⟩|⟨_,_,a⟩
  ·rw[he.1]at a;cases a
  ·exact a
 have hmem:∀t,t<calls.length→db (calls.getD t default):=fun t ht=>by
  refine hc _ ?_
  rw[Q1,Q0 ht];exact Q14 ht
 have key:∀t,t<calls.length→Aln room calls (ms t) t→Aln room calls (ms (t+1)) (t+1)∧∃w,Aln1 room calls (ms t) (ms (t+1)) t (s.out.getD t default).r w:=fun t ht hA=>by
  obtain⟨hd,h32⟩:=h3 t (by omega)
  obtain⟨_,h32'⟩:=h3 (t+1) (by omega)
  have hs1:=hA.ser
  have hlv:=hA.lv
  obtain⟨w,g1,g2,g3,g4,g5⟩:=xO (room:=room) ⟨by omega,hr.2⟩ (hmem t ht) hA.bk (hbd (t+1) (by omega)) (by omega) (by omega) hd (h1 t (by omega)).2
  refine⟨⟨g5,?_,h32',?_⟩,w,g1,g2,?_,fun e=>?_⟩
  ·rw[g2];split<;>omega
  ·rw[g4]
   show _=2*((min (spl calls t+if(calls.getD t default).op=6 then 1 else 0) 4:Nat):Int)
   by_cases e:(calls.getD t default).op=6
   ·rw[if_pos e]
    by_cases e8:(ms t).W 0<8
    ·rw[if_pos ⟨e,e8⟩];omega
    ·rw[if_neg (fun h=>e8 h.2)];omega
   ·rw[if_neg e,if_neg (fun h=>e h.1)];exact hlv
  ·rw[g3]
   by_cases e:(calls.getD t default).op=6
   ·by_cases e8:(ms t).W 0=8
    ·rw[if_pos ⟨e,e8⟩,if_pos ⟨e,by omega⟩]
    ·rw[if_neg (fun h=>e8 h.2),if_neg (fun h=>e8 (by have:=h.2;omega))]
   ·rw[if_neg (fun h=>e h.1),if_neg (fun h=>e h.1)]
  ·have hE:=ok_b (hmem t ht) (ser:=(ms t).W 33+1) (by omega)
   rw[e]at g1 hE
   unfold doS at g1
   rw[if_neg (fun h=>h hE),if_neg (by decide),if_pos rfl]at g1
   exact(congrArg Prod.fst g1).symm
 have all:∀t,t≤calls.length→Aln room calls (ms t) t:=fun t=>by
  induction t with
  | zero =>
   intro _
   rw[m0]
   exact⟨⟨hb,rfl,fun k d hk=>by cases hk⟩,⟨Int.le_refl _,Int.le_refl _⟩,Int.le_refl _,rfl⟩
  | succ t ih=>exact fun ht=>(key t (by omega) (ih (by omega))).1
 exact⟨ms,hlen,m0,all,fun t ht=>(key t ht (all t (by omega))).2,by rw[hM,hlen]⟩
end
theorem Sat.frz{O:Org}{E:Env}{nt:NT}{nx:Nat}{fr:List (Nat×SV)}{hp:List (Nat×Option Blk)}{a:Act}{w:World}(hs:Sat O E ⟨nt,nx,fr,hp⟩ a w){l e z m:Nat}{f:Nat→List D}(hl:lkh hp l=some (.row e z m f)){off n:Nat}(h1:off+n≤m) :
  ∃E',Sat O E' ⟨nt,nx,fr,(l,none)::hp⟩ a w∧∀u,RS E' nx w (.sl l z off n) u→RS E' nx w (.d (.sl z n fun i=>f (off+i))) u:=by
 by_cases hκ:0<E.κ l
 ·obtain⟨s1,s2⟩:=hs.imm (w':=w) hl hκ (fun _ _ _=>rfl) rfl ⟨rfl,rfl,rfl⟩ (fun vs hvs=>⟨_,hvs⟩)
  refine⟨_,s1,fun u hu=>s2 off n u h1 ?_⟩
  cases hu with
  | sl _ _ _ _ a' cap hlx hc hmx ha h0=>exact .sl _ _ _ _ a' cap hlx hc hmx ha h0
 ·have hm:=(hs.hp l _ hl).1
  have hn:n=0:=by omega
  subst hn
  refine⟨E,hs.kill l,fun u hu=>?_⟩
  cases hu with
  | sl _ _ _ _ a' cap hlx hc hmx ha h0=>exact .d _ _ (.sl _ 0 _ a' cap (fun _ _=>undef) hc hmx (fun i hi=>by omega) (fun h=>by omega) (fun i j hi=>by omega))
theorem Wp.frzC{C:Cx}{c:Code}{nt:NT}{nx:Nat}{fr:List (Nat×SV)}{hp:List (Nat×Option Blk)}{Q:Exit→St→Prop}(k j:Nat){cs:List SV}{l z off n e m:Nat}{f:Nat→List D}
  (hk:lkh hp k=some (.cells cs)) (hj:cs[j]?=some (.sl l z off n)) (hl:lkh hp l=some (.row e z m f)) (hkl:l≠k) (hn:off+n≤m)
  (h:Wp C c ⟨nt,nx,fr,(k,some (.cells (cs.set j (.d (.sl z n fun i=>f (off+i))))))::(l,none)::hp⟩ Q):Wp C c ⟨nt,nx,fr,hp⟩ Q:=by
 refine⟨fun O E a w hs=>?_⟩
 obtain⟨E',s1,s2⟩:=hs.frz hl hn
 refine h.out O E' a w (s1.rehp fun k' b' hb'=>?_)
 rw[ah]at hb'
 by_cases e1:k=k'
 ·subst e1
  rw[if_pos rfl]at hb';cases hb'
  refine⟨.cells cs,by rw[ah,if_neg hkl];exact hk,fun _ h=>h,fun hb=>?_⟩
  obtain⟨vs,T,h1,h2,h3⟩:=hb
  refine⟨vs,T,h1,by rw[List.length_set];exact h2,fun i hi=>?_⟩
  rw[List.length_set]at hi
  obtain⟨h4,h5⟩:=h3 i hi
  refine⟨?_,h5⟩
  by_cases e2:j=i
  ·subst e2
   rw[List.getElem_set_self]
   refine s2 _ ?_
   rw[Q0 hi]at hj
   rw[← Option.some.inj hj];exact h4
  ·rw[List.getElem_set_ne e2];exact h4
 ·rw[if_neg e1]at hb'
  exact⟨b',hb',fun _ h=>h,fun h=>h⟩
end Go.Proofs.YtlkccdlgnpkjpaaGreat
