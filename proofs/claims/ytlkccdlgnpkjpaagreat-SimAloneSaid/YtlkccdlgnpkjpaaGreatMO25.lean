/- Lemmas of Smt. No condition. -/
import Derived.Test.YtlkccdlgnpkjpaaGreatMO24
set_option linter.unusedVariables false
set_option linter.unusedSimpArgs false
set_option linter.unusedSectionVars false
set_option maxHeartbeats 80000000
set_option maxRecDepth 100000
namespace Go.Proofs.YtlkccdlgnpkjpaaGreat
open Go.RowKit
open Sim
structure RegA(n:Nat)(p:Prop):Prop where
 out:p
theorem Wp.regA(n:Nat){C:Cx}{b:Array Oper}{d:Bool}{y:Code}{S:St}{Q:Exit→St→Prop}(h:RegA n (Wp C (.seq (.region n b d) y) S Q)):Wp C (.seq (.region n b d) y) S Q:=h.out
theorem yP(A l:List Req):∀k,k<A.length+l.length→bu A.length (fun i=>Req.D (A.getD i default)) (fun i=>Req.D (l.getD i default)) k=Req.D ((A++l).getD k default):=fun k _=>by
 simp only[bu]
 by_cases e:k<A.length
 ·rw[if_pos e,Q1,Q1,Q11 e]
 ·rw[if_neg e,Q1,Q1,Q12 (by omega)]
theorem pC:∀{W:List (List Req)} {n:Nat},(∀w∈W,w.length≤n)→W.flatten.length≤n*W.length
 | [],n,_=>Nat.zero_le _
 | w::W,n,h=>by
  have h1:=pC (W:=W) (n:=n) fun u hu=>h u (List.mem_cons_of_mem _ hu)
  have h2:=h w (List.mem_cons_self ..)
  rw[List.flatten_cons,Q9,List.length_cons,Nat.mul_succ];omega
theorem ze(calls:List Req):∀t,spl calls t≤t
 | 0=>Q4 _
 | t+1=>by have:=ze calls t;show spl calls t+(if _ then 1 else 0)≤t+1;split<;>omega
theorem jG (room : Int) (work:List (List Req)) (picks:List (Int×Int)) (fin:Bool) (hr:-9223372036854775808≤room∧room≤9223372036854775807) (hw:∀w∈work,∀c∈w,c.ok)
    (hp:∀p∈picks,(-9223372036854775808≤p.1∧p.1≤9223372036854775807)∧(-9223372036854775808≤p.2∧p.2≤9223372036854775807)) :
    Pure TC 3 [cfgD .any room work picks fin] (.b true):=by
  have hF:=sS room work picks fin true hr hw hp
  have hW:=yD hw
  have hW5:(q9 work).length≤5:=by unfold q9;rw[List.length_map,Q10];omega
  have hW4:∀w∈q9 work,w.length≤4:=fun w hm=>by
    obtain⟨u,_,rfl⟩:=List.mem_map.1 hm
    rw[List.length_map,Q10];omega
  have hWb:∀w∈q9 work,∀c∈w,IsB c.key:=fun w hm c hc=>by
    obtain⟨u,hu,rfl⟩:=List.mem_map.1 hm
    obtain⟨d,hd,rfl⟩:=List.mem_map.1 hc
    exact fun x hx=>(hw u (List.mem_of_mem_take hu) d (List.mem_of_mem_take hd)).key x (List.mem_of_mem_take hx)
  generalize (picks.take 400).map (pD (q9 work).length)=P at hF
  generalize q9 work=W at hF hW hW5 hW4 hWb
  generalize fitR room=R at hF
  have hfl:=pC hW4
  have hcs:∀c∈W.flatten,db c:=fun c hc=>by
    obtain⟨w,hw,hcw⟩:=List.mem_flatten.1 hc
    exact hW.call w hw c hcw
  have hcb:∀c∈W.flatten,IsB c.key:=fun c hc=>by
    obtain⟨w,hw,hcw⟩:=List.mem_flatten.1 hc
    exact hWb w hw c hcw
  obtain⟨ms,hA⟩:=t6 (room:=4096) (by omega) hcs (by omega)
  have hF1:Few [W.flatten]:=⟨zzb rfl,fun w hm=>by rw[List.mem_singleton.1 hm];omega,fun w hm=>by rw[List.mem_singleton.1 hm];exact hcs⟩
  have hR1:=run_fit (room:=4096) (by omega) hF1 (P:=[]) (by decide) (fun p hm=>by cases hm) true
  dsimp only[repS]at hR1
  rw[show([W.flatten]:List (List Req)).length=1 from rfl]at hR1
  generalize eT (aa ak 4096) true 1 (Sim.picks (aa ak 4096) (ss0 [W.flatten]) [])=S1 at *
  obtain⟨M,S,ws,out,k⟩:=S1
  obtain⟨a1,a2,a3,a4,a5⟩:=hA
  dsimp only at a1 a4 a5 hR1
  rw[a5]at hR1
  generalize M.W 32=m32 at hR1
  generalize pend S 1=pe at hR1
  refine Pure.mk' Tryz.func3 rfl rfl zN ?_
  (repeat' (first|((first|refine Wp.any ac rfl ?_|(with_reducible first|refine Go.mk ?_|apply ai.of|refine ab.pure (awake19) rfl rfl ?_|refine ab.pure (hF) rfl rfl ?_));conv=>whnf)))
  refine Wp.le (Le.virt 4 46 4 (fun i=>Req.D (([]:List Req).getD i default)) (by decide) rfl) ?_
  refine Wp.loopP (ι:=Nat) (fun j=>j≤W.length) (fun j=>⟨⟨Tryz.f3.ntmps,0⟩,2,[(3,.ptr 0 0),(4,.sl 1 4 0 (W.take j).flatten.length),(21,.d (am 1 aQ W)),(22,.i .i64 W.length),(23,.i .i64 j)],
    [(0,some (.cells [.d (am 4 Pol.D ak),.i .i64 R,.d (am 1 aQ W),.d (am 2 cD P),.b true])),(1,some (ay 46 4 Req.D (W.take j).flatten))]⟩) (fun j=>W.length-j) 0 (Nat.zero_le _) ?_ ?_
  ·(refine Le.by [1,2] rfl rfl rfl rfl ?_ ?_<;>((conv=>whnf);repeat' (first|exact trivial|exact ae.rfl rfl|exact ae.ptr rfl|exact ae.sl rfl|exact⟨rfl,rfl,rfl⟩|exact fun i hi=>rfl|((with_reducible refine And.intro ?_ ?_)<;>(conv=>whnf)))))
  · rintro j h1
    by_cases hj:j<W.length
    · have hta:=eJ hj
      have hpj:(W.take j).flatten.length≤20:=by
        have h9:(W.take j).flatten.length+(W.drop j).flatten.length=W.flatten.length:=by
          rw[← Q9,← List.flatten_append,List.take_append_drop]
        omega
      have hlm:(W.getD (j:Int).toNat default).length≤4:=hW4 _ (by rw[Q13,Q1,Q0 hj];exact Q14 hj)
      (repeat' (first|((first|refine Wp.any ac rfl ?_|(with_reducible first|refine Go.mk ?_|apply ai.of|refine Ov.ok zO ?_|refine And.intro zC ?_));conv=>whnf)|((with_reducible refine And.intro ?hb ?_);(case hb=>exact zz6);(conv=>whnf))|((refine aq (fun hc=>?_) (fun hc=>?_))<;>(try simp only[wz9]at hc)<;>(try (exfalso;omega))<;>(conv=>whnf))))
      generalize W.getD (j:Int).toNat default=l at hta⊢
      refine⟨j+1,by dsimp only;omega,by dsimp only;omega,?_⟩
      dsimp only
      rw[hta,List.flatten_append,show[l].flatten=l by simp]
      generalize (W.take j).flatten=A
      (refine Le.by [0,2] rfl rfl rfl rfl ?_ ?_<;>((conv=>whnf);repeat' (first|exact trivial|exact ae.rfl rfl|exact ae.ptr rfl|((with_reducible refine And.intro ?_ ?_)<;>(conv=>whnf)))))
      all_goals first
        | (rw[Q9];exact ae.sl rfl)
        | exact yP _ _
        | exact List.length_append.symm
        | exact Q9
        | rfl
    · obtain rfl : j=W.length:=by omega
      rw[List.take_length]
      (repeat' (first|(with_reducible refine Wp.regA 10 ?_)|((first|refine Wp.any ac rfl ?_|(with_reducible first|refine Go.mk ?_|apply ai.of));conv=>whnf)|((refine aq (fun hc=>?_) (fun hc=>?_))<;>(try simp only[wz9]at hc)<;>(try (exfalso;omega))<;>(conv=>whnf))))
      refine RegA.mk ?_
      refine Wp.frz 4 (by decide) ?_
      conv=>whnf
      refine⟨by omega,?_⟩
      conv=>whnf
      refine⟨rfl,rfl,?_⟩
      (repeat' (first|(with_reducible refine Wp.regA 13 ?_)|((first|refine Wp.any ac rfl ?_|(with_reducible first|refine Go.mk ?_|apply ai.of));conv=>whnf)))
      refine RegA.mk ?_
      refine Wp.frzC 0 2 rfl rfl rfl (by decide) (by decide) ?_
      have hR2:=hR1.leX (args:=[.agg [.d (am 4 Pol.D ak),.d (.val (.int .i64 4096)),.d (.sl ti32.size 1 fun i=>bm [.sl 4 W.flatten.length fun i=>(fun i=>(W.flatten.getD i default).D) (0+i)] ti32.size (0+i)),.d (.val (.slice none 0 0)),.d (.val (.bool true))]])
        (.cons (.agg (.cons (.rfl _) (.cons (.rfl _) (.cons (jx rfl fun i hi=>by
          obtain rfl:i=0:=by have hi:i<1:=hi;omega
          show[D.sl 4 W.flatten.length fun i=>(W.flatten.getD (0+i) default).D]=aQ W.flatten
          simp only[Q19]
          rfl) (.cons SV.Le.nil (.cons (.rfl _) .nil)))))) .nil)
      (repeat' (first|((first|refine Wp.any ac rfl ?_|(with_reducible first|refine Go.mk ?_|apply ai.of|refine ab.pure (hR2) rfl rfl ?_|refine ab.pure (eO) rfl rfl ?_));conv=>whnf)|((refine ab.fn (pT ak 4096 (oH (by omega))) [] rfl rfl rfl rfl rfl ?ha ?hh ?_);(case ha=>exact zA);(case hh=>exact zH);(conv=>whnf))|((refine aq (fun hc=>?_) (fun hc=>?_))<;>(try simp only[wz9]at hc)<;>(try (exfalso;omega))<;>(conv=>whnf))))
      refine Wp.loopP (ι:=Nat) (fun i=>i≤out.length) (fun i=>⟨⟨Tryz.f3.ntmps,0⟩,3,[(4,.d (am 4 Req.D W.flatten)),(7,.ptr 0 0),(9,.ptr 1 0),(11,.i .i64 ((ms i).W 33+1)),(12,.i .i64 (spl W.flatten i)),(61,.d (am 13 Dn.D out)),(62,.i .i64 out.length),(63,.i .i64 i)],
        [(0,some (.cells [.d (am 13 Dn.D out),.d (am 4 Cel.D (aE ak 4096 (ms W.flatten.length))),.any,.any,.any,.any])),(1,some (.cells [.d (am 4 Pol.D ak),.i .i64 4096,.sl 2 4 0 (aE ak 4096 (ms i)).length])),(2,some (ay 89 4 Cel.D (aE ak 4096 (ms i))))]⟩) (fun i=>out.length-i) 0 (Nat.zero_le _) ?_ ?_
      · have e33:(ms 0).W 33+1=1:=by rw[a2];rfl
        have ecs:aE ak 4096 (ms 0)=[]:=by rw[a2];rfl
        dsimp only
        rw[e33,ecs]
        (refine Le.by [3,4,5] rfl rfl rfl rfl ?_ ?_<;>((conv=>whnf);repeat' (first|exact trivial|exact ae.rfl rfl|exact ae.ptr rfl|exact ae.sl rfl|exact ae.free SV.Le.any rfl|exact⟨rfl,rfl,rfl⟩|exact fun i hi=>rfl|((with_reducible refine And.intro ?_ ?_)<;>(conv=>whnf)))))
        all_goals first
          | exact ae.free (jx rfl fun i hi=>by simp only[Q19]) rfl
          | exact ae.sl rfl
      · rintro i h2
        by_cases hi:i<out.length
        · have e :=Q13 i
          have hi':i<W.flatten.length:=by omega
          obtain⟨w,b1,b2,b3,b4⟩:=a4 i hi'
          have hA:=a3 i (by omega)
          have hm:W.flatten.getD (i:Int).toNat default∈W.flatten:=by rw[e,Q1,Q0 hi'];exact Q14 hi'
          have hkb:=hcb _ hm
          have hok:=hcs _ hm
          have hS:spl W.flatten (i+1)=spl W.flatten i+if(W.flatten.getD (i:Int).toNat default).op=6 then 1 else 0:=by rw[e];rfl
          have hC:W.flatten.getD i default=W.flatten.getD (i:Int).toNat default:=by rw[e]
          have hO:out.getD i default=out.getD (i:Int).toNat default:=by rw[e]
          rw[hC]at b1 b2 b3 b4
          rw[hO]at b3
          have hcnt:=hA.bk.bd.cnt
          have hcn2:=hA.cnt
          have hse:=hA.ser
          have hD:=book_Do ak 4096 (aE ak 4096 (ms i)) (W.flatten.getD (i:Int).toNat default).op (W.flatten.getD (i:Int).toNat default).pol (W.flatten.getD (i:Int).toNat default).key (W.flatten.getD (i:Int).toNat default).n 0 ((ms i).W 33+1) (tY hA.bk.bd ⟨by decide,by decide⟩ (by omega)).ok hkb
          rw[b1]at hD
          dsimp only at hD
          have hsl:=ze W.flatten i
          have h3:((W.flatten.getD (i:Int).toNat default).op≠6∧(out.getD (i:Int).toNat default).r=w) ∨
              ((W.flatten.getD (i:Int).toNat default).op=6∧4≤spl W.flatten i∧(out.getD (i:Int).toNat default).r=ml 5∧w=ml 0) ∨
              ((W.flatten.getD (i:Int).toNat default).op=6∧¬4≤spl W.flatten i∧(out.getD (i:Int).toNat default).r=ml 0∧w=ml 0):=by
            by_cases h6:(W.flatten.getD (i:Int).toNat default).op=6
            · by_cases h4:4≤spl W.flatten i
              ·exact .inr (.inl ⟨h6,h4,by rw[b3,if_pos ⟨h6,h4⟩],b4 h6⟩)
              ·exact .inr (.inr ⟨h6,h4,by rw[b3,if_neg (fun h=>h4 h.2),b4 h6],b4 h6⟩)
            ·exact .inl ⟨h6,by rw[b3,if_neg (fun h=>h6 h.1)]⟩
          clear b3 b4
          rcases h3 with⟨h6,hr3⟩|⟨h6,h4,hr3,hw3⟩|⟨h6,h4,hr3,hw3⟩
          all_goals(try subst hw3)
          all_goals(repeat' (first|((first|refine Wp.any ac rfl ?_|(with_reducible first|refine Go.mk ?_|apply ai.of|refine Ov.ok zO ?_|refine And.intro zC ?_));conv=>whnf)|((refine ab.fn (hD) [1,2] rfl rfl rfl rfl rfl ?ha ?hh ?_);(case ha=>exact zA);(case hh=>exact zH);(conv=>whnf))|((refine aq (fun hc=>?_) (fun hc=>?_))<;>(try simp only[wz9]at hc)<;>(try (exfalso;omega))<;>(conv=>whnf))))
          all_goals first
            | (exfalso;omega)
            | (exfalso;rw[hr3]at hc;simp[ml]at hc;done)
            | (refine⟨i+1,by dsimp only;omega,by dsimp only;omega,?_⟩
               dsimp only
               rw[b2,hS]
               (refine Le.by [0,1,4] rfl rfl rfl rfl ?_ ?_<;>((conv=>whnf);repeat' (first|exact trivial|exact ae.rfl rfl|exact ae.ptr rfl|exact ae.sl rfl|exact⟨rfl,rfl,rfl⟩|exact fun i hi=>rfl|((with_reducible refine And.intro ?_ ?_)<;>(conv=>whnf)))))
               all_goals first
                 | exact ae.free (.i (by split<;>omega)) rfl
                 | exact ae.free (.i (by(try simp only[ml]at *);split<;>omega)) rfl)
        · obtain rfl:i=out.length:=by omega
          have hAe:=a3 out.length (by omega)
          have hcn:=hAe.bk.bd.cnt
          have hcm:=hAe.cnt
          have hI:=tY hAe.bk.bd ⟨by decide,by decide⟩ (by omega)
          have hCl:=qQ ak 4096 (aE ak 4096 (ms out.length)) (by omega) (fun k=>⟨by have:=hI.ok.key k;omega,by have:=hI.ok.held k;omega⟩)
          have hSm:=xT (aE ak 4096 (ms out.length)) (aE ak 4096 (ms out.length))
          rw[decide_eq_true rfl]at hSm
          rw[← a1]
          (repeat' (first|((first|refine Wp.any ac rfl ?_|(with_reducible first|refine Go.mk ?_|apply ai.of)|refine zV ?_);conv=>whnf)|((refine ag.fn (hCl) [1,2] [1,2] rfl rfl rfl rfl rfl ?ha ?hh ?hs ?_);(case ha=>exact zA);(case hh=>exact zH);(case hs=>exact zK);(conv=>whnf))|((with_reducible refine ag.pure (hSm) rfl rfl ?_);conv=>whnf)|((refine aq (fun hc=>?_) (fun hc=>?_))<;>(try simp only[wz9]at hc)<;>(try (exfalso;omega))<;>(conv=>whnf))))
          exact .rfl _
end Go.Proofs.YtlkccdlgnpkjpaaGreat
