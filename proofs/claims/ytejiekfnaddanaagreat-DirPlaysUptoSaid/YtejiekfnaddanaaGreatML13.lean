/- Lemmas of De27, Br16, De28, De29, De30. No condition. -/
import Derived.Test.YtejiekfnaddanaaGreatML12
set_option linter.unusedVariables false
set_option linter.unusedSimpArgs false
set_option linter.unusedSectionVars false
set_option maxHeartbeats 80000000
set_option maxRecDepth 100000
namespace Go.Proofs.YtejiekfnaddanaaGreat
open Go.RowKit
noncomputable def cU:Code:=(mw 21 (Tryz.f3.body.getD .skip)).getD .skip
structure Reg(n:Nat)(p:Prop):Prop where
 out:p
theorem Wp.reg(n:Nat){C:Cx}{b:Array Oper}{d:Bool}{y:Code}{S:St}{Q:Exit→St→Prop}(h:Reg n (Wp C (.seq (.region n b d) y) S Q)):Wp C (.seq (.region n b d) y) S Q:=h.out
theorem recD_op{M:Dir.Mc}{s:Dir.CS}(hc:Dir.Ch M s)(ag:Bool):∃(o:Int) (r:List SV),recD ag s=.i .u8 o::r∧r.length=9∧(o != 0)=isC s:=by
 have ho:∀{c:Dir.Kc},Dir.okOp c→(c.op != 0)=true:=fun h=>by
  have:=h.1
  simp;omega
 cases s with
 | none=>exact⟨0,_,rfl,rfl,rfl⟩
 | k0 c=>exact⟨c.op,_,rfl,rfl,ho hc⟩
 | kE c w=>exact⟨c.op,_,rfl,rfl,ho hc.1⟩
 | kF c lv w=>exact⟨c.op,_,rfl,rfl,ho hc⟩
 | kG c lv w v m=>exact⟨c.op,_,rfl,rfl,ho hc.1⟩
 | kH c lv w m=>exact⟨c.op,_,rfl,rfl,ho hc.1⟩
 | kL c lv w m=>exact⟨c.op,_,rfl,rfl,ho hc.1⟩
 | kS c w v m n=>exact⟨c.op,_,rfl,rfl,ho hc.1⟩
 | _=>exact⟨4,_,rfl,rfl,rfl⟩
structure Pk where
 who:Int
 op:Int
 key:List Int
 val:Int
 deriving Inhabited
@[reducible] def Pk.D(p:Pk):List D:=[.val (.int .i64 p.who),.val (.int .u8 p.op),al 1 (aA .u8) p.key,.val (.int .i64 p.val)]
@[reducible] def Pk.S(p:Pk):SV:=.agg [.i .i64 p.who,.i .u8 p.op,.d (al 1 (aA .u8) p.key),.i .i64 p.val]
def Pk.ok(p:Pk):Prop:=(-9223372036854775808≤p.who∧p.who≤9223372036854775807)∧(0≤p.op∧p.op≤255)∧IsB p.key∧(-9223372036854775808≤p.val∧p.val≤9223372036854775807)
structure DI(k:Nat)(M:Dir.Mc)(cs:Nat→Dir.CS)(nl:Nat)(F:Nat→List SV):Prop where
 e:iP k M cs nl ((k:Int)+1)
 z:M.Hd 0=[]
 r:∀i,Rc (cs i) (F i)
noncomputable def dpS(script:List Pk)(N:Int)(k:Nat)(M:Dir.Mc)(cs:Nat→Dir.CS)(nl:Nat)(f:Nat→List D)(F:Nat→List SV)(i:Nat):St :=
 ⟨⟨Tryz.f3.ntmps,0⟩,6,[(3,.ptr 0 0),(4,.ptr 5 0),(25,.d (al 4 Pk.D script)),(26,.i .i64 N),(27,.i .i64 i)],aN (gOf cs) M nl f 0 ((k:Int)+1)++[(5,some (dB M.W M.Hd k F))]⟩
theorem mE{k:Nat}{M:Dir.Mc}{cs:Nat→Dir.CS}{nl:Nat}{F:Nat→List SV}(h:DI k M cs nl F)(hk:k≤500){f:Nat→List D}{who op val:Int}{key:List Int}{b:Bool}{i:Nat}(hi:i<500){script:List Pk}{N:Int}
    (hP:Fun TC 16 5 [.ptr 0 0,.i .i64 who] (aN (gOf cs) M nl f 0 ((k:Int)+1)) 5 (.b b) (aN (gOf cs) M nl f 0 ((k:Int)+1)))
    (hPd:Fun TC 17 1 [.ptr 0 0,.i .i64 who] [(0,some (dB M.W M.Hd k F))] 1 (.b b) [(0,some (dB M.W M.Hd k F))]) {Q:Exit→St→Prop}
    (hQ:∀S',Le S' (dpS script N k M cs nl f F i)→Q .normal S') :
    Wp TC cU ⟨⟨Tryz.f3.ntmps,0⟩,7,[(3,.ptr 0 0),(4,.ptr 5 0),(5,.i .i64 i),(6,.ptr 6 0),(25,.d (al 4 Pk.D script)),(26,.i .i64 N),(27,.i .i64 i)],aN (gOf cs) M nl f 0 ((k:Int)+1)++[(5,some (dB M.W M.Hd k F)),(6,some (.cells [.i .i64 who,.i .u8 op,.d (al 1 (aA .u8) key),.i .i64 val]))]⟩ Q:=by
  have hF:=OKF.of h.r
  have hd:=h.e.s.inv.iw.d
  have q5:=ci cs
  have hLv:=jy (ci cs) M nl f 0 ((k:Int)+1) hd.1 hd.2
  have hDl:=n5 (W:=M.W) (H:=M.Hd) (n:=(k:Int)) hF hd.1 hd.2
  have hSt:=jw (ci cs) M nl f 0 ((k:Int)+1) (by omega) (by omega)
  rw[show(k:Int)+1-1=k by omega]at hSt
  have hH:∀w,Dir.Hn 20000 (M.Hd w):=fun w=>(h.e.s.hd w).mono (by omega)
  conv=>(arg 2;whnf)
  (repeat' (first|(with_reducible refine Wp.reg 23 ?_)|((first|refine Wp.any ab rfl ?_|(with_reducible first|refine Go.mk ?_|apply am.of));conv=>whnf)|((apply aa.fn5 (h:=hLv));(case hh=>exact zG);(case ha=>exact zA);(case hd=>exact rfl);(case hlive=>exact rfl);(case hkeys=>exact rfl);(case hlt=>exact rfl);(conv=>whnf))|((refine aa.fn (hDl) [5] rfl rfl rfl rfl rfl ?ha ?hh ?_);(case ha=>exact zA);(case hh=>exact zz2);(conv=>whnf))))
  refine⟨?_⟩
  cases b
  all_goals(repeat' (first|(with_reducible refine Wp.reg 26 ?_)|((first|refine Wp.any ab rfl ?_|(with_reducible first|refine Go.mk ?_|apply am.of)|refine zV ?_|with_reducible refine And.intro zC ?_);conv=>whnf)|((refine ai.fn (hP) [0,1,2,3,4] [] rfl rfl rfl rfl rfl ?ha ?hh ?hs ?_);(case ha=>exact zA);(case hh=>exact zG);(case hs=>exact zK);(conv=>whnf))|((refine ai.fn (hPd) [5] [5] rfl rfl rfl rfl rfl ?ha ?hh ?hs ?_);(case ha=>exact zA);(case hh=>exact zz2);(case hs=>exact zK);(conv=>whnf))|((refine ai.fn (hSt) [0,1,2,3,4] [0,1,2,3,4] rfl rfl rfl rfl rfl ?ha ?hh ?hs ?_);(case ha=>exact zA);(case hh=>exact zG);(case hs=>exact zK);(conv=>whnf))|((with_reducible refine At.mk' 64 rfl ?_);conv=>whnf)|((refine au (fun hc=>?_) (fun hc=>?_))<;>(try simp only[wz9]at hc)<;>(try (exfalso;omega))<;>(conv=>whnf))))
  all_goals try exact absurd trivial hc
  all_goals try exact absurd rfl hc
  all_goals first
    | (refine⟨?_⟩
       refine Wp.le (S':=dpS script N k M cs nl f F i) ?_ (scr_wp (g:=gOf cs) (M:=M) (nl:=nl) (clk:=0) (cnt:=(k:Int)+1) (n:=(k:Int)) (F:=F) hF hd.1 hd.2 hH h.e.s.inv.iw h.e.ih h.e.kh rfl rfl rfl rfl rfl rfl rfl rfl rfl rfl rfl rfl rfl ?_)
       case refine_2 =>
         conv=>whnf
         (repeat' (first|with_reducible exact rfl))
         refine hQ _ ?_
         (refine Le.by [0,1,2,3,4,5] rfl rfl rfl rfl ?_ ?_<;>(conv=>whnf)<;>(repeat' (first|exact trivial|exact ac.rfl rfl|exact ac.ptr rfl|exact ac.sl rfl|exact bu|exact⟨rfl,rfl,rfl⟩|exact⟨rfl,zzb rfl⟩|exact fun i hi=>rfl|exact(ar hF).out.2|((with_reducible refine And.intro ?_ ?_)<;>(conv=>whnf)))))
       (refine Le.by [0,1,2,3,4,5] rfl rfl rfl rfl ?_ ?_<;>(conv=>whnf)<;>(repeat' (first|exact trivial|exact ac.rfl rfl|exact ac.ptr rfl|exact ac.sl rfl|exact bT (fun l hl=>by rcases l with _|_|_|_|l<;>first|rfl|omega)|exact⟨rfl,rfl,rfl⟩|exact⟨rfl,zzb rfl⟩|exact fun i hi=>rfl|exact(ar hF).out.2|((with_reducible refine And.intro ?_ ?_)<;>(conv=>whnf))))))
    | (refine hQ _ ?_;(refine Le.by [0,1,2,3,4,5] rfl rfl rfl rfl ?_ ?_<;>(conv=>whnf)<;>(repeat' (first|exact trivial|exact ac.rfl rfl|exact ac.ptr rfl|exact ac.sl rfl|exact bT (fun l hl=>by rcases l with _|_|_|_|l<;>first|rfl|omega)|exact⟨rfl,rfl,rfl⟩|exact⟨rfl,zzb rfl⟩|exact fun i hi=>rfl|exact(ar hF).out.2|((with_reducible refine And.intro ?_ ?_)<;>(conv=>whnf))))))
section
open Go.ChangeShapes Go.WideShapes Go.ChangeAt Go.RowKit
inductive mA(N:Nat):D→Prop
 | val (v:Value):mA N (.val v)
 | sl {z n:Nat} {f:Nat→List D} (hn:n≤N) (h:∀i,i<n→∀d,d∈f i→mA N d):mA N (.sl z n f)
theorem rG{H:Type}(d:DataW H):1≤Rows.uptoBulk d:=by
 cases d with
 | lit l=>cases l<;>simp[Rows.uptoBulk]
 | _=>simp[Rows.uptoBulk]
theorem lL{H:Type}:∀l:List (DataW H),l.length≤Rows.uptoBulkAll l
 | []=>Nat.zero_le _
 | d::r=>by
  have:=lL r
  have:=rG d
  simp only[Rows.uptoBulkAll,List.length_cons]
  omega
theorem fj{H:Type}{d:DataW H}:∀{l:List (DataW H)},d∈l→Rows.uptoBulk d≤Rows.uptoBulkAll l
 | e::r,h=>by
  simp only[Rows.uptoBulkAll]
  rcases Q22 h with rfl|h
  ·omega
  ·have:=fj h;omega
theorem mo{H:Type}{len N:Nat}{Dd:Nat→DataW H}{sp:List (DataW H)}{pl:List MemPlace}(h:Rows.uptoBulk (DataW.slice ((List.range len).map Dd) sp,pl).1≤N):len≤N∧∀i,i<len→Rows.uptoBulk (Dd i,pl).1≤N:=by
 simp only[Rows.uptoBulk]at h
 have h1:=lL ((List.range len).map Dd)
 rw[List.length_map,List.length_range]at h1
 refine⟨by omega,fun i hi=>?_⟩
 have:=fj (d:=Dd i) (l:=(List.range len).map Dd) (List.mem_map_of_mem (List.mem_range.2 hi))
 show Rows.uptoBulk (Dd i)≤N
 omega
theorem rH{H:Type}{N:Nat}{xs:List (DataW H×List MemPlace)}{pl:List MemPlace}(h:Rows.uptoBulk (DataW.agg (xs.map (·.1)),pl).1≤N){y:DataW H×List MemPlace}(hy:y∈xs):Rows.uptoBulk y.1≤N:=by
 simp only[Rows.uptoBulk]at h
 have:=fj (d:=y.1) (l:=xs.map (·.1)) (List.mem_map_of_mem hy)
 omega
section
variable{H:Type}{enc:TypeId×Value→H}{P:Program}{w:World}{spare:Nat→Bool}{N:Nat}
theorem f5{r:TypeId→Option (List Sh)}{c:TypeId→Nat}{cs:List Value}:∀(fs:List Field) (o:Nat) (a:List Sh),shF r c fs o=some a→o+a.length≤cs.length →
  (∀f∈fs,∀b,r f.type=some b→∃ds,gC b ds∧(∀d∈ds,mA N d)∧RLs w ds ((cs.drop f.offset).take (c f.type)))→∃ds,gC a ds∧(∀d∈ds,mA N d)∧RLs w ds ((cs.drop o).take a.length)
 | [],o,a,h,hl,hr=>by
  simp only[shF,Option.some.injEq]at h;subst h
  exact⟨[],.nil,fun d hd=>by simp at hd,by simpa using RLs.nil w⟩
 | f :: fs,o,a,h,hl,hr=>by
  unfold shF at h
  split at h
  ·rename_i ho
   obtain⟨b,hb,h⟩:=Option.bind_eq_some_iff.1 h
   split at h
   ·rename_i hc
    obtain⟨a',ha',rfl⟩:=Option.map_eq_some_iff.1 h
    rw[Q9]at hl
    obtain⟨ds,h1,hN1,h2⟩:=hr f (by simp) b hb
    obtain⟨ds',h3,hN2,h4⟩:=f5 fs _ a' ha' (by omega) (fun g hg=>hr g (by simp[hg]))
    refine⟨ds++ds',h1.append h3,fun d hd=>(List.mem_append.1 hd).elim (hN1 d) (hN2 d),?_⟩
    rw[ho,← hc]at h2
    have:=h2.append h4
    rw[show(cs.drop o).take (b++a').length=(cs.drop o).take b.length++(cs.drop (o+b.length)).take a'.length by
     rw[Q9,List.take_add,List.drop_drop]]
    exact this
   ·cases h
  ·cases h
theorem na:∀(m fuel:Nat) (t:TypeId) (cs:List Value) (x:DataW H×List MemPlace) (shs:List Sh),DataW.trod enc P w 0 spare true fuel t cs=some x→shT P m t=some shs→Rows.uptoBulk x.1≤N→∃ds,gC shs ds∧(∀d∈ds,mA N d)∧RLs w ds cs
 | 0,fuel,t,cs,x,shs,h,hs=>by simp[shT]at hs
 | m+1,0,t,cs,x,shs,h,hs=>by simp[DataW.trod]at h
 | m + 1,fuel+1,t,cs,x,shs,h,hs=>by
  have ih:=fun fuel t cs x shs h hs=>na m fuel t cs x shs h hs
  unfold shT at hs
  split at hs
  ·rename_i hu
   cases hs
   unfold DataW.trod at h
   rw[hu]at h
   split at h<;>simp_all
   exact fun _=>⟨_,.cons (.bool _) .nil,fun d hd=>by obtain rfl:=List.mem_singleton.1 hd;exact .val _,.one (.val _ rfl)⟩
  ·rename_i k hu
   cases hs
   unfold DataW.trod at h
   rw[hu]at h
   split at h<;>simp_all
   rename_i n _ _
   obtain⟨⟨rfl,hw⟩,_⟩:=h
   exact fun _=>⟨_,.cons (.int hw) .nil,fun d hd=>by obtain rfl:=List.mem_singleton.1 hd;exact .val _,.one (.val _ rfl)⟩
  ·rename_i hu
   cases hs
   unfold DataW.trod at h
   rw[hu]at h
   split at h<;>simp_all
   exact fun _=>⟨_,.cons (.str _ h.1) .nil,fun d hd=>by obtain rfl:=List.mem_singleton.1 hd;exact .val _,.one (.val _ rfl)⟩
  ·rename_i e hu
   obtain⟨es,he,hs⟩:=Option.bind_eq_some_iff.1 hs
   split at hs
   case isFalse=>cases hs
   rename_i hz
   cases hs
   intro hB
   rcases Go.Deep.open_slice hu h with⟨rfl,_⟩|⟨a,len,cap,mm,n,Dd,Pl,rfl,_,hl,hm,hmm,hx1,hel⟩
   ·refine⟨[.sl (P.cellsOf e) 0 fun _=>[]],.cons (.sl (by unfold maxLen;omega) fun i hi=>by omega) .nil,fun d hd=>by(obtain rfl:=List.mem_singleton.1 hd;exact .sl (Nat.zero_le _) fun i hi=>by omega),.one (.sl _ 0 _ none 0 (fun _ _=>undef) (Q4 _) (by unfold maxLen;omega) (fun i hi=>by omega) (fun h=>by omega) (fun i j hi=>by omega))⟩
   ·have hle:len≤mm:=by rw[hmm];split<;>omega
    rw[hx1]at hB
    obtain⟨hB1,hB2⟩:=mo hB
    have hx:∀i,∃p:List Value×List D,i<len→w.cells? 0 (a.add (i*P.cellsOf e)) (P.cellsOf e)=some p.1∧gC es p.2∧RLs w p.2 p.1∧∀d∈p.2,mA N d:=fun i=>by
     by_cases hi:i<len
     ·obtain⟨cs',h1,h2⟩:=hel i (by omega)
      obtain⟨ds,h3,hN,h4⟩:=ih _ _ _ _ _ h2 he (hB2 i hi)
      exact⟨(cs',ds),fun _=>⟨h1,h3,h4,hN⟩⟩
     ·exact⟨([],[]),fun h=>absurd h hi⟩
    obtain⟨F,hF⟩:=Classical.axiomOfChoice hx
    refine⟨[.sl (P.cellsOf e) len fun i=>(F i).2],.cons (.sl (by omega) fun i hi=>(hF i hi).2.1) .nil,fun d hd=>by(obtain rfl:=List.mem_singleton.1 hd;exact .sl hB1 fun i hi=>(hF i hi).2.2.2),.one (.sl _ len _ (some a) cap (fun i j=>((F i).1[j]?).getD undef) hl hm (fun i hi=>by rw[(hF i hi).2.1.len,hz]) (fun h0=>?_) (fun i j hi hj=>?_))⟩
    ·have h0':0<len∧0<P.cellsOf e:=⟨Nat.pos_of_ne_zero fun h=>by subst h;simp at h0,Nat.pos_of_ne_zero fun h=>by rw[h]at h0;simp at h0⟩
     have hcell:∀i j,i<len→j<P.cellsOf e→∃v,(F i).1[j]?=some v∧w.cell? ((a.add (i*P.cellsOf e)).add j)=some v:=fun i j hi hj=>by
      obtain⟨_,k2,k3⟩:=World.cells?_some (hF i hi).1
      have hj':j<(F i).1.length:=by omega
      refine⟨_,Q0 hj',?_⟩
      rw[k3 j hj,Q0 hj']
     obtain⟨v0,_,c0⟩:=hcell 0 0 h0'.1 h0'.2
     rw[Nat.zero_mul]at c0
     have hsp:a.spot=none:=mM (by
      have:=World.cell?_spot c0
      have e1:(a.add 0)=a:=by unfold Addr.add;simp
      rw[e1]at c0;exact c0)
     obtain⟨b,o,sp⟩:=a
     simp only at hsp
     subst hsp
     refine⟨b,o,rfl,?_,fun i j hi hj=>?_⟩
     ·rw[Addr.add_mid,Addr.add_mid]at c0
      exact World.block_lt_of_cell? w _ c0
     ·obtain⟨v,k1,k2⟩:=hcell i j hi hj
      rw[Addr.add_mid,Addr.add_mid]at k2
      rw[k2,k1];rfl
    ·have h9:=(hF i hi).2.2.1
     have hl9:=h9.len
     have hj':j<(F i).1.length:=by rw[← hl9];exact hj
     exact h9.out j _ _ (Q0 hj) (by rw[Q0 hj'];rfl)
  ·rename_i fs hu
   obtain⟨a,ha,hs⟩:=Option.bind_eq_some_iff.1 hs
   split at hs
   case isFalse=>cases hs
   rename_i hz
   cases hs
   intro hB
   obtain⟨xs,n,_,hx1,hl,_,hf⟩:=DataW.trod_struct hu h
   rw[hx1]at hB
   obtain⟨ds,h1,hN,h2⟩:=f5 (N:=N) (w:=w) (cs:=cs) fs.toList 0 shs ha (by omega) (fun f hf' b hb=>by
    obtain⟨i,hi,e⟩:=List.getElem_of_mem hf'
    have hi':i<fs.size:=by simpa using hi
    have hfi:fs[i]?=some f:=by rw[Array.getElem?_eq_getElem hi'];rw[← e];simp
    have hq:=hf i f hfi
    rename_i hxl _
    have hxi:∃y,xs[i]?=some y:=⟨xs[i]'(by omega),Q0 _⟩
    obtain⟨y,hy⟩:=hxi
    rw[hy]at hq
    exact ih _ _ _ _ _ hq hb (rH hB (Q3 hy |>.elim fun h9 e9=>e9▸Q14 h9)))
   refine⟨ds,h1,hN,?_⟩
   rw[List.drop_zero,hz,← hl,List.take_length]at h2
   exact h2
  ·cases hs
end
theorem jk{α:Type}[Inhabited α]{enc:α→List D}{p:α→Prop}{z N:Nat}{es:List Sh}{d:D}(h:oG (.sl z es) d)(hN:mA N d)(hp:∀ds,gC es ds→(∀d∈ds,mA N d)→∃x,oM ds (enc x)∧p x) :
  ∃xs:List α,TLe d (al z enc xs)∧xs.length≤N∧∀x∈xs,p x:=by
 obtain⟨n,f,rfl,hn,hf⟩:=fit_sl h
 cases hN with
 | sl h1 h2 =>
  obtain⟨xs,g1,g2,g3⟩:=list_of (enc:=enc) (p:=p) fun i hi=>hp _ (hf i hi) (h2 i hi)
  subst g1
  exact⟨xs,TLe.sl fun i hi=>g2 i hi,h1,g3⟩
theorem nP{k:IntKind}{N:Nat}{d:D}(h:oG (.sl 1 [.int k]) d)(hN:mA N d):∃xs:List Int,TLe d (al 1 (aA k) xs)∧xs.length≤N∧∀x∈xs,shI k x :=
 jk h hN fun ds hd _=>by
  obtain⟨d,r,rfl,h1,h2⟩:=de hd
  obtain⟨n,rfl,hn⟩:=iz h1
  obtain rfl:=kl h2
  exact⟨n,.cons (.rfl _) .nil,hn⟩
theorem arg1N{H:Type}{enc:TypeId×Value→H}{W:World}{t:TypeId}{v:Value}{d:DataW H}{p:List MemPlace}{s:Sh}{N:Nat}(h:DataW.Trod enc Tryz.prog W 0 (fun _=>true) true t v d p)(hs:shT Tryz.prog 8 t=some [s])(hv:v.cells.toList=[v])(hN:Rows.uptoBulk d≤N) :
  ∃x,oG s x∧mA N x∧RD W (fun b=>b<W.heap.size) x v:=by
 obtain⟨n,h⟩:=h
 obtain⟨ds,h1,hl,h2⟩:=na 8 n t _ _ _ h hs hN
 obtain⟨x,r,rfl,h3,h4⟩:=de h1
 obtain rfl:=kl h4
 rw[hv]at h2
 exact⟨x,h3,hl x (by simp),h2.out 0 x v rfl rfl⟩
@[reducible] def shPk:List Sh:=[.int .i64,.int .u8,.sl 1 [.int .u8],.int .i64]
theorem fit_pkN{N:Nat}{ds:List D}(h:gC shPk ds)(hN:∀d∈ds,mA N d):∃a:Pk,oM ds a.D∧(a.ok∧a.key.length≤N):=by
 obtain⟨d0,r0,rfl,h0,t0⟩:=de h
 obtain⟨d1,r1,rfl,h1,t1⟩:=de t0
 obtain⟨d2,r2,rfl,h2,t2⟩:=de t1
 obtain⟨d3,r3,rfl,h3,t3⟩:=de t2
 obtain rfl:=kl t3
 obtain⟨n0,rfl,w0⟩:=iz h0
 obtain⟨n1,rfl,w1⟩:=iz h1
 obtain⟨key,le,hkl,w2⟩:=nP h2 (hN _ (by simp))
 obtain⟨n3,rfl,w3⟩:=iz h3
 exact⟨⟨n0,n1,key,n3⟩,.cons (.rfl _) (.cons (.rfl _) (.cons le (.cons (.rfl _) .nil))),⟨rM w0,wf_u8 w1,fun x hx=>wf_u8 (w2 x hx),rM w3⟩,hkl⟩
theorem ox{N:Nat}{H:Type}{enc:TypeId×Value→H}{W:World}{v:Value}{d:DataW H}{p:List MemPlace}(h:DataW.Trod enc Tryz.prog W 0 (fun _=>true) true 22 v d p)(hv:v.cells.toList=[v])(hN:Rows.uptoBulk d≤N) :
  ∃script:List Pk,(∀a∈script,a.ok∧a.key.length≤N)∧∀E:Env,E.Im=(fun b=>b<W.heap.size)→RS E 0 W (.d (al 4 Pk.D script)) v:=by
 obtain⟨x,f,g0,g⟩:=arg1N h (s:=.sl 4 shPk) (by kernel_rfl) hv hN
 obtain⟨s,le,hl,hok⟩:=jk f g0 fun ds hd hn=>fit_pkN hd hn
 exact⟨s,hok,fun E hE=>.d _ _ (by rw[hE];exact le.out _ _ _ g)⟩
end
section
theorem j7{g:Nat→SV}(q5:∀j,SV.Lt 5 (g j))(M:Dir.Mc)(nl:Nat)(f:Nat→List D)(clk cnt:Int)(h0:0≤M.W 0)(h8:M.W 0≤8)(hH:∀w,Dir.Hn 100000 (M.Hd w)){B:Int}(hI:Dir.Iw M.W B)(hIh:Dir.Ih M)(hK:Dir.Kh M) :
  Fun TC 21 5 [.ptr 0 0] (aN g M nl f clk cnt) 5 (.d (al 2 aq (Dir.ents M))) (aN g M nl f clk cnt):=by
 have hE:=ky q5 M nl f clk cnt h0 h8 hH hI hIh hK
 have hlen:(Dir.ents M).length≤3200000:=by
  have h1:=(Dir.sortE_perm (Dir.allE M)).length_eq
  rw[← Dir.allE_eq]at h1
  have h2:(Dir.allL M).flatten.length≤(Dir.allL M).length*100000:=cu fun l hl=>by
   obtain⟨i,_,hi⟩:=List.mem_flatMap.1 hl
   exact c8 (fun w=>(hH w).1) hi
  have h3:=bh M (2^Dir.lvl M)
  have h4:2^Dir.lvl M≤2^4:=Q16 (by omega) (by unfold Dir.lvl;omega)
  have h5:(Dir.allL M).length≤32:=by
   show((List.range (2^Dir.lvl M)).flatMap (Dir.partL M)).length≤32
   omega
  show(Dir.sortE (Dir.allE M)).length≤_
  rw[← Dir.allE_eq]
  have h6:(Dir.allL M).length*100000≤32*100000:=Q8 _ h5
  omega
 generalize Dir.ents M=es at hE hlen⊢
 refine Fun.mk' Tryz.func21 rfl rfl zN (by decide) ?_
 (repeat' (first|((first|refine Wp.any ab rfl ?_|(with_reducible first|refine Go.mk ?_|apply am.of));conv=>whnf)|((refine aa.fn (hE) [0,1,2,3,4] rfl rfl rfl rfl rfl ?ha ?hh ?_);(case ha=>exact zA);(case hh=>exact zD);(conv=>whnf))))
 refine Wp.le (Le.virt 3 102 2 (fun i=>aq (([]:List Dir.Ent).getD i default)) (by decide) rfl) ?_
 refine Wp.loopP (ι:=Nat) (fun j=>j≤es.length) (fun j=>⟨⟨Tryz.f21.ntmps,5⟩,6,[(3,.sl 5 2 0 (es.take j).length),(7,.d (al 2 aq es)),(8,.i .i64 es.length),(9,.i .i64 j)],
  aN g M nl f clk cnt++[(5,some (aI 102 2 aq (es.take j)))]⟩) (fun j=>es.length-j) 0 (Nat.zero_le _) ?_ ?_
 ·(refine Le.by [0,1,2,3,4,5] rfl rfl rfl rfl ?_ ?_<;>(conv=>whnf)<;>(repeat' (first|exact trivial|exact ac.rfl rfl|exact ac.sl rfl|exact d4 (by assumption) (fun l hl=>by rcases l with _|_|_|_|_|l<;>first|rfl|omega)|exact⟨rfl,rfl,rfl⟩|exact⟨rfl,zzb rfl⟩|exact fun i hi=>rfl|((with_reducible refine And.intro ?_ ?_)<;>(conv=>whnf)))))
 ·rintro j h1
  have hl2:(es.take j).length≤3200000:=by rw[Q10];omega
  (repeat' (first|((first|refine Wp.any ab rfl ?_|(with_reducible first|refine Go.mk ?_|apply am.of|refine Ov.ok zO ?_|refine And.intro zC ?_));conv=>whnf)|((with_reducible refine And.intro ?hb ?_);(case hb=>exact zz1);(conv=>whnf))|((refine au (fun hc=>?_) (fun hc=>?_))<;>(try simp only[wz9]at hc)<;>(try (exfalso;omega))<;>(conv=>whnf))))
  ·refine⟨j+1,by dsimp only;omega,by dsimp only;omega,?_⟩
   dsimp only
   rw[ee (by omega:j<es.length)]
   generalize es.take j=Z at hl2⊢
   (refine Le.by [0,1,2,3,4,8] rfl rfl rfl rfl ?_ ?_<;>(conv=>whnf)<;>(repeat' (first|exact trivial|exact ac.rfl rfl|exact ac.sl rfl|exact cB (by assumption)|exact⟨rfl,rfl,rfl⟩|exact⟨rfl,zzb rfl⟩|exact fun i hi=>rfl|((with_reducible refine And.intro ?_ ?_)<;>(conv=>whnf)))))
   ·rw[Q9];exact ac.sl rfl
   ·rfl
   ·simp
   ·exact a8 _ _
  ·obtain rfl:j=es.length:=by omega
   rw[List.take_length]
   (refine af.sealB [0,1,2,3,4] rfl rfl rfl ?_ ?_);(focus((conv=>whnf);(repeat' (first|exact zE))));(focus((conv=>whnf);(repeat' (first|exact zE|((refine And.intro ?_ ?_)<;>(conv=>whnf))))))
section
variable{W:Nat→Int}{H:Nat→List Dir.Ent}{n:Int}{F:Nat→List SV}(hF:OKF F)
include hF
theorem mi{w:Nat}(hw:w<64){r:List SV}(hr:r.length=9)(hR:F w=.i .u8 0::r){key:List Int}(hk:key.length≤16777216)(hb:IsB key){v:Int}(hE:bo w 4 key v=0):Fun TC 9 1 [.ptr 0 0,.i .i64 w,.i .u8 4,.d (al 1 (aA .u8) key),.i .i64 v] [(0,some (dB W H n F))] 1 (.i .i64 0) [(0,some (dB W H n (bF F w (hdS++[.i .i64 0,.any,.any,.any,.any,.any]))))]:=by
 obtain⟨r1,r2,r3,r4,r5,r6,r7,r8,r9,rfl⟩:∃r1 r2 r3 r4 r5 r6 r7 r8 r9,r=[r1,r2,r3,r4,r5,r6,r7,r8,r9]:=by
  match r,hr with
  | [r1,r2,r3,r4,r5,r6,r7,r8,r9],_=>exact⟨r1,r2,r3,r4,r5,r6,r7,r8,r9,rfl⟩
 have hRt:=dN w 4 key v (by decide) (by decide)
 rw[hE]at hRt
 refine Fun.mk' Tryz.func9 rfl rfl zN (by decide) ?_
 (repeat' (first|((first|with_reducible refine IxA.rp ?_|refine CfV.seg rfl ?_|refine CfS.seg rfl rfl rfl ?_);conv=>whnf)|((with_reducible refine And.intro ?hb ?_);(case hb=>exact zz0);(conv=>whnf))|((first|refine aD.st hR ?_|refine Wp.any ab rfl ?_|(with_reducible first|refine Go.mk ?_|apply am.of)|refine zV ?_|(with_reducible first|refine And.intro zC ?_|refine aa.pure (hRt) rfl rfl ?_|refine ai.pure (m0 key (by omega)) rfl rfl ?_|refine ai.pure (kT key hb) rfl rfl ?_));conv=>whnf)))
 all_goals
  (try simp only[Q13,ax,av,ah])
  refine af.of [0] rfl (fun i hi=>by have:i=0:=(by omega);subst this;rfl) rfl ?_ ⟨bn.seg (m:=0) rfl (Nat.zero_le _) (az hF rfl (fun v hv=>SV.Lt.ofL rfl v hv) ?_),trivial⟩
  ·exact .rfl _
  ·((conv=>whnf);repeat' (first|exact zG9|((with_reducible refine And.intro ?_ ?_)<;>(conv=>whnf))))
end
theorem Rc.none{s:Dir.CS}{r:List SV}(h:Rc s r)(hs:s=.none):∃t,t.length=9∧r=.i .u8 0::t:=by
 obtain⟨ag,e⟩:=h
 subst hs
 exact⟨_,rfl,e⟩
theorem Rc.some{M:Dir.Mc}{s:Dir.CS}{r:List SV}(h:Rc s r)(hc:Dir.Ch M s):∃(o:Int) (t:List SV),t.length=9∧r=.i .u8 o::t∧(o != 0)=isC s:=by
 obtain⟨ag,e⟩:=h
 obtain⟨o,t,h1,h2,h3⟩:=recD_op hc ag
 exact⟨o,t,h2,e.trans h1,h3⟩
theorem lV{k:Nat}{M:Dir.Mc}{cs:Nat→Dir.CS}{nl:Nat}{F:Nat→List SV}(h:DI k M cs nl F)(f:Nat→List D){who op val:Int}{key:List Int}(o0:0≤op)(o1:op≤255)(hb:IsB key)(hl:key.length≤1048576) :
  ∃e cs' F',DI k M cs' nl F' ∧
   Fun TC 8 6 [.ptr 0 0,.i .i64 who,.i .u8 op,.sl 5 1 0 key.length,.i .i64 val] (aN (gOf cs) M nl f 0 ((k:Int)+1)++[(5,some (kB key))]) 6 (.i .i64 e) (aN (gOf cs') M nl f 0 ((k:Int)+1)++[(5,some (kB key))]) ∧
   Fun TC 9 1 [.ptr 0 0,.i .i64 who,.i .u8 op,.d (al 1 (aA .u8) key),.i .i64 val] [(0,some (dB M.W M.Hd k F))] 1 (.i .i64 e) [(0,some (dB M.W M.Hd k F'))]:=by
 have q5:=ci cs
 have hF:=OKF.of h.r
 by_cases hE:bo who op key val=0
 ·obtain⟨w0,w1,p1,p4,p2,pk⟩:=kQ hE
  obtain⟨w,rfl⟩:∃w:Nat,who=w:=⟨who.toNat,by omega⟩
  have hw:w<64:=by omega
  cases hc:isC (cs w)with
  | true =>
   obtain⟨o,t,t1,t2,t3⟩:=(h.r w).some (h.e.ch w)
   rw[hc]at t3
   exact⟨9,cs,F,h,gz q5 hw rfl hc hE,iD hF hw (by simpa using t3) t1 t2 o0 o1 hE⟩
  | false =>
   obtain⟨t,t1,t2⟩:=(h.r w).none (lq hc)
   have hS:=mj (M:=M) (nl:=nl) (f:=f) (clk:=0) (cnt:=(k:Int)+1) q5 hw hE (show gOf cs w=oJ by unfold gOf;rw[lq hc];rfl)
   rw[kf]at hS
   by_cases h4:op=4
   ·subst h4
    have hN:iP k M (Dir.upd cs w (bI 4 key val)) nl ((k:Int)+1):=by
     have h9:=h.e.start w 4 [] val (fun x hx=>absurd hx (by simp)) ⟨by decide,by decide⟩ (by simp)
     exact h9
    exact⟨0,_,_,⟨hN,h.z,Rc.upd h.r w false .s0⟩,hS,mi hF hw t1 t2 (by omega) hb hE⟩
   ·have hN:=h.e.start w op key val hb ⟨p1,p4⟩ (by omega)
    have e1:bI op key val=.k0 ⟨op,key,val⟩:=if_neg h4
    rw[e1]at hN hS
    exact⟨0,_,_,⟨hN,h.z,Rc.upd h.r w false (.k0 ⟨op,key,val⟩)⟩,hS,ku hF hw t1 t2 o0 o1 (by omega) hb hE⟩
 ·exact⟨_,cs,F,h,jx q5 hE,js hF o0 o1 hE⟩
theorem mI{k:Nat}{M:Dir.Mc}{cs:Nat→Dir.CS}{nl:Nat}{F:Nat→List SV}(h:DI k M cs nl F)(f:Nat→List D){who:Int}(hn:∀w:Nat,w<64→who=w→isC (cs w)=false) :
  ∃e,Fun TC 11 5 [.ptr 0 0,.i .i64 who] (aN (gOf cs) M nl f 0 ((k:Int)+1)) 5 (.tup [.agg [.b false,.i .i64 0,.i .i64 0],.i .i64 e]) (aN (gOf cs) M nl f 0 ((k:Int)+1)) ∧
   Fun TC 12 1 [.ptr 0 0,.i .i64 who] [(0,some (dB M.W M.Hd k F))] 1 (.tup [.agg [.b false,.i .i64 0,.i .i64 0],.i .i64 e]) [(0,some (dB M.W M.Hd k F))]:=by
 have q5:=ci cs
 have hF:=OKF.of h.r
 by_cases hw:0≤who∧who<64
 ·obtain⟨w,rfl⟩:∃w:Nat,who=w:=⟨who.toNat,by omega⟩
  have hw:w<64:=by omega
  have hc:=hn w hw rfl
  obtain⟨t,t1,t2⟩:=(h.r w).none (lq hc)
  refine⟨7,?_,jr hF hw t1 t2⟩
  have hP:=fQ (M:=M) (cs:=cs) (nl:=nl) (f:=f) (clk:=0) (cnt:=(k:Int)+1) w hw
  rw[hc]at hP
  refine Fun.mk' Tryz.func11 rfl rfl zN (by decide) ?_
  (repeat' (first|((first|refine Wp.any ab rfl ?_|(with_reducible first|refine Go.mk ?_|apply am.of|refine aa.pure (bk _) rfl rfl ?_));conv=>whnf)|((refine aa.fn (hP) [0,1,2,3,4] rfl rfl rfl rfl rfl ?ha ?hh ?_);(case ha=>exact zA);(case hh=>exact zD);(conv=>whnf))|((refine au (fun hc=>?_) (fun hc=>?_))<;>(try simp only[wz9]at hc)<;>(try (exfalso;omega))<;>(conv=>whnf))))
  all_goals((refine af.sealB [0,1,2,3,4] rfl rfl rfl ?_ ?_);(focus((conv=>whnf);(repeat' (first|exact zE))));(focus((conv=>whnf);(repeat' (first|exact zE|((refine And.intro ?_ ?_)<;>(conv=>whnf)))))))
 ·exact⟨1,kw hw q5,ks hF hw⟩
theorem mJ{k:Nat}{M:Dir.Mc}{cs:Nat→Dir.CS}{nl:Nat}{F:Nat→List SV}(h:DI k M cs nl F)(hk:k≤20000)(f:Nat→List D){w:Nat}(hw:w<64)(hc:isC (cs w)=true) :
  ∃a F' M' cs' r,DI (k+1) M' cs' (a7 nl) F' ∧
   Fun TC 11 5 [.ptr 0 0,.i .i64 w] (aN (gOf cs) M nl f 0 ((k:Int)+1)) 6 (.tup [di r,.i .i64 0]) (iE (gOf cs') M' nl f 0 ((k:Int)+1) a) ∧
   Fun TC 12 1 [.ptr 0 0,.i .i64 w] [(0,some (dB M.W M.Hd k F))] 1 (.tup [di r,.i .i64 0]) [(0,some (dB M'.W M'.Hd ((k+1:Nat):Int) F'))]:=by
 obtain⟨a,hS⟩:=lp (f:=f) (clk:=0) h.e.s (by omega) w hw hc
 have hN:=h.e.step (by omega) (sg hc)
 have hcnt:((k+1:Nat):Int)+1=(k:Int)+1+1:=by omega
 rw[← hcnt]at hN
 obtain⟨F',hR,hD⟩:=rv h.e hk h.r hw (n:=(k:Int)) (by omega) (by omega) h.z hc
 exact⟨a,F',_,_,_,⟨hN,Dir.step_hd0 (h.e.s.inv.cw w) h.z,hR⟩,hS,hD⟩
theorem i4{k:Nat}{M:Dir.Mc}{cs:Nat→Dir.CS}{nl:Nat}{F:Nat→List SV}(h:DI k M cs nl F)(f:Nat→List D)(who:Int) :
  ∃b,Fun TC 16 5 [.ptr 0 0,.i .i64 who] (aN (gOf cs) M nl f 0 ((k:Int)+1)) 5 (.b b) (aN (gOf cs) M nl f 0 ((k:Int)+1)) ∧
   Fun TC 17 1 [.ptr 0 0,.i .i64 who] [(0,some (dB M.W M.Hd k F))] 1 (.b b) [(0,some (dB M.W M.Hd k F))]:=by
 have hF:=OKF.of h.r
 by_cases hw:0≤who∧who<64
 ·obtain⟨w,rfl⟩:∃w:Nat,who=w:=⟨who.toNat,by omega⟩
  have hw:w<64:=by omega
  obtain⟨o,t,t1,t2,t3⟩:=(h.r w).some (h.e.ch w)
  refine⟨isC (cs w),fQ w hw,?_⟩
  have:=ry (W:=M.W) (H:=M.Hd) (n:=(k:Int)) hF hw t1 t2
  rwa [t3]at this
 ·exact⟨false,kx hw (ci cs),kv hF hw⟩
theorem DI.zero:DI 0 Dir.M0 (fun _=>.none) (a7 0) (fun _=>qU):=⟨iP.zero,rfl,fun _=>⟨false,rfl⟩⟩
end
noncomputable def cA:Code:=(mw 9 (Tryz.f3.body.getD .skip)).getD .skip
noncomputable def cS:Code:=(mw 17 (Tryz.f3.body.getD .skip)).getD .skip
noncomputable def dpM(script:List Pk)(N:Int)(i:Nat)(p:Pk)(k:Nat)(M:Dir.Mc)(cs:Nat→Dir.CS)(nl:Nat)(f:Nat→List D)(F:Nat→List SV):St :=
 ⟨⟨Tryz.f3.ntmps,0⟩,7,[(3,.ptr 0 0),(4,.ptr 5 0),(5,.i .i64 i),(6,.ptr 6 0),(25,.d (al 4 Pk.D script)),(26,.i .i64 N),(27,.i .i64 i)],aN (gOf cs) M nl f 0 ((k:Int)+1)++[(5,some (dB M.W M.Hd k F)),(6,some (.cells [.i .i64 p.who,.i .u8 p.op,.d (al 1 (aA .u8) p.key),.i .i64 p.val]))]⟩
theorem step_in{k:Nat}{M:Dir.Mc}{cs:Nat→Dir.CS}{nl:Nat}{F:Nat→List SV}(h:DI k M cs nl F)(hk:k≤500){f:Nat→List D}{p:Pk}{i:Nat}{script:List Pk}{N:Int}{Q:Exit→St→Prop}
  (hQ:∀k' M' cs' nl' f' F',k≤k'→k'≤k+1→DI k' M' cs' nl' F'→∀S',Le S' (dpM script N i p k' M' cs' nl' f' F')→Q .normal S'):Wp TC cS (dpM script N i p k M cs nl f F) Q:=by
 have hF0:=OKF.of h.r
 have q5:=ci cs
 by_cases hp:∃w:Nat,w<64∧p.who=w∧isC (cs w)=true
 ·obtain⟨w,hw,e,hc⟩:=hp
  obtain⟨a,F',M',cs',r,h',hS,hD⟩:=mJ h (by omega) f hw hc
  have hF:=OKF.of h'.r
  have hSame:Pure TC 13 [.agg [.b r.done,.i .i64 r.e,.i .i64 r.n],.agg [.b r.done,.i .i64 r.e,.i .i64 r.n]] (.b true):=lm r
  unfold dpM
  rw[e]
  have hQ':=hQ (k+1) M' cs' (a7 nl) (dA nl f a) F' (by omega) (by omega) h'
  clear hQ
  unfold dpM at hQ'
  rw[e,show((k+1:Nat):Int)+1=(k:Int)+1+1 by omega]at hQ'
  conv=>(arg 2;whnf)
  (repeat' (first|((first|refine Wp.any ab rfl ?_|(with_reducible first|refine Go.mk ?_|apply am.of));conv=>whnf)|((apply aa.fn5 (h:=hS));(case hh=>exact zG);(case ha=>exact zA);(case hd=>exact rfl);(case hlive=>exact rfl);(case hkeys=>exact rfl);(case hlt=>exact rfl);(conv=>whnf))|((refine aa.fn (hD) [5] rfl rfl rfl rfl rfl ?ha ?hh ?_);(case ha=>exact zA);(case hh=>exact zz5);(conv=>whnf))|((with_reducible refine aa.pure (hSame) rfl rfl ?_);conv=>whnf)))
  refine hQ' _ ?_
  (refine Le.by [0,1,2,3,7,5,6] rfl rfl rfl rfl ?_ ?_<;>(conv=>whnf)<;>(repeat' (first|exact trivial|exact ac.rfl rfl|exact ac.ptr rfl|exact ac.sl rfl|exact bT (fun l hl=>by rcases l with _|_|_|_|l<;>first|rfl|omega)|exact⟨rfl,rfl,rfl⟩|exact⟨rfl,zzb rfl⟩|exact fun i hi=>rfl|exact(ar hF).out.2|((with_reducible refine And.intro ?_ ?_)<;>(conv=>whnf)))))
 ·obtain⟨e,hS,hD⟩:=mI h f (who:=p.who) fun w hw e=>by
   cases hc:isC (cs w)with
   | true=>exact absurd ⟨w,hw,e,hc⟩ hp
   | false=>rfl
  have hF:=hF0
  have hSame:Pure TC 13 [.agg [.b false,.i .i64 0,.i .i64 0],.agg [.b false,.i .i64 0,.i .i64 0]] (.b true):=lm ⟨false,0,0⟩
  have hQ':=hQ k M cs nl f F (by omega) (by omega) h
  clear hQ
  unfold dpM at hQ'⊢
  conv=>(arg 2;whnf)
  (repeat' (first|((first|refine Wp.any ab rfl ?_|(with_reducible first|refine Go.mk ?_|apply am.of));conv=>whnf)|((apply aa.fn5 (h:=hS));(case hh=>exact zG);(case ha=>exact zA);(case hd=>exact rfl);(case hlive=>exact rfl);(case hkeys=>exact rfl);(case hlt=>exact rfl);(conv=>whnf))|((refine aa.fn (hD) [5] rfl rfl rfl rfl rfl ?ha ?hh ?_);(case ha=>exact zA);(case hh=>exact zz5);(conv=>whnf))|((with_reducible refine aa.pure (hSame) rfl rfl ?_);conv=>whnf)|((refine au (fun hc=>?_) (fun hc=>?_))<;>(try simp only[wz9]at hc)<;>(try (exfalso;omega))<;>(conv=>whnf))))
  ·exact absurd trivial hc
  ·refine hQ' _ ?_
   (refine Le.by [0,1,2,3,4,5,6] rfl rfl rfl rfl ?_ ?_<;>(conv=>whnf)<;>(repeat' (first|exact trivial|exact ac.rfl rfl|exact ac.ptr rfl|exact ac.sl rfl|exact bT (fun l hl=>by rcases l with _|_|_|_|l<;>first|rfl|omega)|exact⟨rfl,rfl,rfl⟩|exact⟨rfl,zzb rfl⟩|exact fun i hi=>rfl|exact(ar hF).out.2|((with_reducible refine And.intro ?_ ?_)<;>(conv=>whnf)))))
theorem qI{k:Nat}{M:Dir.Mc}{cs:Nat→Dir.CS}{nl:Nat}{F:Nat→List SV}(h:DI k M cs nl F){f:Nat→List D}{p:Pk}(hp:p.ok)(hl:p.key.length≤1048576){i:Nat}{script:List Pk}{N:Int}{Q:Exit→St→Prop}
  (hQ:∀cs' F',DI k M cs' nl F'→∀S',Le S' (dpM script N i p k M cs' nl f F')→Q .normal S'):Wp TC cA (dpM script N i p k M cs nl f F) Q:=by
 have hF0:=OKF.of h.r
 obtain⟨e,cs',F',h',hS,hD⟩:=lV h f (who:=p.who) (val:=p.val) hp.2.1.1 hp.2.1.2 hp.2.2.1 hl
 have hF:=OKF.of h'.r
 have hSp:=qN p.key (by omega)
 have hKp:=qP p.key (by omega)
 have e3:=fu p.key
 unfold dpM
 conv=>(arg 2;whnf)
 (repeat' (first|(with_reducible refine Wp.reg 12 ?_)|((first|refine Wp.any ab rfl ?_|(with_reducible first|refine Go.mk ?_|apply am.of)|refine zV ?_);conv=>whnf)|((refine aa.fn (hSp) [] rfl rfl rfl rfl rfl ?ha ?hh ?_);(case ha=>exact zA);(case hh=>exact zH);(conv=>whnf))|((refine ai.fn (hS) [0,1,2,3,4,7] [] rfl rfl rfl rfl rfl ?ha ?hh ?hs ?_);(case ha=>exact zA);(case hh=>exact zG);(case hs=>exact zK);(conv=>whnf))|((refine ai.fn (hD) [5] [] rfl rfl rfl rfl rfl ?ha ?hh ?hs ?_);(case ha=>exact zA);(case hh=>exact zz5);(case hs=>exact zK);(conv=>whnf))|((refine ai.fn (hKp) [7] [7] rfl rfl rfl rfl rfl ?ha ?hh ?hs ?_);(case ha=>exact zA);(case hh=>exact zH);(case hs=>exact zK);(conv=>whnf))|((refine au (fun hc=>?_) (fun hc=>?_))<;>(try simp only[wz9]at hc)<;>(try (exfalso;omega))<;>(conv=>whnf))))
 all_goals try exact absurd trivial hc
 refine⟨?_⟩
 obtain⟨m,hm9⟩:∃m,m=(gt p.key).length:=⟨_,rfl⟩
 refine Wp.le (S':=⟨⟨Tryz.f3.ntmps,0⟩,8,[(3,.ptr 0 0),(4,.ptr 5 0),(5,.i .i64 i),(6,.ptr 6 0),(25,.d (al 4 Pk.D script)),(26,.i .i64 N),(27,.i .i64 i),(8,.sl 7 1 0 m)],aN (gOf cs') M nl f 0 ((k:Int)+1)++[(5,some (dB M.W M.Hd k F')),(6,some (.cells [.i .i64 p.who,.i .u8 p.op,.d (al 1 (aA .u8) p.key),.i .i64 p.val])),(7,some (.row 5 1 m fun q=>[.val (.int .u8 ((gt p.key).getD q default))]))]⟩) ?_ ?_
 ·(refine Le.by [0,1,2,3,4,5,6,7] rfl rfl rfl rfl ?_ ?_<;>(conv=>whnf)<;>(repeat' (first|exact trivial|exact ac.rfl rfl|exact ac.ptr rfl|exact ac.sl rfl|exact bT (fun l hl=>by rcases l with _|_|_|_|l<;>first|rfl|omega)|exact⟨rfl,rfl,rfl⟩|exact⟨rfl,zzb rfl⟩|exact fun i hi=>rfl|exact(ar hF).out.2|((with_reducible refine And.intro ?_ ?_)<;>(conv=>whnf)))))
  ·rw[hm9];exact ac.sl rfl
  ·exact hm9.symm
 (repeat' (first|((first|refine Wp.any ab rfl ?_|(with_reducible first|refine Go.mk ?_|apply am.of));conv=>whnf)))
 refine Wp.loopP (ι:=Nat×(Nat→Int)) (fun k=>k.1≤m) (fun j=>⟨⟨Tryz.f3.ntmps,0⟩,8,[(3,.ptr 0 0),(4,.ptr 5 0),(5,.i .i64 i),(6,.ptr 6 0),(25,.d (al 4 Pk.D script)),(26,.i .i64 N),(27,.i .i64 i),(8,.sl 7 1 0 m),(71,.i .i64 m),(72,.i .i64 j.1)],aN (gOf cs') M nl f 0 ((k:Int)+1)++[(5,some (dB M.W M.Hd k F')),(6,some (.cells [.i .i64 p.who,.i .u8 p.op,.d (al 1 (aA .u8) p.key),.i .i64 p.val])),(7,some (.row 5 1 m fun q=>[.val (.int .u8 (j.2 q))]))]⟩) (fun k=>m-k.1) (0,fun q=>(gt p.key).getD q default) (Nat.zero_le _) ?_ ?_
 ·(refine Le.by [0,1,2,3,4,5,6,7] rfl rfl rfl rfl ?_ ?_<;>(conv=>whnf)<;>(repeat' (first|exact trivial|exact ac.rfl rfl|exact ac.ptr rfl|exact ac.sl rfl|exact bu|exact⟨rfl,rfl,rfl⟩|exact⟨rfl,zzb rfl⟩|exact fun i hi=>rfl|exact(ar hF).out.2|((with_reducible refine And.intro ?_ ?_)<;>(conv=>whnf)))))
 ·rintro⟨j,g⟩ hj
  dsimp only at hj⊢
  (repeat' (first|((first|refine Wp.any ab rfl ?_|(with_reducible first|refine Go.mk ?_|apply am.of|refine Ov.ok zO ?_|refine And.intro zC ?_));conv=>whnf)|((refine au (fun hc=>?_) (fun hc=>?_))<;>(try simp only[wz9]at hc)<;>(try (exfalso;omega))<;>(conv=>whnf))))
  ·refine⟨(j+1,fun q=>if q=0+(j:Int).toNat then bits .xor .u8 (g (0+(j:Int).toNat)) 1 else g q),by dsimp only;omega,by dsimp only;omega,?_⟩
   (refine Le.by [0,1,2,3,4,5,6,7] rfl rfl rfl rfl ?_ ?_<;>(conv=>whnf)<;>(repeat' (first|exact trivial|exact ac.rfl rfl|exact ac.ptr rfl|exact ac.sl rfl|exact bu|exact⟨rfl,rfl,rfl⟩|exact⟨rfl,zzb rfl⟩|exact fun i hi=>rfl|exact(ar hF).out.2|((with_reducible refine And.intro ?_ ?_)<;>(conv=>whnf)))))
   intro q hq
   dsimp only
   by_cases e:q=0+(j:Int).toNat
   ·rw[if_pos e,if_pos e]
   ·rw[if_neg e,if_neg e]
  ·refine hQ cs' F' h' _ ?_
   unfold dpM
   (refine Le.by [0,1,2,3,4,5,6] rfl rfl rfl rfl ?_ ?_<;>(conv=>whnf)<;>(repeat' (first|exact trivial|exact ac.rfl rfl|exact ac.ptr rfl|exact ac.sl rfl|exact bu|exact⟨rfl,rfl,rfl⟩|exact⟨rfl,zzb rfl⟩|exact fun i hi=>rfl|exact(ar hF).out.2|((with_reducible refine And.intro ?_ ?_)<;>(conv=>whnf)))))
structure Dpt where
 M:Dir.Mc
 cs:Nat→Dir.CS
 nl:Nat
 f:Nat→List D
 F:Nat→List SV
theorem gD{script:List Pk}(hs:∀a∈script,a.ok∧a.key.length≤1048576):Pure TC 3 [.d (al 4 Pk.D script)] (.b true):=by
 refine Pure.lens (.mk Tryz.func3 rfl rfl) fun hlen=>?_
 have hl0:=hlen script.length (by simp[bw,al])
 clear hlen
 refine Pure.mk' Tryz.func3 rfl rfl zN ?_
 (repeat' (first|((first|refine Wp.any ab rfl ?_|(with_reducible first|refine Go.mk ?_|apply am.of|refine aa.pure (awake_T) rfl rfl ?_));conv=>whnf)|((refine aa.fn (nu) [] rfl rfl rfl rfl rfl ?ha ?hh ?_);(case ha=>exact zA);(case hh=>exact zH);(conv=>whnf))|((refine aa.fn (doc_New) [] rfl rfl rfl rfl rfl ?ha ?hh ?_);(case ha=>exact zA);(case hh=>exact zH);(conv=>whnf))))
 refine Wp.loopP (ι:=Nat×Nat×Dpt)
  (fun q=>q.1≤script.length∧q.1≤500∧q.2.1≤q.1∧DI q.2.1 q.2.2.M q.2.2.cs q.2.2.nl q.2.2.F)
  (fun q=>dpS script script.length q.2.1 q.2.2.M q.2.2.cs q.2.2.nl q.2.2.f q.2.2.F q.1)
  (fun q=>script.length-q.1) (0,0,⟨Dir.M0,fun _=>.none,a7 0,dA 0 (fun _=>[]) (eY 0 2 1 0 1 true),fun _=>qU⟩)
  ⟨Nat.zero_le _,Nat.zero_le _,Q4 _,DI.zero⟩ ?_ ?_
 ·unfold dpS
  dsimp only
  (refine Le.by [0,1,2,3,4,5] rfl rfl rfl rfl ?_ ?_<;>(conv=>whnf)<;>(repeat' (first|exact trivial|exact ac.rfl rfl|exact ac.ptr rfl|exact ac.sl rfl|exact bT (fun l hl=>by rcases l with _|_|_|_|l<;>first|rfl|omega)|exact⟨rfl,rfl,rfl⟩|exact⟨rfl,zzb rfl⟩|exact fun i hi=>rfl|exact(mh OKF.nil).out.2|((with_reducible refine And.intro ?_ ?_)<;>(conv=>whnf)))))
 ·rintro⟨i,k,⟨M,cs,nl,f,F⟩⟩ ⟨h1,h2,h3,h4⟩
  dsimp only at h1 h2 h3 h4⊢
  have hF:=OKF.of h4.r
  by_cases hi:i<script.length∧i<500
  ·have hm:script.getD (i:Int).toNat default∈script:=by
    rw[Q13,Q1,Q0 hi.1];exact Q14 hi.1
   have hok:=hs _ hm
   unfold dpS
   (repeat' (first|(with_reducible refine Wp.reg 9 ?_)|(with_reducible refine Wp.reg 17 ?_)|((first|refine Wp.any ab rfl ?_|(with_reducible first|refine Go.mk ?_|apply am.of|refine And.intro zC ?_));conv=>whnf)|((refine au (fun hc=>?_) (fun hc=>?_))<;>(try simp only[wz9]at hc)<;>(try (exfalso;omega))<;>(conv=>whnf))))
   ·generalize script.getD (i:Int).toNat default=p at *
    refine⟨?_⟩
    refine Wp.le (S':=dpM script script.length i p k M cs nl f F) ?_ ?_
    ·unfold dpM
     (refine Le.by [0,1,2,3,4,5,6] rfl rfl rfl rfl ?_ ?_<;>(conv=>whnf)<;>(repeat' (first|exact trivial|exact ac.rfl rfl|exact ac.ptr rfl|exact ac.sl rfl|exact bu|exact⟨rfl,rfl,rfl⟩|exact⟨rfl,zzb rfl⟩|exact fun i hi=>rfl|exact(ar hF).out.2|((with_reducible refine And.intro ?_ ?_)<;>(conv=>whnf)))))
    refine qI h4 hok.1 hok.2 ?_
    intro cs' F' h' S8 hS
    obtain⟨k',M',nl',f',e1,e2,e3,e4⟩:∃k' M' nl' f',k'=k∧M'=M∧nl'=nl∧f'=f:=⟨_,_,_,_,rfl,rfl,rfl,rfl⟩
    rw[← e1,← e2,← e3]at h'
    rw[← e1,← e2,← e3,← e4]at hS
    (refine Wp.le hS ?_;obtain⟨b,hP,hPd⟩:=i4 h' f' p.who;unfold dpM;refine mE (op:=p.op) (val:=p.val) (key:=p.key) h' (by omega) (by omega) hP hPd ?_;clear hS;intro S9 hS;refine Wp.le hS ?_;unfold dpS;(repeat' (first|((first|refine Wp.any ab rfl ?_|(with_reducible first|refine Go.mk ?_|apply am.of|refine Ov.ok zO ?_));conv=>whnf)));refine⟨(i+1,k',⟨M',cs',nl',f',F'⟩),⟨by dsimp only;omega,by dsimp only;omega,by dsimp only;omega,h'⟩,by dsimp only;omega,?_⟩;dsimp only;have hF:=OKF.of h'.r;(refine Le.by [0,1,2,3,4,5] rfl rfl rfl rfl ?_ ?_<;>(conv=>whnf)<;>(repeat' (first|exact trivial|exact ac.rfl rfl|exact ac.ptr rfl|exact ac.sl rfl|exact bu|exact⟨rfl,rfl,rfl⟩|exact⟨rfl,zzb rfl⟩|exact fun i hi=>rfl|exact(ar hF).out.2|((with_reducible refine And.intro ?_ ?_)<;>(conv=>whnf))))))
   ·generalize script.getD (i:Int).toNat default=p at *
    refine⟨?_⟩
    refine Wp.le (S':=dpM script script.length i p k M cs nl f F) ?_ ?_
    ·unfold dpM
     (refine Le.by [0,1,2,3,4,5,6] rfl rfl rfl rfl ?_ ?_<;>(conv=>whnf)<;>(repeat' (first|exact trivial|exact ac.rfl rfl|exact ac.ptr rfl|exact ac.sl rfl|exact bu|exact⟨rfl,rfl,rfl⟩|exact⟨rfl,zzb rfl⟩|exact fun i hi=>rfl|exact(ar hF).out.2|((with_reducible refine And.intro ?_ ?_)<;>(conv=>whnf)))))
    refine step_in h4 (by omega) ?_
    intro k' M' cs' nl' f' F' e1 e2 h' S8 hS
    (refine Wp.le hS ?_;obtain⟨b,hP,hPd⟩:=i4 h' f' p.who;unfold dpM;refine mE (op:=p.op) (val:=p.val) (key:=p.key) h' (by omega) (by omega) hP hPd ?_;clear hS;intro S9 hS;refine Wp.le hS ?_;unfold dpS;(repeat' (first|((first|refine Wp.any ab rfl ?_|(with_reducible first|refine Go.mk ?_|apply am.of|refine Ov.ok zO ?_));conv=>whnf)));refine⟨(i+1,k',⟨M',cs',nl',f',F'⟩),⟨by dsimp only;omega,by dsimp only;omega,by dsimp only;omega,h'⟩,by dsimp only;omega,?_⟩;dsimp only;have hF:=OKF.of h'.r;(refine Le.by [0,1,2,3,4,5] rfl rfl rfl rfl ?_ ?_<;>(conv=>whnf)<;>(repeat' (first|exact trivial|exact ac.rfl rfl|exact ac.ptr rfl|exact ac.sl rfl|exact bu|exact⟨rfl,rfl,rfl⟩|exact⟨rfl,zzb rfl⟩|exact fun i hi=>rfl|exact(ar hF).out.2|((with_reducible refine And.intro ?_ ?_)<;>(conv=>whnf))))))
  ·have hd:=h4.e.s.inv.iw.d
   have hH:∀w,Dir.Hn 20000 (M.Hd w):=fun w=>(h4.e.s.hd w).mono (by omega)
   have hEn:=j7 (ci cs) M nl f 0 ((k:Int)+1) hd.1 hd.2 (fun w=>(hH w).mono (by omega)) h4.e.s.inv.iw h4.e.ih h4.e.kh
   have hDo:Fun TC 22 1 [.ptr 0 0] [(0,some (dB M.W M.Hd k F))] 1 (.d (al 2 aq (Dir.entW M 32))) [(0,some (dB M.W M.Hd k F))]:=eU (X:=fun i=>al 2 aq (M.Hd i)) (n:=(k:Int)) hF (M:=M) rfl hd.1 hd.2 (.inl rfl) (fun w=>⟨(hH w).1,(hH w).get⟩)
   rw[Dir.entW_ents h4.e.s.inv.iw h4.e.ih]at hDo
   have hSame:=kV (Dir.ents M) (Dir.ents M)
   rw[decide_eq_true rfl]at hSame
   unfold dpS
   (repeat' (first|((first|refine Wp.any ab rfl ?_|(with_reducible first|refine Go.mk ?_|apply am.of|refine And.intro zC ?_));conv=>whnf)|((apply aa.fn5 (h:=hEn));(case hh=>exact zG);(case ha=>exact zA);(case hd=>exact rfl);(case hlive=>exact rfl);(case hkeys=>exact rfl);(case hlt=>exact rfl);(conv=>whnf))|((refine aa.fn (hDo) [5] rfl rfl rfl rfl rfl ?ha ?hh ?_);(case ha=>exact zA);(case hh=>exact zz2);(conv=>whnf))|((with_reducible refine aa.pure (hSame) rfl rfl ?_);conv=>whnf)|((refine au (fun hc=>?_) (fun hc=>?_))<;>(try simp only[wz9]at hc)<;>(try (exfalso;omega))<;>(conv=>whnf))))
   all_goals exact .rfl _
end Go.Proofs.YtejiekfnaddanaaGreat
