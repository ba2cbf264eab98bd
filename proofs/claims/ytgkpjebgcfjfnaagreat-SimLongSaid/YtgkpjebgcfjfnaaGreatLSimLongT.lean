/- PROVED: SimLong, for all numbers of workers, calls and picks: what is too long is refused, what is not too long is run. No condition. -/
import Derived.Test.YtgkpjebgcfjfnaaGreatMM23
set_option linter.unusedVariables false
set_option linter.unusedSimpArgs false
namespace Go.Proofs.YtgkpjebgcfjfnaaGreat
open Go.ChangeShapes Go.WideShapes Go.ChangeAt Go.RowKit

set_option maxRecDepth 100000 in
theorem SimLong_contract(H:Type)(enc:TypeId×Value→H)(W:World)(base:Nat)(args:Array Value)(ds gs:List (DataW H))(before:List MemPlace)
    (hval:∀(j:Nat) t v,Tryz.f3.params[j]?=some t→args[j]?=some v→Value.okWide Tryz.prog W .any base t v)
    (hW:DataW.Whole enc Tryz.prog Tryz.f3.params.toList Rows.simLongSpec.vars false W args.toList ds gs before) :
    Calls Tryz.prog 3 args W fun e W'=>∃v,e=.returned v∧Rows.simLongSpec.post enc Tryz.prog Tryz.f3 false true false false W args v W':=by
  have hW':=hW
  obtain⟨p,q,hA0,hV,rfl,hfz,hnd⟩:=hW
  have hA:DataW.TrodAll enc Tryz.prog W 0 (fun _=>true) true Tryz.f3.params.toList args.toList ds p:=hA0
  rw[Tryz.params3]at hA hval
  obtain⟨v0,v1,v2,d0,d1,d2,p0,p1,p2,rfl,rfl,rfl,h0,h1,h2⟩:=trodAll_three hA
  obtain⟨n0,rfl,_,_,w0⟩:=open_int Tryz.underlying5 (hval 0 5 v0 rfl rfl) h0
  have w0:=wf_u8 w0
  obtain⟨n1,rfl,_,_,w1⟩:=open_int Tryz.underlying5 (hval 1 5 v1 rfl rfl) h1
  have w1:=wf_u8 w1
  obtain⟨n2,rfl,_,_,w2⟩:=open_int Tryz.underlying5 (hval 2 5 v2 rfl rfl) h2
  have w2:=wf_u8 w2
  refine((ml n0 n1 n2 w0 w1 w2).out ⟨fun _=>0,fun _=>0,fun b=>b<W.heap.size⟩ W _ (fun b hb=>hb) rfl fun j hj=>?_).mono ?_
  · have:j=0∨j=1∨j=2:=by simp at hj;omega
    rcases this with rfl|rfl|rfl
    ·exact .d _ _ (.val _ rfl)
    ·exact .d _ _ (.val _ rfl)
    ·exact .d _ _ (.val _ rfl)
  · rintro e W' ⟨v,rfl,hk,hv⟩
    have:=hv.val_inv
    subst this
    exact⟨_,rfl,wu kids full (by rw[Tryz.params3];decide) rfl (tb:=4) (by kernel_rfl) Tryz.underlying4 (fun h=>by subst h;exact⟨rfl,rfl,rfl⟩) hW' hk⟩

set_option maxRecDepth 100000 in
theorem SimLong_lifted(os:Os)(started:os.Started)(H:Type)(enc:TypeId×Value→H) :
    ReturnsInHanded {} Tryz.checked os 3 .any (Rows.simLongSpec.pre6 enc Tryz.prog Tryz.f3 Rows.simLongRow.domain false) (Rows.simLongSpec.post enc Tryz.prog Tryz.f3 false true false false):=by
  refine returnsInHanded_of_change (C:=Tryz.checked) own started (by kernel_rfl) Tryz.func3
    (ChangeSpec.witness6 (enc:=enc) (C:=Tryz.checked) false ⟨#[],#[.int .u8 0,.int .u8 0,.int .u8 0],[]⟩ 8 (by kernel_rfl) (by kernel_rfl) (by kernel_rfl) (by kernel_rfl)) ?_
  intro W base args ds gs before hval hW _ _
  exact SimLong_contract H enc W base args ds gs before hval hW

theorem SimLong_proved:Rows.SimLongSaid :=
  OpenClaim.holds_of_wide 3 Tryz.f3 rfl rfl rfl rfl rfl rfl rfl ⟨rfl,rfl,rfl,rfl,rfl⟩ rfl rfl rfl rfl rfl (by kernel_rfl) Tryz.func3 (by kernel_rfl)
    (of_decide_eq_true (by kernel_rfl)) (by unfold Func.isWrapper;first|(rw[if_pos (by decide +kernel)];kernel_rfl)|(rw[if_neg (by decide +kernel)];exact⟨rfl,rfl⟩))
    (fun os started H enc _=>SimLong_lifted os started H enc)

#print axioms SimLong_proved
end Go.Proofs.YtgkpjebgcfjfnaaGreat
