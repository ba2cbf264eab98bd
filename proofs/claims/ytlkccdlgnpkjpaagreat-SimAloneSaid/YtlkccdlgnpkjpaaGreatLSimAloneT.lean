/- PROVED: SimAlone, for every script: one worker alone does what a book does. No condition. -/
import Derived.Test.YtlkccdlgnpkjpaaGreatMO25
set_option linter.unusedVariables false
set_option linter.unusedSimpArgs false
namespace Go.Proofs.YtlkccdlgnpkjpaaGreat
open Go.ChangeShapes Go.WideShapes Go.ChangeAt Go.RowKit

set_option maxRecDepth 100000 in
theorem SimAlone_contract(H:Type)(enc:TypeId×Value→H)(W:World)(base:Nat)(args:Array Value)(ds gs:List (DataW H))(before:List MemPlace)
    (hval:∀(j:Nat) t v,Tryz.f3.params[j]?=some t→args[j]?=some v→Value.okWide Tryz.prog W .any base t v)
    (hW:DataW.Whole enc Tryz.prog Tryz.f3.params.toList Rows.simAloneSpec.vars false W args.toList ds gs before) :
    Calls Tryz.prog 3 args W fun e W'=>∃v,e=.returned v∧Rows.simAloneSpec.post enc Tryz.prog Tryz.f3 false true false false W args v W':=by
  have hW':=hW
  obtain⟨p,q,hA0,hV,rfl,hfz,hnd⟩:=hW
  have hA:DataW.TrodAll enc Tryz.prog W 0 (fun _=>true) true Tryz.f3.params.toList args.toList ds p:=hA0
  rw[Tryz.params3]at hA hval
  obtain⟨v0,d0,rfl,rfl,h0⟩:=trodAll_one hA
  obtain⟨room,work,picks,fin,hr,hw,hp,g0⟩:=argCfg (hval 0 26 v0 rfl rfl) h0
  refine((jG room work picks fin hr hw hp).out ⟨fun _=>0,fun _=>0,fun b=>b<W.heap.size⟩ W _ (fun b hb=>hb) rfl fun j hj=>?_).mono ?_
  · have:j=0:=by simp at hj;omega
    subst this
    exact g0 _ rfl
  · rintro e W' ⟨v,rfl,hk,hv⟩
    have:=hv.val_inv
    subst this
    exact⟨_,rfl,yj kids full (by rw[Tryz.params3];decide) rfl (tb:=4) (by kernel_rfl) Tryz.underlying4 (fun h=>by subst h;exact⟨rfl,rfl,rfl⟩) hW' hk⟩

set_option maxRecDepth 100000 in
theorem SimAlone_lifted(os:Os)(started:os.Started)(H:Type)(enc:TypeId×Value→H) :
    ReturnsInHanded {} Tryz.checked os 3 .any (Rows.simAloneSpec.pre6 enc Tryz.prog Tryz.f3 Rows.simAloneRow.domain false) (Rows.simAloneSpec.post enc Tryz.prog Tryz.f3 false true false false):=by
  refine returnsInHanded_of_change (C:=Tryz.checked) own started (by kernel_rfl) Tryz.func3
    (ChangeSpec.witness6 (enc:=enc) (C:=Tryz.checked) false ⟨#[],#[.agg #[.slice none 0 0,.int .i64 0,.slice none 0 0,.slice none 0 0,.bool false]],[]⟩ 8 (by kernel_rfl) (by kernel_rfl) (by kernel_rfl) (by kernel_rfl)) ?_
  intro W base args ds gs before hval hW _ _
  exact SimAlone_contract H enc W base args ds gs before hval hW

theorem SimAlone_proved:Rows.SimAloneSaid :=
  OpenClaim.holds_of_wide 3 Tryz.f3 rfl rfl rfl rfl rfl rfl rfl ⟨rfl,rfl,rfl,rfl,rfl⟩ rfl rfl rfl rfl rfl (by kernel_rfl) Tryz.func3 (by kernel_rfl)
    (of_decide_eq_true (by kernel_rfl)) (by unfold Func.isWrapper;first|(rw[if_pos (by decide +kernel)];kernel_rfl)|(rw[if_neg (by decide +kernel)];exact⟨rfl,rfl⟩))
    (fun os started H enc _=>SimAlone_lifted os started H enc)

#print axioms SimAlone_proved
end Go.Proofs.YtlkccdlgnpkjpaaGreat
