/- PROVED: DirPlays, for every script: every Start and Step of the program's directory answers as the document's does, keys that are handed in come back untouched and are not kept, what Entries answers is new memory. The statement is the second form, of arguments that hold together at most 1048576 values and letters. -/
import Derived.Test.YtejiekfnaddanaaGreatML13
import Derived.JoinedCond
set_option linter.unusedVariables false
set_option linter.unusedSimpArgs false
namespace Go.Proofs.YtejiekfnaddanaaGreat
open Go.ChangeShapes Go.WideShapes Go.ChangeAt Go.RowKit

set_option maxRecDepth 100000 in
theorem DirPlays_contract(H:Type)(enc:TypeId×Value→H)(W:World)(base:Nat)(args:Array Value)(ds gs:List (DataW H))(before:List MemPlace)
    (hval:∀(j:Nat) t v,Tryz.f3.params[j]?=some t→args[j]?=some v→Value.okWide Tryz.prog W .any base t v)
    (hW:DataW.Whole enc Tryz.prog Tryz.f3.params.toList Rows.dirPlaysSpec.vars false W args.toList ds gs before) (hB:Rows.uptoSmall H (ds++gs)=true) :
    Calls Tryz.prog 3 args W fun e W'=>∃v,e=.returned v∧Rows.dirPlaysSpec.post enc Tryz.prog Tryz.f3 false true false false W args v W':=by
  have hW':=hW
  obtain⟨p,q,hA0,hV,rfl,hfz,hnd⟩:=hW
  have hA:DataW.TrodAll enc Tryz.prog W 0 (fun _=>true) true Tryz.f3.params.toList args.toList ds p:=hA0
  rw[Tryz.params3]at hA hval
  obtain⟨v0,d0,rfl,rfl,h0⟩:=trodAll_one hA
  have hB:Rows.uptoBulkAll ([d0]++gs)≤1048576:=of_decide_eq_true hB
  have hm:Rows.uptoBulk d0≤1048576:=Nat.le_trans (fj (by simp)) hB
  obtain⟨a1,l1,c1,rfl⟩:=okWide_slice Tryz.underlying22 (hval 0 22 v0 rfl rfl)
  obtain⟨script,k0,g0⟩:=ox h0 rfl hm
  refine((gD (script:=script) k0).out ⟨fun _=>0,fun _=>0,fun b=>b<W.heap.size⟩ W _ (fun b hb=>hb) rfl fun j hj=>?_).mono ?_
  · obtain rfl:j=0:=by simpa using hj
    exact g0 _ rfl
  · rintro e W' ⟨v,rfl,hk,hv⟩
    have:=hv.val_inv
    subst this
    exact⟨_,rfl,qZ kids full (by rw[Tryz.params3];decide) rfl (tb:=4) (by kernel_rfl) Tryz.underlying4 (fun h=>by subst h;exact⟨rfl,rfl,rfl⟩) hW' hk⟩

set_option maxRecDepth 100000 in
theorem DirPlays_lifted(os:Os)(started:os.Started)(H:Type)(enc:TypeId×Value→H)(F:Stop.Interp) :
    ReturnsInHanded {} Tryz.checked os 3 .any ((Rows.OpenSpec.upto Rows.dirPlaysSpec).pre6 enc Tryz.prog Tryz.f3 Rows.dirPlaysUptoRow.domain false) (((Rows.OpenSpec.upto Rows.dirPlaysSpec).at F).post enc Tryz.prog Tryz.f3 false true false false):=by
  refine returnsInHanded_of_cond (C:=Tryz.checked) (s:=Rows.OpenSpec.upto Rows.dirPlaysSpec) (k:=Rows.uptoSmall) rfl own started (by kernel_rfl) Tryz.func3
    (OpenSpec.witness (enc:=enc) (C:=Tryz.checked) (s:=Rows.OpenSpec.upto Rows.dirPlaysSpec) (k:=Rows.uptoSmall) rfl false ⟨#[],#[.slice none 0 0],[]⟩ 8 (by kernel_rfl) (by kernel_rfl) (by kernel_rfl)
      (x:=([.nil],[],[])) (by kernel_rfl) rfl (by kernel_rfl)) ?_
  intro W base args ds gs before hval hW _ hB _
  exact DirPlays_contract H enc W base args ds gs before hval hW hB

theorem DirPlays_proved:Rows.DirPlaysUptoSaid :=
  OpenClaim.holds_of_cond 3 Tryz.f3 rfl rfl rfl rfl rfl rfl rfl ⟨rfl,rfl,rfl,rfl,rfl⟩ rfl rfl rfl rfl rfl (by kernel_rfl) Tryz.func3 (by kernel_rfl)
    (of_decide_eq_true (by kernel_rfl)) (by unfold Func.isWrapper;first|(rw[if_pos (by decide +kernel)];kernel_rfl)|(rw[if_neg (by decide +kernel)];exact⟨rfl,rfl⟩))
    (fun os started H enc _ F=>DirPlays_lifted os started H enc F)

#print axioms DirPlays_proved
end Go.Proofs.YtejiekfnaddanaaGreat
