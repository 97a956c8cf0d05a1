/- DnfBranches: whatever the input, the call returns true, if the listed variables hold what the text lays. -/
import Derived.Test.YtpgfpakdnijngaaGreatDoorBchA
set_option linter.all false
namespace Go.Proofs.YtpgfpakdnijngaaGreatDoor.dnfBranches
open Go.ChangeShapes Go.WideShapes Go.ChangeAt Go.RowKit Go.Tel
set_option maxRecDepth 100000 in
theorem said:Rows.DnfBranchesSaid:=
 OpenClaim.holds_of_cond 9 Tryz.f9 rfl rfl rfl rfl rfl rfl rfl ⟨rfl,rfl,rfl,rfl,rfl⟩ rfl rfl rfl rfl rfl Ac Tryz.func9 Ac
  (of_decide_eq_true Ac) (by unfold Func.isWrapper; first|(rw[if_pos (by decide +kernel)]; kernel_rfl)|(rw[if_neg (by decide +kernel)]; exact⟨rfl,rfl⟩))
  (λf b H e _ i=>by rw[OpenClaim.pre_eq_preRow]; exact lifted f b H e i)
theorem plain (f:FuncId) (fn:Func) (hf:Tryz.pinned.checked.prog.funcNamed "telpher/tellaw4.DnfBranches"=some f) (d:Tryz.pinned.checked.prog.funcs[f]?=some fn) :
  true=Tryz.pinned.checked.prog.looks []/\∀(j:Nat) t,fn.params[j]?=some t->Tryz.pinned.checked.prog.wantsStandIn t=false:=by
 obtain rfl:f=9:=Ft ((show Tryz.prog.funcNamed "telpher/tellaw4.DnfBranches"=some 9 by kernel_rfl).symm.trans hf) |>.symm;obtain rfl:fn=Tryz.f9:=(Ft (Tryz.func9.symm.trans d)).symm;refine⟨Ac,λj t b=>?_⟩;rw[Tryz.params9] at b;have hm:=Array.mem_of_getElem? b;simp at hm;rcases hm with rfl|rfl
 .exact(show Tryz.prog.wantsStandIn 22=false by kernel_rfl)
 .exact(show Tryz.prog.wantsStandIn 3=false by kernel_rfl)
theorem card:Rows.DnfBranchesCardSaid:=
 Claim7.holds_tied_plain_at .later [] _ _ _ _ said (λ_ h=>by cases h) Ac (λ_ h=>by cases h) dnfBranches_row_tie rfl ⟨rfl,rfl⟩ Ac rfl plain Ac
end Go.Proofs.YtpgfpakdnijngaaGreatDoor.dnfBranches
