/-
  DnfSplit: the card. For every start in which the listed variables hold what the program's text lays, and for every input, the call returns true.
-/
import Derived.Test.YtpgfpakdnijngaaGreatDoorSplA
set_option linter.all false
namespace Go.Proofs.YtpgfpakdnijngaaGreatDoor.dnfSplit
open Go.ChangeShapes Go.WideShapes Go.ChangeAt Go.RowKit Go.Tel
set_option maxRecDepth 100000 in
theorem said:Rows.DnfSplitSaid:=
 OpenClaim.holds_of_cond 6 Tryz.f6 rfl rfl rfl rfl rfl rfl rfl ⟨rfl,rfl,rfl,rfl,rfl⟩ rfl rfl rfl rfl rfl AW Tryz.func6 AW
  (of_decide_eq_true AW) (by unfold Func.isWrapper; first|(rw[if_pos (by decide +kernel)]; kernel_rfl)|(rw[if_neg (by decide +kernel)]; exact⟨rfl,rfl⟩))
  (λos started H enc _ F=>by rw[OpenClaim.pre_eq_preRow]; exact lifted os started H enc F)
theorem plain (f:FuncId) (fn:Func) (hf:Tryz.pinned.checked.prog.funcNamed "telpher/tellaw4.DnfSplit"=some f) (hfn:Tryz.pinned.checked.prog.funcs[f]?=some fn) :
  true=Tryz.pinned.checked.prog.looks []/\∀(j:Nat) t,fn.params[j]?=some t->Tryz.pinned.checked.prog.wantsStandIn t=false:=by
 obtain rfl:f=6:=Fk ((show Tryz.prog.funcNamed "telpher/tellaw4.DnfSplit"=some 6 by kernel_rfl).symm.trans hf) |>.symm;obtain rfl:fn=Tryz.f6:=(Fk (Tryz.func6.symm.trans hfn)).symm;refine⟨AW,λj t ht=>?_⟩;rw[Tryz.params6] at ht;have hm:=Array.mem_of_getElem? ht;simp at hm;rcases hm with rfl|rfl
 .exact(show Tryz.prog.wantsStandIn 22=false by kernel_rfl)
 .exact(show Tryz.prog.wantsStandIn 3=false by kernel_rfl)
theorem card:Rows.DnfSplitCardSaid:=
 Claim7.holds_tied_plain_at .later [] _ _ _ _ said (λ_ h=>by cases h) AW (λ_ h=>by cases h) dnfSplit_row_tie rfl ⟨rfl,rfl⟩ AW rfl plain AW
end Go.Proofs.YtpgfpakdnijngaaGreatDoor.dnfSplit
