/-
  What the listed variables hold: DnfDistributes.
-/
import Derived.Test.YtpgfpakdnijngaaGreatDoorTab
set_option linter.unusedSimpArgs false
set_option linter.unusedVariables false
namespace Go.Proofs.YtpgfpakdnijngaaGreatDoor.dnfDistributes
open Go.Tel
def tb1:List (List UInt8):=[[73,110,116],[66,111,111,108],[83,116,114,105,110,103],[78,105,108]]
def nv (f:Nat):Option (List PV):=bif Nat.beq f 5 then some (Oy .u64 Lib.pow10Tab) else bif Nat.beq f 1 then some (FV tb1) else none
theorem iX:Tryz.prog.cellsOf 9=1:=by kernel_rfl
theorem yR:Tryz.prog.globalNamed "telpher/telmake.leafNames"=some 1:=by kernel_rfl
theorem ADr:(Tryz.prog.globals[1]?).map (·.type)=some 88:=by kernel_rfl
theorem yS:Tryz.prog.globalNamed "telpher/typeterm.reserved"=some 2:=by kernel_rfl
theorem ADs:(Tryz.prog.globals[2]?).map (·.type)=some 88:=by kernel_rfl
theorem yT:Tryz.prog.globalNamed "internal/strconv.uint64pow10"=some 5:=by kernel_rfl
theorem ADt:(Tryz.prog.globals[5]?).map (·.type)=some 181:=by kernel_rfl
theorem ADu:Tryz.prog.cellsOf 169=1:=by kernel_rfl
theorem ADv:Tryz.prog.cellsOf 181=20:=by kernel_rfl
theorem AN0:(Lib.tabData .u64 Lib.pow10Tab:DataW Unit)=Rows.laid_internal_strconv_uint64pow10:=by kernel_rfl
theorem AHL {W:World} (h:laidMetH Tryz.prog Rows.dnfDistributesRow.laid W):iT (env nv) W:=by
 rw[MakeChecks.laidMetH_plain _ _ _ (by kernel_rfl)] at h;intro gl row hr;have hr':pO nv gl=some row:=hr
 by_cases e1:gl=1
 ·subst e1
  have pP:row=FV [[73,110,116],[66,111,111,108],[83,116,114,105,110,103],[78,105,108]]:=(EL hr').symm;subst pP;exact Ot h (by simp[Rows.dnfDistributesRow,Oq,Rows.laid_telpher_telmake_leafNames]) yR ADr Tryz.underlying88 Tryz.underlying9 iX
 have b1:Nat.beq gl 1=false:=JY e1
 by_cases e2:gl=2
 ·subst e2
  have pP:row=FV [[65,110,121],[78,101,118,101,114],[116,117,112,108,101],[117,110,105,111,110],[101,120,105,115,116,115]]:=(EL hr').symm;subst pP;exact Ot h (by simp[Rows.dnfDistributesRow,Oq,Rows.laid_telpher_typeterm_reserved]) yS ADs Tryz.underlying88 Tryz.underlying9 iX
 have b2:Nat.beq gl 2=false:=JY e2
 by_cases e5:gl=5
 ·subst e5
  have pP:row=Oy .u64 Lib.pow10Tab:=(EL hr').symm;subst pP;exact pQ h (by rw[AN0]; simp[Rows.dnfDistributesRow]) yT ADt Tryz.underlying181 Tryz.underlying169 ADu ADv (fun e=>by have:=Lib.pow10Tab_length; rw[e] at this; cases this)
 have b5:Nat.beq gl 5=false:=JY e5;unfold pO nv at hr';simp[b1,b2,b5] at hr'
end Go.Proofs.YtpgfpakdnijngaaGreatDoor.dnfDistributes
