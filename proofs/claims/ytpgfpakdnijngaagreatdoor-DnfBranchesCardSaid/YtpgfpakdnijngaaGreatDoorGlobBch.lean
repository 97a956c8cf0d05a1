/- The listed variables. -/
import Derived.Test.YtpgfpakdnijngaaGreatDoorTab
set_option linter.all false
namespace Go.Proofs.YtpgfpakdnijngaaGreatDoor.dnfBranches
open Go.Tel
def tb1:List (List UInt8):=[[73,110,116],[66,111,111,108],[83,116,114,105,110,103],[78,105,108]]
def qy (f:Nat):Option (List PV):=bif Nat.beq f 5 then some (Pv .u64 Lib.pow10Tab) else bif Nat.beq f 1 then some (FE tb1) else none
theorem lI:Tryz.prog.cellsOf 9=1:=Ac
theorem zM:Tryz.prog.globalNamed "telpher/telmake.leafNames"=some 1:=Ac
theorem AE8:(Tryz.prog.globals[1]?).map (·.type)=some 88:=Ac
theorem zN:Tryz.prog.globalNamed "telpher/typeterm.reserved"=some 2:=Ac
theorem AE9:(Tryz.prog.globals[2]?).map (·.type)=some 88:=Ac
theorem zO:Tryz.prog.globalNamed "internal/strconv.uint64pow10"=some 5:=Ac
theorem AFA:(Tryz.prog.globals[5]?).map (·.type)=some 181:=Ac
theorem AFB:Tryz.prog.cellsOf 169=1:=Ac
theorem AFC:Tryz.prog.cellsOf 181=20:=Ac
theorem AV1:(Lib.tabData .u64 Lib.pow10Tab:DataW Unit)=Rows.laid_internal_strconv_uint64pow10:=Ac
theorem ALb {W:World} (h:laidMetH Tryz.prog Rows.dnfBranchesRow.laid W):lD (env qy) W:=by
 rw[MakeChecks.laidMetH_plain _ _ _ Ac] at h;intro gl row hr;have hr':sC qy gl=some row:=hr
 by_cases e1:gl=1
 .subst e1
  have sD:row=FE [[73,110,116],[66,111,111,108],[83,116,114,105,110,103],[78,105,108]]:=(Ft hr').symm;subst sD;exact Po h (by simp[Rows.dnfBranchesRow,Pn,Rows.laid_telpher_telmake_leafNames]) zM AE8 Tryz.underlying88 Tryz.underlying9 lI
 have b1:Nat.beq gl 1=false:=J8 e1
 by_cases e2:gl=2
 .subst e2
  have sD:row=FE [[65,110,121],[78,101,118,101,114],[116,117,112,108,101],[117,110,105,111,110],[101,120,105,115,116,115]]:=(Ft hr').symm;subst sD;exact Po h (by simp[Rows.dnfBranchesRow,Pn,Rows.laid_telpher_typeterm_reserved]) zN AE9 Tryz.underlying88 Tryz.underlying9 lI
 have b2:Nat.beq gl 2=false:=J8 e2
 by_cases e5:gl=5
 .subst e5
  have sD:row=Pv .u64 Lib.pow10Tab:=(Ft hr').symm;subst sD;exact sF h (by rw[AV1]; simp[Rows.dnfBranchesRow]) zO AFA Tryz.underlying181 Tryz.underlying169 AFB AFC (λe=>by have:=Lib.pow10Tab_length; rw[e] at this; cases this)
 have b5:Nat.beq gl 5=false:=J8 e5;unfold sC qy at hr';simp[b1,b2,b5] at hr'
end Go.Proofs.YtpgfpakdnijngaaGreatDoor.dnfBranches
