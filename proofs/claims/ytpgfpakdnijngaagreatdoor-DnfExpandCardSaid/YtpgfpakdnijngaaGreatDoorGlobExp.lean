/-
  What the listed variables hold: DnfExpand.
-/
import Derived.Test.YtpgfpakdnijngaaGreatDoorTab
set_option linter.all false
namespace Go.Proofs.YtpgfpakdnijngaaGreatDoor.dnfExpand
open Go.Tel
def tb1:List (List UInt8):=[[73,110,116],[66,111,111,108],[83,116,114,105,110,103],[78,105,108]]
def sN (f:Nat):Option (List PV):=bif Nat.beq f 5 then some (OU .u64 Lib.pow10Tab) else bif Nat.beq f 1 then some (FD tb1) else none
theorem jf:Tryz.prog.cellsOf 9=1:=by kernel_rfl
theorem ACR:Tryz.prog.globalNamed "telpher/telmake.leafNames"=some 1:=by kernel_rfl
theorem AJB:(Tryz.prog.globals[1]?).map (·.type)=some 88:=by kernel_rfl
theorem ACS:Tryz.prog.globalNamed "telpher/typeterm.reserved"=some 2:=by kernel_rfl
theorem AJC:(Tryz.prog.globals[2]?).map (·.type)=some 88:=by kernel_rfl
theorem ACT:Tryz.prog.globalNamed "internal/strconv.uint64pow10"=some 5:=by kernel_rfl
theorem AJD:(Tryz.prog.globals[5]?).map (·.type)=some 181:=by kernel_rfl
theorem AJE:Tryz.prog.cellsOf 169=1:=by kernel_rfl
theorem AJF:Tryz.prog.cellsOf 181=20:=by kernel_rfl
theorem AV4:(Lib.tabData .u64 Lib.pow10Tab:DataW Unit)=Rows.laid_internal_strconv_uint64pow10:=by kernel_rfl
theorem AOf {W:World} (h:laidMetH Tryz.prog Rows.dnfExpandRow.laid W):ja (env sN) W:=by
 rw[MakeChecks.laidMetH_plain _ _ _ (by kernel_rfl)] at h;intro gl row hr;have hr':sP sN gl=some row:=hr
 by_cases e1:gl=1
 .subst e1
  have sQ:row=FD [[73,110,116],[66,111,111,108],[83,116,114,105,110,103],[78,105,108]]:=(FQ hr').symm;subst sQ;exact OQ h (by simp[Rows.dnfExpandRow,OP,Rows.laid_telpher_telmake_leafNames]) ACR AJB Tryz.underlying88 Tryz.underlying9 jf
 have b1:Nat.beq gl 1=false:=JM e1
 by_cases e2:gl=2
 .subst e2
  have sQ:row=FD [[65,110,121],[78,101,118,101,114],[116,117,112,108,101],[117,110,105,111,110],[101,120,105,115,116,115]]:=(FQ hr').symm;subst sQ;exact OQ h (by simp[Rows.dnfExpandRow,OP,Rows.laid_telpher_typeterm_reserved]) ACS AJC Tryz.underlying88 Tryz.underlying9 jf
 have b2:Nat.beq gl 2=false:=JM e2
 by_cases e5:gl=5
 .subst e5
  have sQ:row=OU .u64 Lib.pow10Tab:=(FQ hr').symm;subst sQ;exact sR h (by rw[AV4]; simp[Rows.dnfExpandRow]) ACT AJD Tryz.underlying181 Tryz.underlying169 AJE AJF (λe=>by have:=Lib.pow10Tab_length; rw[e] at this; cases this)
 have b5:Nat.beq gl 5=false:=JM e5;unfold sP sN at hr';simp[b1,b2,b5] at hr'
end Go.Proofs.YtpgfpakdnijngaaGreatDoor.dnfExpand
