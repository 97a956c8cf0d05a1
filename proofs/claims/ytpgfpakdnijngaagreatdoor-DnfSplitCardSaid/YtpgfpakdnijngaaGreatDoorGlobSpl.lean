/-
  What the listed variables hold: DnfSplit.
-/
import Derived.Test.YtpgfpakdnijngaaGreatDoorTab
set_option linter.all false
namespace Go.Proofs.YtpgfpakdnijngaaGreatDoor.dnfSplit
open Go.Tel
def tb1:List (List UInt8):=[[73,110,116],[66,111,111,108],[83,116,114,105,110,103],[78,105,108]]
def uB (f:Nat):Option (List PV):=bif Nat.beq f 5 then some (PU .u64 Lib.pow10Tab) else bif Nat.beq f 1 then some (Ez tb1) else none
theorem kY:Tryz.prog.cellsOf 9=1:=AW
theorem AAf:Tryz.prog.globalNamed "telpher/telmake.leafNames"=some 1:=AW
theorem AF3:(Tryz.prog.globals[1]?).map (·.type)=some 88:=AW
theorem AAg:Tryz.prog.globalNamed "telpher/typeterm.reserved"=some 2:=AW
theorem AF4:(Tryz.prog.globals[2]?).map (·.type)=some 88:=AW
theorem AAh:Tryz.prog.globalNamed "internal/strconv.uint64pow10"=some 5:=AW
theorem AF5:(Tryz.prog.globals[5]?).map (·.type)=some 181:=AW
theorem AF6:Tryz.prog.cellsOf 169=1:=AW
theorem AF7:Tryz.prog.cellsOf 181=20:=AW
theorem AXZ:(Lib.tabData .u64 Lib.pow10Tab:DataW Unit)=Rows.laid_internal_strconv_uint64pow10:=AW
theorem ANp {W:World} (h:laidMetH Tryz.prog Rows.dnfSplitRow.laid W):kU (env uB) W:=by
 rw[MakeChecks.laidMetH_plain _ _ _ AW] at h;intro gl row hr;have hr':uC uB gl=some row:=hr
 by_cases e1:gl=1
 .subst e1
  have uD:row=Ez [[73,110,116],[66,111,111,108],[83,116,114,105,110,103],[78,105,108]]:=(Fk hr').symm;subst uD;exact PR h (by simp[Rows.dnfSplitRow,PO,Rows.laid_telpher_telmake_leafNames]) AAf AF3 Tryz.underlying88 Tryz.underlying9 kY
 have b1:Nat.beq gl 1=false:=Jq e1
 by_cases e2:gl=2
 .subst e2
  have uD:row=Ez [[65,110,121],[78,101,118,101,114],[116,117,112,108,101],[117,110,105,111,110],[101,120,105,115,116,115]]:=(Fk hr').symm;subst uD;exact PR h (by simp[Rows.dnfSplitRow,PO,Rows.laid_telpher_typeterm_reserved]) AAg AF4 Tryz.underlying88 Tryz.underlying9 kY
 have b2:Nat.beq gl 2=false:=Jq e2
 by_cases e5:gl=5
 .subst e5
  have uD:row=PU .u64 Lib.pow10Tab:=(Fk hr').symm;subst uD;exact uE h (by rw[AXZ]; simp[Rows.dnfSplitRow]) AAh AF5 Tryz.underlying181 Tryz.underlying169 AF6 AF7 (λe=>by have:=Lib.pow10Tab_length; rw[e] at this; cases this)
 have b5:Nat.beq gl 5=false:=Jq e5;unfold uC uB at hr';simp[b1,b2,b5] at hr'
end Go.Proofs.YtpgfpakdnijngaaGreatDoor.dnfSplit
