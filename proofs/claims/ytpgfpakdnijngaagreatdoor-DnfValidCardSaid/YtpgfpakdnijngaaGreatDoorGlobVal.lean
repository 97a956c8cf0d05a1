/-
  What the listed variables hold: DnfValid.
-/
import Derived.Test.YtpgfpakdnijngaaGreatDoorTab
set_option linter.all false
namespace Go.Proofs.YtpgfpakdnijngaaGreatDoor.dnfValid
open Go.Tel
def tb1:List (List UInt8):=[[73,110,116],[66,111,111,108],[83,116,114,105,110,103],[78,105,108]]
def jD (f:Nat):Option (List PV):=bif Nat.beq f 5 then some (Pm .u64 Lib.pow10Tab) else bif Nat.beq f 1 then some (EW tb1) else none
theorem mA:Tryz.prog.cellsOf 9=1:=AW
theorem ABW:Tryz.prog.globalNamed "telpher/telmake.leafNames"=some 1:=AW
theorem AG6:(Tryz.prog.globals[1]?).map (·.type)=some 88:=AW
theorem ABX:Tryz.prog.globalNamed "telpher/typeterm.reserved"=some 2:=AW
theorem AG7:(Tryz.prog.globals[2]?).map (·.type)=some 88:=AW
theorem ABY:Tryz.prog.globalNamed "internal/strconv.uint64pow10"=some 5:=AW
theorem AG8:(Tryz.prog.globals[5]?).map (·.type)=some 181:=AW
theorem AG9:Tryz.prog.cellsOf 169=1:=AW
theorem AHA:Tryz.prog.cellsOf 181=20:=AW
theorem AY3:(Lib.tabData .u64 Lib.pow10Tab:DataW Unit)=Rows.laid_internal_strconv_uint64pow10:=AW
theorem AOq {W:World} (h:laidMetH Tryz.prog Rows.dnfValidRow.laid W):cR (env jD) W:=by
 rw[MakeChecks.laidMetH_plain _ _ _ AW] at h;intro gl row hr;have hr':vA jD gl=some row:=hr
 by_cases e1:gl=1
 .subst e1
  have vB:row=EW [[73,110,116],[66,111,111,108],[83,116,114,105,110,103],[78,105,108]]:=(Ex hr').symm;subst vB;exact Pg h (by simp[Rows.dnfValidRow,Pe,Rows.laid_telpher_telmake_leafNames]) ABW AG6 Tryz.underlying88 Tryz.underlying9 mA
 have b1:Nat.beq gl 1=false:=Jv e1
 by_cases e2:gl=2
 .subst e2
  have vB:row=EW [[65,110,121],[78,101,118,101,114],[116,117,112,108,101],[117,110,105,111,110],[101,120,105,115,116,115]]:=(Ex hr').symm;subst vB;exact Pg h (by simp[Rows.dnfValidRow,Pe,Rows.laid_telpher_typeterm_reserved]) ABX AG7 Tryz.underlying88 Tryz.underlying9 mA
 have b2:Nat.beq gl 2=false:=Jv e2
 by_cases e5:gl=5
 .subst e5
  have vB:row=Pm .u64 Lib.pow10Tab:=(Ex hr').symm;subst vB;exact vC h (by rw[AY3]; simp[Rows.dnfValidRow]) ABY AG8 Tryz.underlying181 Tryz.underlying169 AG9 AHA (λe=>by have:=Lib.pow10Tab_length; rw[e] at this; cases this)
 have b5:Nat.beq gl 5=false:=Jv e5;unfold vA jD at hr';simp[b1,b2,b5] at hr'
end Go.Proofs.YtpgfpakdnijngaaGreatDoor.dnfValid
