/-
  What the listed variables hold: DnfExpandAny.
-/
import Derived.Test.YtpgfpakdnijngaaGreatDoorTab
set_option linter.all false
namespace Go.Proofs.YtpgfpakdnijngaaGreatDoor.dnfExpandAny
open Go.Tel
def tb0:List (List UInt8):=[[66,111,120],[73,110,116],[80,97,105,114],[65],[120,95,49],[],[116,117,112,108,101],[65,110,121],[49,120],[97,45,98],[97,98,99,100,101,102,103,104,105,106,107,108,109,110,111,112,113,114,115,116,117,118,119,120,121]]
def rS (f:Nat):Option (List PV):=bif Nat.beq f 5 then some (Ol .u64 Lib.pow10Tab) else bif Nat.beq f 0 then some (Gh tb0) else none
theorem js:Tryz.prog.cellsOf 9=1:=by kernel_rfl
theorem ACl:Tryz.prog.globalNamed "telpher/telmake.anyNames"=some 0:=by kernel_rfl
theorem AI7:(Tryz.prog.globals[0]?).map (·.type)=some 88:=by kernel_rfl
theorem ACm:Tryz.prog.globalNamed "telpher/typeterm.reserved"=some 2:=by kernel_rfl
theorem AI8:(Tryz.prog.globals[2]?).map (·.type)=some 88:=by kernel_rfl
theorem ACn:Tryz.prog.globalNamed "internal/strconv.uint64pow10"=some 5:=by kernel_rfl
theorem AI9:(Tryz.prog.globals[5]?).map (·.type)=some 181:=by kernel_rfl
theorem AJA:Tryz.prog.cellsOf 169=1:=by kernel_rfl
theorem AJB:Tryz.prog.cellsOf 181=20:=by kernel_rfl
theorem AVd:(Lib.tabData .u64 Lib.pow10Tab:DataW Unit)=Rows.laid_internal_strconv_uint64pow10:=by kernel_rfl
theorem ANl {W:World} (h:laidMetH Tryz.prog Rows.dnfExpandAnyRow.laid W):jm (env rS) W:=by
 rw[MakeChecks.laidMetH_plain _ _ _ (by kernel_rfl)] at h;intro gl row hr;have hr':tC rS gl=some row:=hr
 by_cases e0:gl=0
 .subst e0
  have tD:row=Gh [[66,111,120],[73,110,116],[80,97,105,114],[65],[120,95,49],[],[116,117,112,108,101],[65,110,121],[49,120],[97,45,98],[97,98,99,100,101,102,103,104,105,106,107,108,109,110,111,112,113,114,115,116,117,118,119,120,121]]:=(FU hr').symm;subst tD;exact Og h (by simp[Rows.dnfExpandAnyRow,Oe,Rows.laid_telpher_telmake_anyNames]) ACl AI7 Tryz.underlying88 Tryz.underlying9 js
 have b0:Nat.beq gl 0=false:=JL e0
 by_cases e2:gl=2
 .subst e2
  have tD:row=Gh [[65,110,121],[78,101,118,101,114],[116,117,112,108,101],[117,110,105,111,110],[101,120,105,115,116,115]]:=(FU hr').symm;subst tD;exact Og h (by simp[Rows.dnfExpandAnyRow,Oe,Rows.laid_telpher_typeterm_reserved]) ACm AI8 Tryz.underlying88 Tryz.underlying9 js
 have b2:Nat.beq gl 2=false:=JL e2
 by_cases e5:gl=5
 .subst e5
  have tD:row=Ol .u64 Lib.pow10Tab:=(FU hr').symm;subst tD;exact tE h (by rw[AVd]; simp[Rows.dnfExpandAnyRow]) ACn AI9 Tryz.underlying181 Tryz.underlying169 AJA AJB (λe=>by have:=Lib.pow10Tab_length; rw[e] at this; cases this)
 have b5:Nat.beq gl 5=false:=JL e5;unfold tC rS at hr';simp[b0,b2,b5] at hr'
end Go.Proofs.YtpgfpakdnijngaaGreatDoor.dnfExpandAny
