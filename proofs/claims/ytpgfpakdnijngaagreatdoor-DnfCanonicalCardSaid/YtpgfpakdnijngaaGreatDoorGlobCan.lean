/-
  What the listed variables hold: DnfCanonical.
-/
import Derived.Test.YtpgfpakdnijngaaGreatDoorTab
set_option linter.all false
namespace Go.Proofs.YtpgfpakdnijngaaGreatDoor.dnfCanonical
open Go.Tel
def tb1:List (List UInt8):=[[73,110,116],[66,111,111,108],[83,116,114,105,110,103],[78,105,108]]
def sB (f:Nat):Option (List PV):=bif Nat.beq f 5 then some (Oc .u64 Lib.pow10Tab) else bif Nat.beq f 1 then some (E6 tb1) else none
theorem jm:Tryz.prog.cellsOf 9=1:=by kernel_rfl
theorem ABg:Tryz.prog.globalNamed "telpher/telmake.leafNames"=some 1:=by kernel_rfl
theorem AHx:(Tryz.prog.globals[1]?).map (·.type)=some 88:=by kernel_rfl
theorem ABh:Tryz.prog.globalNamed "telpher/typeterm.reserved"=some 2:=by kernel_rfl
theorem AHy:(Tryz.prog.globals[2]?).map (·.type)=some 88:=by kernel_rfl
theorem ABi:Tryz.prog.globalNamed "internal/strconv.uint64pow10"=some 5:=by kernel_rfl
theorem AHz:(Tryz.prog.globals[5]?).map (·.type)=some 181:=by kernel_rfl
theorem AH0:Tryz.prog.cellsOf 169=1:=by kernel_rfl
theorem AH1:Tryz.prog.cellsOf 181=20:=by kernel_rfl
theorem AUF:(Lib.tabData .u64 Lib.pow10Tab:DataW Unit)=Rows.laid_internal_strconv_uint64pow10:=by kernel_rfl
theorem AMP {W:World} (h:laidMetH Tryz.prog Rows.dnfCanonicalRow.laid W):jg (env sB) W:=by
 rw[MakeChecks.laidMetH_plain _ _ _ (by kernel_rfl)] at h;intro gl row hr;have hr':tR sB gl=some row:=hr
 by_cases e1:gl=1
 .subst e1
  have tS:row=E6 [[73,110,116],[66,111,111,108],[83,116,114,105,110,103],[78,105,108]]:=(FI hr').symm;subst tS;exact OY h (by simp[Rows.dnfCanonicalRow,OX,Rows.laid_telpher_telmake_leafNames]) ABg AHx Tryz.underlying88 Tryz.underlying9 jm
 have b1:Nat.beq gl 1=false:=JL e1
 by_cases e2:gl=2
 .subst e2
  have tS:row=E6 [[65,110,121],[78,101,118,101,114],[116,117,112,108,101],[117,110,105,111,110],[101,120,105,115,116,115]]:=(FI hr').symm;subst tS;exact OY h (by simp[Rows.dnfCanonicalRow,OX,Rows.laid_telpher_typeterm_reserved]) ABh AHy Tryz.underlying88 Tryz.underlying9 jm
 have b2:Nat.beq gl 2=false:=JL e2
 by_cases e5:gl=5
 .subst e5
  have tS:row=Oc .u64 Lib.pow10Tab:=(FI hr').symm;subst tS;exact tT h (by rw[AUF]; simp[Rows.dnfCanonicalRow]) ABi AHz Tryz.underlying181 Tryz.underlying169 AH0 AH1 (λe=>by have:=Lib.pow10Tab_length; rw[e] at this; cases this)
 have b5:Nat.beq gl 5=false:=JL e5;unfold tR sB at hr';simp[b1,b2,b5] at hr'
end Go.Proofs.YtpgfpakdnijngaaGreatDoor.dnfCanonical
