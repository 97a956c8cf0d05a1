/-
  What the evaluator asks of the program: each fact by the kernel.
-/
import Derived.Test.YtpgfpakdnijngaaGreatDoorClone
import Derived.Test.YtpgfpakdnijngaaGreatDoorPln
import Derived.Test.YtpgfpakdnijngaaGreatDoorBack
import Derived.Test.YtpgfpakdnijngaaGreatDoorIns
import Derived.Test.YtpgfpakdnijngaaGreatDoorNumC
set_option linter.unusedSimpArgs false
set_option linter.unusedVariables false
namespace Go.Proofs.YtpgfpakdnijngaaGreatDoor
open Go.Tel
theorem yU:(Tryz.prog.funcs.toList.all fun fn=>fn.body.isNone||!(fn.name== "runtime.NumGoroutine"))=true:=by kernel_rfl
theorem AH0:Tryz.prog.follows .mixedOrders=true:=by kernel_rfl
theorem ADw:Tryz.f57.body.isSome=true:=by kernel_rfl
theorem iU (R:Nat->Option (List PV)) (h5:R 5=some (Oy .u64 Lib.pow10Tab)) (f:FuncId) (T:A0->List AV->AK->Option (AV×AK)) (hT:(env R).told f=some T):P0 (env R) f T:=by
 have h:iY f=some T:=hT
 by_cases AH1:f=123
 ·subst AH1
  obtain rfl:T=ld:=(EL h).symm;exact yV (E:=(env R)) (f:=123) (gl:=5) AN1 h5 AN2
 have ADx:Nat.beq f 123=false:=JY AH1
 by_cases AH2:f=124
 ·subst AH2
  obtain rfl:T=eC:=(EL h).symm;exact yW (E:=(env R)) (f:=124) AN3
 have ADy:Nat.beq f 124=false:=JY AH2
 by_cases AH3:f=143
 ·subst AH3
  obtain rfl:T=Xs:=(EL h).symm;exact yX (E:=(env R)) (f:=143) AH4
 have ADz:Nat.beq f 143=false:=JY AH3;unfold iY at h;simp[ADx,ADy,ADz] at h
theorem Sj (R:Nat->Option (List PV)) (f:FuncId) (t:TypeId) (hT:(env R).back f=some t):SB Tryz.prog f t:=by
 have h:pR f=some t:=hT
 by_cases AH5:f=106
 ·subst AH5
  obtain rfl:t=25:=(EL h).symm;exact AHK
 have AN4:Nat.beq f 106=false:=JY AH5;unfold pR at h;simp[AN4] at h
theorem Xm (f:FuncId) (h:eD f=true) (hn:iY f=none):f=57:=by
 have n123:f≠123:=fun e=>by subst e; have hx:some (ld)=none:=hn; cases hx
 have ADx:Nat.beq f 123=false:=JY n123;have n124:f≠124:=fun e=>by subst e; have hx:some (eC)=none:=hn; cases hx
 have ADy:Nat.beq f 124=false:=JY n124;have n143:f≠143:=fun e=>by subst e; have hx:some (Xs)=none:=hn; cases hx
 have ADz:Nat.beq f 143=false:=JY n143
 by_cases e:f=57
 ·exact e
 have h57:Nat.beq f 57=false:=JY e;unfold eD at h;simp only[h57,ADx,ADy,ADz,AB,Bool.cond_self,Cc] at h
theorem good (R:Nat->Option (List PV)) (h5:R 5=some (Oy .u64 Lib.pow10Tab)):Tel.Good (env R):=by
 refine Tel.Good.lU (yY R) yU AH0 (iU R h5) (Sj R) (fun f hf hn=>?_);rcases Xm f hf hn with rfl
 ·exact⟨⟨_,Tryz.func57,ADw⟩,x9⟩
end Go.Proofs.YtpgfpakdnijngaaGreatDoor
