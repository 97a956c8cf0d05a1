/-
  What the evaluator asks of the program: each fact by the kernel.
-/
import Derived.Test.YtpgfpakdnijngaaGreatDoorClone
import Derived.Test.YtpgfpakdnijngaaGreatDoorPln
import Derived.Test.YtpgfpakdnijngaaGreatDoorBack
import Derived.Test.YtpgfpakdnijngaaGreatDoorIns
import Derived.Test.YtpgfpakdnijngaaGreatDoorNumC
set_option linter.all false
namespace Go.Proofs.YtpgfpakdnijngaaGreatDoor
open Go.Tel
theorem ACo:(Tryz.prog.funcs.toList.all λfn=>fn.body.isNone||!(fn.name== "runtime.NumGoroutine"))=true:=by kernel_rfl
theorem AOT:Tryz.prog.follows .mixedOrders=true:=by kernel_rfl
theorem AJC:Tryz.f57.body.isSome=true:=by kernel_rfl
theorem jn (R:Nat->Option (List PV)) (h5:R 5=some (Ol .u64 Lib.pow10Tab)) (f:FuncId) (T:A3->List AV->AL->Option (AV×AL)) (hT:(env R).told f=some T):Pu (env R) f T:=by
 have h:jt f=some T:=hT
 by_cases AOU:f=123
 .subst AOU
  obtain rfl:T=oQ:=(FU h).symm;exact ACp (E:=(env R)) (f:=123) (gl:=5) AVe h5 AVf
 have AJD:Nat.beq f 123=false:=JL AOU
 by_cases AOV:f=124
 .subst AOV
  obtain rfl:T=fH:=(FU h).symm;exact ACq (E:=(env R)) (f:=124) AVg
 have AJE:Nat.beq f 124=false:=JL AOV
 by_cases AOW:f=143
 .subst AOW
  obtain rfl:T=Z1:=(FU h).symm;exact ACr (E:=(env R)) (f:=143) AOX
 have AJF:Nat.beq f 143=false:=JL AOW;unfold jt at h;simp[AJD,AJE,AJF] at h
theorem Sv (R:Nat->Option (List PV)) (f:FuncId) (t:TypeId) (hT:(env R).back f=some t):SK Tryz.prog f t:=by
 have h:tF f=some t:=hT
 by_cases AOY:f=106
 .subst AOY
  obtain rfl:t=25:=(FU h).symm;exact ANm
 have AVh:Nat.beq f 106=false:=JL AOY;unfold tF at h;simp[AVh] at h
theorem X5 (f:FuncId) (h:fI f=true) (hn:jt f=none):f=57:=by
 have n123:f≠123:=λe=>by subst e; have hx:some (oQ)=none:=hn; cases hx
 have AJD:Nat.beq f 123=false:=JL n123;have n124:f≠124:=λe=>by subst e; have hx:some (fH)=none:=hn; cases hx
 have AJE:Nat.beq f 124=false:=JL n124;have n143:f≠143:=λe=>by subst e; have hx:some (Z1)=none:=hn; cases hx
 have AJF:Nat.beq f 143=false:=JL n143
 by_cases e:f=57
 .exact e
 have h57:Nat.beq f 57=false:=JL e;unfold fI at h;simp only[h57,AJD,AJE,AJF,AH,Bool.cond_self,DD] at h
theorem good (R:Nat->Option (List PV)) (h5:R 5=some (Ol .u64 Lib.pow10Tab)):Tel.Good (env R):=by
 refine Tel.Good.oM (ACs R) ACo AOT (jn R h5) (Sv R) (λf hf hn=>?_);rcases X5 f hf hn with rfl
 .exact⟨⟨_,Tryz.func57,AJC⟩,ACP⟩
end Go.Proofs.YtpgfpakdnijngaaGreatDoor
