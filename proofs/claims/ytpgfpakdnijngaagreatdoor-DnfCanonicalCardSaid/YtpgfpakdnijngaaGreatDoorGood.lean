/-
  What the evaluator asks of the program: each fact by the kernel.
-/
import Derived.Test.YtpgfpakdnijngaaGreatDoorClone
import Derived.Test.YtpgfpakdnijngaaGreatDoorPln
import Derived.Test.YtpgfpakdnijngaaGreatDoorBack
import Derived.Test.YtpgfpakdnijngaaGreatDoorIns
import Derived.Test.YtpgfpakdnijngaaGreatDoorNumC
set_option linter.all false
namespace Go.Proofs.YtpgfpakdnijngaaGreatDoor
open Go.Tel
theorem ABj:(Tryz.prog.funcs.toList.all λfn=>fn.body.isNone||!(fn.name== "runtime.NumGoroutine"))=true:=by kernel_rfl
theorem AM3:Tryz.prog.follows .mixedOrders=true:=by kernel_rfl
theorem AH2:Tryz.f57.body.isSome=true:=by kernel_rfl
theorem jh (R:Nat->Option (List PV)) (h5:R 5=some (Oc .u64 Lib.pow10Tab)) (f:FuncId) (T:A3->List AV->AM->Option (AV×AM)) (hT:(env R).told f=some T):Pr (env R) f T:=by
 have h:jn f=some T:=hT
 by_cases AM4:f=123
 .subst AM4
  obtain rfl:T=oK:=(FI h).symm;exact ABk (E:=(env R)) (f:=123) (gl:=5) AUG h5 AUH
 have AH3:Nat.beq f 123=false:=JL AM4
 by_cases AM5:f=124
 .subst AM5
  obtain rfl:T=fI:=(FI h).symm;exact ABl (E:=(env R)) (f:=124) AUI
 have AH4:Nat.beq f 124=false:=JL AM5
 by_cases AM6:f=143
 .subst AM6
  obtain rfl:T=Z0:=(FI h).symm;exact ABm (E:=(env R)) (f:=143) AM7
 have AH5:Nat.beq f 143=false:=JL AM6;unfold jn at h;simp[AH3,AH4,AH5] at h
theorem So (R:Nat->Option (List PV)) (f:FuncId) (t:TypeId) (hT:(env R).back f=some t):SD Tryz.prog f t:=by
 have h:tU f=some t:=hT
 by_cases AM8:f=106
 .subst AM8
  obtain rfl:t=25:=(FI h).symm;exact AMO
 have AUJ:Nat.beq f 106=false:=JL AM8;unfold tU at h;simp[AUJ] at h
theorem X3 (f:FuncId) (h:fJ f=true) (hn:jn f=none):f=57:=by
 have n123:f≠123:=λe=>by subst e; have hx:some (oK)=none:=hn; cases hx
 have AH3:Nat.beq f 123=false:=JL n123;have n124:f≠124:=λe=>by subst e; have hx:some (fI)=none:=hn; cases hx
 have AH4:Nat.beq f 124=false:=JL n124;have n143:f≠143:=λe=>by subst e; have hx:some (Z0)=none:=hn; cases hx
 have AH5:Nat.beq f 143=false:=JL n143
 by_cases e:f=57
 .exact e
 have h57:Nat.beq f 57=false:=JL e;unfold fJ at h;simp only[h57,AH3,AH4,AH5,AE,Bool.cond_self,DE] at h
theorem good (R:Nat->Option (List PV)) (h5:R 5=some (Oc .u64 Lib.pow10Tab)):Tel.Good (env R):=by
 refine Tel.Good.oG (ABn R) ABj AM3 (jh R h5) (So R) (λf hf hn=>?_);rcases X3 f hf hn with rfl
 .exact⟨⟨_,Tryz.func57,AH2⟩,ABJ⟩
end Go.Proofs.YtpgfpakdnijngaaGreatDoor
