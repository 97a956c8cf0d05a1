/-
  What the evaluator asks of the program: each fact by the kernel.
-/
import Derived.Test.YtpgfpakdnijngaaGreatDoorClone
import Derived.Test.YtpgfpakdnijngaaGreatDoorPln
import Derived.Test.YtpgfpakdnijngaaGreatDoorBack
import Derived.Test.YtpgfpakdnijngaaGreatDoorIns
import Derived.Test.YtpgfpakdnijngaaGreatDoorNumC
set_option linter.all false
namespace Go.Proofs.YtpgfpakdnijngaaGreatDoor
open Go.Tel
theorem ACU:(Tryz.prog.funcs.toList.all λfn=>fn.body.isNone||!(fn.name== "runtime.NumGoroutine"))=true:=by kernel_rfl
theorem AOg:Tryz.prog.follows .mixedOrders=true:=by kernel_rfl
theorem AJG:Tryz.f57.body.isSome=true:=by kernel_rfl
theorem jb (R:Nat->Option (List PV)) (h5:R 5=some (OU .u64 Lib.pow10Tab)) (f:FuncId) (T:A8->List AV->AM->Option (AV×AM)) (hT:(env R).told f=some T):PW (env R) f T:=by
 have h:jg f=some T:=hT
 by_cases AOh:f=123
 .subst AOh
  obtain rfl:T=nu:=(FQ h).symm;exact ACV (E:=(env R)) (f:=123) (gl:=5) AV5 h5 AV6
 have AJH:Nat.beq f 123=false:=JM AOh
 by_cases AOi:f=124
 .subst AOi
  obtain rfl:T=eS:=(FQ h).symm;exact ACW (E:=(env R)) (f:=124) AV7
 have AJI:Nat.beq f 124=false:=JM AOi
 by_cases AOj:f=143
 .subst AOj
  obtain rfl:T=Zj:=(FQ h).symm;exact ACX (E:=(env R)) (f:=143) AOk
 have AJJ:Nat.beq f 143=false:=JM AOj;unfold jg at h;simp[AJH,AJI,AJJ] at h
theorem SM (R:Nat->Option (List PV)) (f:FuncId) (t:TypeId) (hT:(env R).back f=some t):U8 Tryz.prog f t:=by
 have h:sS f=some t:=hT
 by_cases AOl:f=106
 .subst AOl
  obtain rfl:t=25:=(FQ h).symm;exact AN1
 have AV8:Nat.beq f 106=false:=JM AOl;unfold sS at h;simp[AV8] at h
theorem Xk (f:FuncId) (h:eT f=true) (hn:jg f=none):f=57:=by
 have n123:f≠123:=λe=>by subst e; have hx:some (nu)=none:=hn; cases hx
 have AJH:Nat.beq f 123=false:=JM n123;have n124:f≠124:=λe=>by subst e; have hx:some (eS)=none:=hn; cases hx
 have AJI:Nat.beq f 124=false:=JM n124;have n143:f≠143:=λe=>by subst e; have hx:some (Zj)=none:=hn; cases hx
 have AJJ:Nat.beq f 143=false:=JM n143
 by_cases e:f=57
 .exact e
 have h57:Nat.beq f 57=false:=JM e;unfold eT at h;simp only[h57,AJH,AJI,AJJ,AG,Bool.cond_self,DH] at h
theorem good (R:Nat->Option (List PV)) (h5:R 5=some (OU .u64 Lib.pow10Tab)):Tel.Good (env R):=by
 refine Tel.Good.ng (ACY R) ACU AOg (jb R h5) (SM R) (λf hf hn=>?_);rcases Xk f hf hn with rfl
 .exact⟨⟨_,Tryz.func57,AJG⟩,AB2⟩
end Go.Proofs.YtpgfpakdnijngaaGreatDoor
