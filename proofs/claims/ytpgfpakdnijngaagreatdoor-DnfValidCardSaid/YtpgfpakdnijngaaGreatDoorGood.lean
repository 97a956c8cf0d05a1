/-
  What the evaluator asks of the program: each fact by the kernel.
-/
import Derived.Test.YtpgfpakdnijngaaGreatDoorClone
import Derived.Test.YtpgfpakdnijngaaGreatDoorPln
import Derived.Test.YtpgfpakdnijngaaGreatDoorBack
import Derived.Test.YtpgfpakdnijngaaGreatDoorIns
import Derived.Test.YtpgfpakdnijngaaGreatDoorNumC
set_option linter.all false
namespace Go.Proofs.YtpgfpakdnijngaaGreatDoor
open Go.Tel
theorem ABZ:(Tryz.prog.funcs.toList.all λfn=>fn.body.isNone||!(fn.name== "runtime.NumGoroutine"))=true:=AW
theorem AOr:Tryz.prog.follows .mixedOrders=true:=AW
theorem AHB:Tryz.f57.body.isSome=true:=AW
theorem cT (R:Nat->Option (List PV)) (h5:R 5=some (Pm .u64 Lib.pow10Tab)) (f:FuncId) (T:BI->List AV->AQ->Option (AV×AQ)) (hT:(env R).told f=some T):Mr (env R) f T:=by
 have h:mB f=some T:=hT
 by_cases AOs:f=123
 .subst AOs
  obtain rfl:T=qA:=(Ex h).symm;exact ABa (E:=(env R)) (f:=123) (gl:=5) AY4 h5 AY5
 have AHC:Nat.beq f 123=false:=Jv AOs
 by_cases AOt:f=124
 .subst AOt
  obtain rfl:T=jE:=(Ex h).symm;exact ABb (E:=(env R)) (f:=124) AY6
 have AHD:Nat.beq f 124=false:=Jv AOt
 by_cases AOu:f=143
 .subst AOu
  obtain rfl:T=cY:=(Ex h).symm;exact ABc (E:=(env R)) (f:=143) AOv
 have AHE:Nat.beq f 143=false:=Jv AOu;unfold mB at h;simp[AHC,AHD,AHE] at h
theorem R1 (R:Nat->Option (List PV)) (f:FuncId) (t:TypeId) (hT:(env R).back f=some t):XI Tryz.prog f t:=by
 have h:vD f=some t:=hT
 by_cases AOw:f=106
 .subst AOw
  obtain rfl:t=25:=(Ex h).symm;exact AOC
 have AY7:Nat.beq f 106=false:=Jv AOw;unfold vD at h;simp[AY7] at h
theorem UE (f:FuncId) (h:jF f=true) (hn:mB f=none):f=57:=by
 have n123:f≠123:=λe=>by subst e; have hx:some (qA)=none:=hn; cases hx
 have AHC:Nat.beq f 123=false:=Jv n123;have n124:f≠124:=λe=>by subst e; have hx:some (jE)=none:=hn; cases hx
 have AHD:Nat.beq f 124=false:=Jv n124;have n143:f≠143:=λe=>by subst e; have hx:some (cY)=none:=hn; cases hx
 have AHE:Nat.beq f 143=false:=Jv n143
 by_cases e:f=57
 .exact e
 have h57:Nat.beq f 57=false:=Jv e;unfold jF at h;simp only[h57,AHC,AHD,AHE,AL,Bool.cond_self,DS] at h
theorem good (R:Nat->Option (List PV)) (h5:R 5=some (Pm .u64 Lib.pow10Tab)):Tel.Good (env R):=by
 refine Tel.Good.pz (ABd R) ABZ AOr (cT R h5) (R1 R) (λf hf hn=>?_);rcases UE f hf hn with rfl
 .exact⟨⟨_,Tryz.func57,AHB⟩,ABA⟩
end Go.Proofs.YtpgfpakdnijngaaGreatDoor
