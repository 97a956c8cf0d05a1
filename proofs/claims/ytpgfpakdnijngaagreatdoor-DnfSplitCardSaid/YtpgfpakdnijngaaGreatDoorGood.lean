/-
  What the evaluator asks of the program: each fact by the kernel.
-/
import Derived.Test.YtpgfpakdnijngaaGreatDoorClone
import Derived.Test.YtpgfpakdnijngaaGreatDoorPln
import Derived.Test.YtpgfpakdnijngaaGreatDoorBack
import Derived.Test.YtpgfpakdnijngaaGreatDoorIns
import Derived.Test.YtpgfpakdnijngaaGreatDoorNumC
set_option linter.all false
namespace Go.Proofs.YtpgfpakdnijngaaGreatDoor
open Go.Tel
theorem AAi:(Tryz.prog.funcs.toList.all λfn=>fn.body.isNone||!(fn.name== "runtime.NumGoroutine"))=true:=AW
theorem ANq:Tryz.prog.follows .mixedOrders=true:=AW
theorem AF8:Tryz.f57.body.isSome=true:=AW
theorem kV (R:Nat->Option (List PV)) (h5:R 5=some (PU .u64 Lib.pow10Tab)) (f:FuncId) (T:BL->List AV->AQ->Option (AV×AQ)) (hT:(env R).told f=some T):Ql (env R) f T:=by
 have h:kZ f=some T:=hT
 by_cases ANr:f=123
 .subst ANr
  obtain rfl:T=oQ:=(Fk h).symm;exact AAj (E:=(env R)) (f:=123) (gl:=5) AXa h5 AXb
 have AF9:Nat.beq f 123=false:=Jq ANr
 by_cases ANs:f=124
 .subst ANs
  obtain rfl:T=gU:=(Fk h).symm;exact AAk (E:=(env R)) (f:=124) AXc
 have AGA:Nat.beq f 124=false:=Jq ANs
 by_cases ANt:f=143
 .subst ANt
  obtain rfl:T=bI:=(Fk h).symm;exact AAl (E:=(env R)) (f:=143) ANu
 have AGB:Nat.beq f 143=false:=Jq ANt;unfold kZ at h;simp[AF9,AGA,AGB] at h
theorem Tg (R:Nat->Option (List PV)) (f:FuncId) (t:TypeId) (hT:(env R).back f=some t):Wc Tryz.prog f t:=by
 have h:uF f=some t:=hT
 by_cases ANv:f=106
 .subst ANv
  obtain rfl:t=25:=(Fk h).symm;exact ANC
 have AXd:Nat.beq f 106=false:=Jq ANv;unfold uF at h;simp[AXd] at h
theorem Y1 (f:FuncId) (h:gW f=true) (hn:kZ f=none):f=57:=by
 have n123:f≠123:=λe=>by subst e; have hx:some (oQ)=none:=hn; cases hx
 have AF9:Nat.beq f 123=false:=Jq n123;have n124:f≠124:=λe=>by subst e; have hx:some (gU)=none:=hn; cases hx
 have AGA:Nat.beq f 124=false:=Jq n124;have n143:f≠143:=λe=>by subst e; have hx:some (bI)=none:=hn; cases hx
 have AGB:Nat.beq f 143=false:=Jq n143
 by_cases e:f=57
 .exact e
 have h57:Nat.beq f 57=false:=Jq e;unfold gW at h;simp only[h57,AF9,AGA,AGB,AK,Bool.cond_self,DN] at h
theorem good (R:Nat->Option (List PV)) (h5:R 5=some (PU .u64 Lib.pow10Tab)):Tel.Good (env R):=by
 refine Tel.Good.oO (AAm R) AAi ANq (kV R h5) (Tg R) (λf hf hn=>?_);rcases Y1 f hf hn with rfl
 .exact⟨⟨_,Tryz.func57,AF8⟩,AAI⟩
end Go.Proofs.YtpgfpakdnijngaaGreatDoor
