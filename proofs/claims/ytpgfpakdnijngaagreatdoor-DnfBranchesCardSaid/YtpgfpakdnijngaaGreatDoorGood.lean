/- The program's facts. -/
import Derived.Test.YtpgfpakdnijngaaGreatDoorClone
import Derived.Test.YtpgfpakdnijngaaGreatDoorPln
import Derived.Test.YtpgfpakdnijngaaGreatDoorBack
import Derived.Test.YtpgfpakdnijngaaGreatDoorIns
import Derived.Test.YtpgfpakdnijngaaGreatDoorNumC
set_option linter.all false
namespace Go.Proofs.YtpgfpakdnijngaaGreatDoor
open Go.Tel
theorem zP:(Tryz.prog.funcs.toList.all λfn=>fn.body.isNone||!(fn.name== "runtime.NumGoroutine"))=true:=Ac
theorem ALr:Tryz.prog.follows .mixedOrders=true:=Ac
theorem AFD:Tryz.f57.body.isSome=true:=Ac
theorem lF (R:Nat->Option (List PV)) (l:R 5=some (Pv .u64 Lib.pow10Tab)) (f:FuncId) (T:Ba->List AV->AY->Option (AV×AY)) (m:(env R).told f=some T):Q1 (env R) f T:=by
 have h:lJ f=some T:=m
 by_cases b:f=123
 .subst b
  obtain rfl:T=oy:=(Ft h).symm;exact zQ (E:=(env R)) (f:=123) (gl:=5) AV2 l AV3
 have i:Nat.beq f 123=false:=J8 b
 by_cases d:f=124
 .subst d
  obtain rfl:T=gV:=(Ft h).symm;exact zR (E:=(env R)) (f:=124) AV4
 have j:Nat.beq f 124=false:=J8 d
 by_cases e:f=143
 .subst e
  obtain rfl:T=bR:=(Ft h).symm;exact zS (E:=(env R)) (f:=143) ALs
 have k:Nat.beq f 143=false:=J8 e;unfold lJ at h;simp[i,j,k] at h
theorem Tp (R:Nat->Option (List PV)) (f:FuncId) (t:TypeId) (e:(env R).back f=some t):TN Tryz.prog f t:=by
 have h:sG f=some t:=e
 by_cases b:f=106
 .subst b
  obtain rfl:t=25:=(Ft h).symm;exact ALa
 have d:Nat.beq f 106=false:=J8 b;unfold sG at h;simp[d] at h
theorem ZF (f:FuncId) (h:gW f=true) (hn:lJ f=none):f=57:=by
 have b:f≠123:=λe=>by subst e; have hx:some (oy)=none:=hn; cases hx
 have d:Nat.beq f 123=false:=J8 b;have i:f≠124:=λe=>by subst e; have hx:some (gV)=none:=hn; cases hx
 have j:Nat.beq f 124=false:=J8 i;have k:f≠143:=λe=>by subst e; have hx:some (bR)=none:=hn; cases hx
 have l:Nat.beq f 143=false:=J8 k
 by_cases e:f=57
 .exact e
 have m:Nat.beq f 57=false:=J8 e;unfold gW at h;simp only[m,d,j,l,AL,Bool.cond_self,Dj] at h
theorem good (R:Nat->Option (List PV)) (b:R 5=some (Pv .u64 Lib.pow10Tab)):Tel.Good (env R):=by
 refine Tel.Good.ou (zT R) zP ALr (lF R b) (Tp R) (λf hf hn=>?_);rcases ZF f hf hn with rfl
 .exact⟨⟨_,Tryz.func57,AFD⟩,y6⟩
end Go.Proofs.YtpgfpakdnijngaaGreatDoor
