/- slices.Insert. -/
import Derived.Test.YtpgfpakdnijngaaGreatDoorTab
import Derived.Test.YtpgfpakdnijngaaGreatDoorTenL
import Derived.WalkKit
import Derived.Laws.Externs
set_option linter.all false
namespace Go.Proofs.YtpgfpakdnijngaaGreatDoor
open Go.Tel Go.RowKit
open Option renaming some->Y,none->G
open Bool renaming false->ϴ
theorem bS:(Tryz.prog.info? 3).map (λi=>(i.zero,i.size,i.bytes))=Y (Y (.int .i64 0),1,8):=Ac
set_option maxHeartbeats 4000000 in
set_option maxRecDepth 100000 in
theorem sH (w w1:World) (s:Option Addr) (len cap yb yo H6:Nat) (v1:Value) (hlc:len<=cap)
  (hrun:Hid ((Builtin.append_ #[22,22] 22 #[.slice s len cap,.slice (Y ⟨yb,yo,G⟩) 1 H6]).run Tryz.prog w=.ok v1 w1)) :
  Calls Tryz.prog 143 #[.slice s len cap,.int .i64 len,.slice (Y ⟨yb,yo,G⟩) 1 H6] w λe' w'=>e'=.returned v1/\w'=w1:=by
 have p1:(len:Int)<=len:=AA
 by_cases af:cap=len
 .subst af
  go_enter Tryz.func143,Tryz.ntmps143
  go_wp2_with (refine M8 rfl (.tmp 23) (.tmp 24) 22 22 rfl _ _ _ _ (by simp[Act.eval,Act.put]) (by simp[Act.eval,Act.put]) hrun.out ?_)
  all_goals (go_ret; exact⟨rfl,rfl⟩)
 .go_enter Tryz.func143,Tryz.ntmps143
  go_wp2_with (refine M8 rfl (.tmp 23) (.tmp 24) 22 22 rfl _ _ _ _ (by simp[Act.eval,Act.put]) (by simp[Act.eval,Act.put]) hrun.out ?_)
  all_goals (go_ret; exact⟨rfl,rfl⟩)
set_option maxHeartbeats 4000000 in
set_option maxRecDepth 100000 in
theorem oz (w:World) (b len cap yb yo H6 i:Nat) (AV5:len<=1000000000000000000) (hlc:len+1<=cap) (hil:i<len) (w1 w2:World)
  (hov:Hid (((callFunc 164 #[.slice (Y ⟨yb,yo,G⟩) 1 H6,.slice (Y ⟨b,i+1,G⟩) (len-i) (cap-(i+1))]).run Tryz.prog w)=.ok (.value (.bool ϴ)) w))
  (hc1:Hid ((Builtin.copy_ #[22,22] 3 #[.slice (Y ⟨b,i+1,G⟩) (len-i) (cap-(i+1)),.slice (Y ⟨b,i,G⟩) (len+1-i) (cap-i)]).run Tryz.prog w.drew=.ok (goInt (len-i:Nat)) w1))
  (hc2:Hid ((Builtin.copy_ #[22,22] 3 #[.slice (Y ⟨b,i,G⟩) (len+1-i) (cap-i),.slice (Y ⟨yb,yo,G⟩) 1 H6]).run Tryz.prog w1=.ok (goInt (1:Nat)) w2)) :
  Calls Tryz.prog 143 #[.slice (Y ⟨b,0,G⟩) len cap,.int .i64 i,.slice (Y ⟨yb,yo,G⟩) 1 H6] w λe' w'=>e'=.returned (.slice (Y ⟨b,0,G⟩) (len+1) cap)/\w'=w2:=by
 have p1:(i:Int)<=len:=AA;have p2:¬ (i:Int)=len:=AA;have p3:¬ cap=i:=AA;have p4:¬ cap=i+1:=AA;have p5:i+1<=len+1:=AA;have p6:i<=len+1:=AA;have p7:len+1<=cap:=hlc;have p8:¬ ((cap:Int)<(len:Int)+1):=AA;have r1:wrap64 ((len:Int)+1)=(len:Int)+1:=by unfold wrap64; omega
 have r2:wrap64 ((i:Int)+1)=(i:Int)+1:=by unfold wrap64; omega
 have r3:((len:Int)+1).toNat=len+1:=AA;have r4:((i:Int)+1).toNat=i+1:=AA;have r5:IntKind.i64.wrap ((i:Int)+1)=(i:Int)+1:=by rw[IntKind.wrap_i64]; omega
 have q1:(0:Int)<=(len:Int)+1:=AA;have q2:(len:Int)+1<=(cap:Int):=AA;have q3:(0:Int)<=(i:Int)+1:=AA;have q4:(i:Int)+1<=(len:Int)+1:=AA;have q5:(i:Int)<=(len:Int)+1:=AA
 go_enter Tryz.func143,Tryz.ntmps143
 go_wp2_with fail
 rw[hov.out];rw[Oper.upon_value]
 go_wp2_with fail
 go_region_law (refine W6 rfl (.tmp 73) (.tmp 76) 22 22 rfl _ _ _ _ (by simp[Act.eval,Act.put]) (by simp[Act.eval,Act.put]) hc1.out ?_)
 go_wp2_with (refine W7 rfl (.tmp 80) (.tmp 81) 22 22 rfl _ _ _ _ (by simp[Act.eval,Act.put]) (by simp[Act.eval,Act.put]) hc2.out ?_)
 go_ret
 exact⟨rfl,rfl⟩
set_option maxHeartbeats 4000000 in
set_option maxRecDepth 100000 in
theorem o3 (w:World) (b len cap yb yo H6 i sz Ov:Nat) (AV5:len<=1000000000000000000) (hlc:len<=cap) (hroom:cap<len+1) (hil:i<len) (hc2:len+1<=Ov) (w1 w2 w3:World)
  (hap:Hid ((Builtin.append_ #[22,3] 22 #[.slice (Y ⟨b,0,G⟩) i cap,.int .i64 ((len:Int)+1-(i:Int))]).run Tryz.prog w=.ok (.slice (Y ⟨sz,0,G⟩) (len+1) Ov) w1))
  (AV7:Hid ((Builtin.copy_ #[22,22] 3 #[.slice (Y ⟨sz,i,G⟩) (len+1-i) (Ov-i),.slice (Y ⟨yb,yo,G⟩) 1 H6]).run Tryz.prog w1=.ok (goInt (1:Nat)) w2))
  (AV8:Hid ((Builtin.copy_ #[22,22] 3 #[.slice (Y ⟨sz,i+1,G⟩) (len-i) (Ov-(i+1)),.slice (Y ⟨b,i,G⟩) (len-i) (cap-i)]).run Tryz.prog w2.drew=.ok (goInt (len-i:Nat)) w3)) :
  Calls Tryz.prog 143 #[.slice (Y ⟨b,0,G⟩) len cap,.int .i64 i,.slice (Y ⟨yb,yo,G⟩) 1 H6] w λe' w'=>e'=.returned (.slice (Y ⟨sz,0,G⟩) (len+1) Ov)/\w'=w3:=by
 have p1:(i:Int)<=len:=AA;have p2:¬ (i:Int)=len:=AA;have p3:¬ cap=i:=AA;have p4:¬ Ov=i+1:=AA;have p5:¬ Ov=i:=AA;have p6:i<=cap:=AA;have p7:i<=len+1:=AA;have p8:((cap:Int)<(len:Int)+1):=AA;have r1:wrap64 ((len:Int)+1)=(len:Int)+1:=by unfold wrap64; omega
 have r2:wrap64 ((i:Int)+1)=(i:Int)+1:=by unfold wrap64; omega
 have r6:wrap64 ((len:Int)+1-(i:Int))=(len:Int)+1-(i:Int):=by unfold wrap64; omega
 have r3:((len:Int)+1).toNat=len+1:=AA;have r4:((i:Int)+1).toNat=i+1:=AA;have r5:IntKind.i64.wrap ((i:Int)+1)=(i:Int)+1:=by rw[IntKind.wrap_i64]; omega
 have q3:(0:Int)<=(i:Int)+1:=AA;have q4:(i:Int)+1<=(len:Int)+1:=AA;have q5:(i:Int)<=(len:Int)+1:=AA
 go_enter Tryz.func143,Tryz.ntmps143
 go_wp2_with (first|(refine M8 rfl (.tmp 34) (.tmp 39) 22 3 rfl _ _ _ _ (by simp[Act.eval,Act.put]) (by simp[Act.eval,Act.put]) hap.out ?_)|(refine W7 rfl (.tmp 43) (.tmp 44) 22 22 rfl _ _ _ _ (by simp[Act.eval,Act.put]) (by simp[Act.eval,Act.put]) AV7.out ?_))
 go_region_law (refine W6 rfl (.tmp 50) (.tmp 53) 22 22 rfl _ _ _ _ (by simp[Act.eval,Act.put]) (by simp[Act.eval,Act.put]) AV8.out ?_)
 go_wp2_with fail
 go_ret
 exact⟨rfl,rfl⟩
theorem sJ:Tryz.f143.body.isSome=true:=Ac
theorem sK:(Tryz.f143.name== "runtime.NumGoroutine")=false:=Ac
theorem zU:(Tryz.f164.name== "runtime.NumGoroutine")=false:=Ac
theorem zV:Tryz.f164.body.isNone=true:=Ac
theorem zW:Extern.findNext Tryz.f164=none:=Ac
theorem zX:Extern.find Tryz.f164=Y (Extern.SlicesOverlaps.overlaps Tryz.f164.params Tryz.f164.resultTypes):=Ac
theorem sL:Tryz.f164.params[0]?=Y 22:=Ac
theorem sM:zeroOf Tryz.prog 3=Y [Jo (.int .i64 0)]:=Ac
theorem ALs:ALt Tryz.prog 143 164 22 3 3 where
 body:=⟨_,Tryz.func143,sJ,sK⟩
 ht:=Tryz.underlying22
 hti:=Tryz.underlying3
 info:=by
  obtain⟨i0,h1,h2,h3,h4⟩:=info_parts bS;exact⟨i0,.int .i64 0,h1,h3,AA,h2,rfl,rfl⟩
 zero:=⟨_,sM⟩
 ALu:=λw w1 s len cap yb yo H6 v1 h1 h2=>sH w w1 s len cap yb yo H6 v1 h1 h2
 ov:=λw yb yo H6 b o m c2 y vs et h1 h2 h3 h4=>by
  obtain⟨i0,k1,k2,k3,k4⟩:=info_parts bS;rw[run_callFunc_extern Tryz.func164 zU zV zW zX,ZK sL Tryz.underlying22 k1 k3 h1 h2 h3 h4];rfl
 ABT:=λw b len cap yb yo H6 i h1 h2 h3 w1 w2 k1 k2 k3=>oz w b len cap yb yo H6 i h1 h2 h3 w1 w2 k1 k2 k3
 ABU:=λw b len cap yb yo H6 i sz Ov h1 h2 h3 h4 h5 w1 w2 w3 k1 k2 k3=>o3 w b len cap yb yo H6 i sz Ov h1 h2 h3 h4 h5 w1 w2 w3 k1 k2 k3
end Go.Proofs.YtpgfpakdnijngaaGreatDoor
