/-
  slices.Insert of one element into a slice over a block of its own.
-/
import Derived.Test.YtpgfpakdnijngaaGreatDoorTab
import Derived.Test.YtpgfpakdnijngaaGreatDoorTenL
import Derived.WalkKit
import Derived.Laws.Externs
set_option linter.all false
namespace Go.Proofs.YtpgfpakdnijngaaGreatDoor
open Go.Tel Go.RowKit
theorem bJ:(Tryz.prog.info? 3).map (λi=>(i.zero,i.size,i.bytes))=some (some (.int .i64 0),1,8):=AW
set_option maxHeartbeats 4000000 in
set_option maxRecDepth 100000 in
theorem uG (w w1:World) (s:Option Addr) (len cap yb yo Gz:Nat) (v1:Value) (hlc:len<=cap)
  (hrun:Hid ((Builtin.append_ #[22,22] 22 #[.slice s len cap,.slice (some ⟨yb,yo,none⟩) 1 Gz]).run Tryz.prog w=.ok v1 w1)) :
  Calls Tryz.prog 143 #[.slice s len cap,.int .i64 len,.slice (some ⟨yb,yo,none⟩) 1 Gz] w λe' w'=>e'=.returned v1/\w'=w1:=by
 have p1:(len:Int)<=len:=AA
 by_cases Ff:cap=len
 .subst Ff
  go_enter Tryz.func143,Tryz.ntmps143
  go_wp2_with (refine Mr rfl (.tmp 23) (.tmp 24) 22 22 rfl _ _ _ _ (by simp[Act.eval,Act.put]) (by simp[Act.eval,Act.put]) hrun.out ?_)
  all_goals (go_ret; exact⟨rfl,rfl⟩)
 .go_enter Tryz.func143,Tryz.ntmps143
  go_wp2_with (refine Mr rfl (.tmp 23) (.tmp 24) 22 22 rfl _ _ _ _ (by simp[Act.eval,Act.put]) (by simp[Act.eval,Act.put]) hrun.out ?_)
  all_goals (go_ret; exact⟨rfl,rfl⟩)
set_option maxHeartbeats 4000000 in
set_option maxRecDepth 100000 in
theorem oS (w:World) (b len cap yb yo Gz i:Nat) (AXe:len<=1000000000000000000) (hlc:len+1<=cap) (hil:i<len) (w1 w2:World)
  (hov:Hid (((callFunc 164 #[.slice (some ⟨yb,yo,none⟩) 1 Gz,.slice (some ⟨b,i+1,none⟩) (len-i) (cap-(i+1))]).run Tryz.prog w)=.ok (.value (.bool false)) w))
  (Ma:Hid ((Builtin.copy_ #[22,22] 3 #[.slice (some ⟨b,i+1,none⟩) (len-i) (cap-(i+1)),.slice (some ⟨b,i,none⟩) (len+1-i) (cap-i)]).run Tryz.prog w.drew=.ok (goInt (len-i:Nat)) w1))
  (QO:Hid ((Builtin.copy_ #[22,22] 3 #[.slice (some ⟨b,i,none⟩) (len+1-i) (cap-i),.slice (some ⟨yb,yo,none⟩) 1 Gz]).run Tryz.prog w1=.ok (goInt (1:Nat)) w2)) :
  Calls Tryz.prog 143 #[.slice (some ⟨b,0,none⟩) len cap,.int .i64 i,.slice (some ⟨yb,yo,none⟩) 1 Gz] w λe' w'=>e'=.returned (.slice (some ⟨b,0,none⟩) (len+1) cap)/\w'=w2:=by
 have p1:(i:Int)<=len:=AA;have p2:¬ (i:Int)=len:=AA;have p3:¬ cap=i:=AA;have p4:¬ cap=i+1:=AA;have p5:i+1<=len+1:=AA;have p6:i<=len+1:=AA;have p7:len+1<=cap:=hlc;have p8:¬ ((cap:Int)<(len:Int)+1):=AA;have r1:wrap64 ((len:Int)+1)=(len:Int)+1:=by unfold wrap64; omega
 have r2:wrap64 ((i:Int)+1)=(i:Int)+1:=by unfold wrap64; omega
 have r3:((len:Int)+1).toNat=len+1:=AA;have r4:((i:Int)+1).toNat=i+1:=AA;have r5:IntKind.i64.wrap ((i:Int)+1)=(i:Int)+1:=by rw[IntKind.wrap_i64]; omega
 have q1:(0:Int)<=(len:Int)+1:=AA;have q2:(len:Int)+1<=(cap:Int):=AA;have q3:(0:Int)<=(i:Int)+1:=AA;have q4:(i:Int)+1<=(len:Int)+1:=AA;have q5:(i:Int)<=(len:Int)+1:=AA
 go_enter Tryz.func143,Tryz.ntmps143
 go_wp2_with fail
 rw[hov.out];rw[Oper.upon_value]
 go_wp2_with fail
 go_region_law (refine Wt rfl (.tmp 73) (.tmp 76) 22 22 rfl _ _ _ _ (by simp[Act.eval,Act.put]) (by simp[Act.eval,Act.put]) Ma.out ?_)
 go_wp2_with (refine Wu rfl (.tmp 80) (.tmp 81) 22 22 rfl _ _ _ _ (by simp[Act.eval,Act.put]) (by simp[Act.eval,Act.put]) QO.out ?_)
 go_ret
 exact⟨rfl,rfl⟩
set_option maxHeartbeats 4000000 in
set_option maxRecDepth 100000 in
theorem oT (w:World) (b len cap yb yo Gz i sz Kj:Nat) (AXe:len<=1000000000000000000) (hlc:len<=cap) (hroom:cap<len+1) (hil:i<len) (QO:len+1<=Kj) (w1 w2 w3:World)
  (hap:Hid ((Builtin.append_ #[22,3] 22 #[.slice (some ⟨b,0,none⟩) i cap,.int .i64 ((len:Int)+1-(i:Int))]).run Tryz.prog w=.ok (.slice (some ⟨sz,0,none⟩) (len+1) Kj) w1))
  (AXf:Hid ((Builtin.copy_ #[22,22] 3 #[.slice (some ⟨sz,i,none⟩) (len+1-i) (Kj-i),.slice (some ⟨yb,yo,none⟩) 1 Gz]).run Tryz.prog w1=.ok (goInt (1:Nat)) w2))
  (AXg:Hid ((Builtin.copy_ #[22,22] 3 #[.slice (some ⟨sz,i+1,none⟩) (len-i) (Kj-(i+1)),.slice (some ⟨b,i,none⟩) (len-i) (cap-i)]).run Tryz.prog w2.drew=.ok (goInt (len-i:Nat)) w3)) :
  Calls Tryz.prog 143 #[.slice (some ⟨b,0,none⟩) len cap,.int .i64 i,.slice (some ⟨yb,yo,none⟩) 1 Gz] w λe' w'=>e'=.returned (.slice (some ⟨sz,0,none⟩) (len+1) Kj)/\w'=w3:=by
 have p1:(i:Int)<=len:=AA;have p2:¬ (i:Int)=len:=AA;have p3:¬ cap=i:=AA;have p4:¬ Kj=i+1:=AA;have p5:¬ Kj=i:=AA;have p6:i<=cap:=AA;have p7:i<=len+1:=AA;have p8:((cap:Int)<(len:Int)+1):=AA;have r1:wrap64 ((len:Int)+1)=(len:Int)+1:=by unfold wrap64; omega
 have r2:wrap64 ((i:Int)+1)=(i:Int)+1:=by unfold wrap64; omega
 have r6:wrap64 ((len:Int)+1-(i:Int))=(len:Int)+1-(i:Int):=by unfold wrap64; omega
 have r3:((len:Int)+1).toNat=len+1:=AA;have r4:((i:Int)+1).toNat=i+1:=AA;have r5:IntKind.i64.wrap ((i:Int)+1)=(i:Int)+1:=by rw[IntKind.wrap_i64]; omega
 have q3:(0:Int)<=(i:Int)+1:=AA;have q4:(i:Int)+1<=(len:Int)+1:=AA;have q5:(i:Int)<=(len:Int)+1:=AA
 go_enter Tryz.func143,Tryz.ntmps143
 go_wp2_with (first|(refine Mr rfl (.tmp 34) (.tmp 39) 22 3 rfl _ _ _ _ (by simp[Act.eval,Act.put]) (by simp[Act.eval,Act.put]) hap.out ?_)|(refine Wu rfl (.tmp 43) (.tmp 44) 22 22 rfl _ _ _ _ (by simp[Act.eval,Act.put]) (by simp[Act.eval,Act.put]) AXf.out ?_))
 go_region_law (refine Wt rfl (.tmp 50) (.tmp 53) 22 22 rfl _ _ _ _ (by simp[Act.eval,Act.put]) (by simp[Act.eval,Act.put]) AXg.out ?_)
 go_wp2_with fail
 go_ret
 exact⟨rfl,rfl⟩
theorem uH:Tryz.f143.body.isSome=true:=AW
theorem uI:(Tryz.f143.name== "runtime.NumGoroutine")=false:=AW
theorem AAn:(Tryz.f164.name== "runtime.NumGoroutine")=false:=AW
theorem AAo:Tryz.f164.body.isNone=true:=AW
theorem AAp:Extern.findNext Tryz.f164=none:=AW
theorem AAq:Extern.find Tryz.f164=some (Extern.SlicesOverlaps.overlaps Tryz.f164.params Tryz.f164.resultTypes):=AW
theorem uJ:Tryz.f164.params[0]?=some 22:=AW
theorem uK:zeroOf Tryz.prog 3=some [Kc (.int .i64 0)]:=AW
theorem ANu:ANw Tryz.prog 143 164 22 3 3 where
 body:=⟨_,Tryz.func143,uH,uI⟩
 ht:=Tryz.underlying22
 fO:=Tryz.underlying3
 info:=by
  obtain⟨i0,h1,h2,h3,h4⟩:=info_parts bJ;exact⟨i0,.int .i64 0,h1,h3,AA,h2,rfl,rfl⟩
 zero:=⟨_,uK⟩
 ANx:=λw w1 s len cap yb yo Gz v1 h1 h2=>uG w w1 s len cap yb yo Gz v1 h1 h2
 ov:=λw yb yo Gz b o m c2 y vs et h1 h2 h3 h4=>by
  obtain⟨i0,k1,k2,k3,k4⟩:=info_parts bJ;rw[run_callFunc_extern Tryz.func164 AAn AAo AAp AAq,Y6 uJ Tryz.underlying22 k1 k3 h1 h2 h3 h4];rfl
 ACl:=λw b len cap yb yo Gz i h1 h2 h3 w1 w2 k1 k2 k3=>oS w b len cap yb yo Gz i h1 h2 h3 w1 w2 k1 k2 k3
 ACm:=λw b len cap yb yo Gz i sz Kj h1 h2 h3 h4 h5 w1 w2 w3 k1 k2 k3=>oT w b len cap yb yo Gz i sz Kj h1 h2 h3 h4 h5 w1 w2 w3 k1 k2 k3
end Go.Proofs.YtpgfpakdnijngaaGreatDoor
