/-
  slices.Insert of one element into a slice over a block of its own.
-/
import Derived.Test.YtcmeadgdojfhnaaGreatDoorTab
import Derived.Test.YtcmeadgdojfhnaaGreatDoorTenL
import Derived.WalkKit
import Derived.Laws.Externs
set_option linter.unusedSimpArgs false
set_option linter.unusedVariables false
namespace Go.Proofs.YtcmeadgdojfhnaaGreatDoor
open Go.Tel Go.RowKit
theorem infoInsI : (Tryz.prog.info? 3).map (fun i => (i.zero, i.size, i.bytes)) = some (some (.int .i64 0), 1, 8) := by kernel_rfl
set_option maxHeartbeats 4000000 in
set_option maxRecDepth 100000 in
theorem ins_endI (w w1 : World) (s : Option Addr) (len cap yb yo ycap : Nat) (v1 : Value) (hlc : len ≤ cap)
    (hrun : Hid ((Builtin.append_ #[22, 22] 22 #[.slice s len cap, .slice (some ⟨yb, yo, none⟩) 1 ycap]).run Tryz.prog w = .ok v1 w1)) :
    Calls Tryz.prog 136 #[.slice s len cap, .int .i64 len, .slice (some ⟨yb, yo, none⟩) 1 ycap] w fun e' w' => e' = .returned v1 ∧ w' = w1 := by
  have p1 : (len : Int) ≤ len := by omega
  by_cases hcl : cap = len
  · subst hcl
    go_enter Tryz.func136, Tryz.ntmps136
    go_wp2_with (refine list_append rfl (.tmp 23) (.tmp 24) 22 22 rfl _ _ _ _ (by simp [Act.eval, Act.put]) (by simp [Act.eval, Act.put]) hrun.out ?_)
    all_goals (go_ret; exact ⟨rfl, rfl⟩)
  · go_enter Tryz.func136, Tryz.ntmps136
    go_wp2_with (refine list_append rfl (.tmp 23) (.tmp 24) 22 22 rfl _ _ _ _ (by simp [Act.eval, Act.put]) (by simp [Act.eval, Act.put]) hrun.out ?_)
    all_goals (go_ret; exact ⟨rfl, rfl⟩)
set_option maxHeartbeats 4000000 in
set_option maxRecDepth 100000 in
theorem ins_roomI (w : World) (b len cap yb yo ycap i : Nat) (hmax : len ≤ 1000000000000000000) (hlc : len + 1 ≤ cap) (hil : i < len) (w1 w2 : World)
    (hov : Hid (((callFunc 167 #[.slice (some ⟨yb, yo, none⟩) 1 ycap, .slice (some ⟨b, i + 1, none⟩) (len - i) (cap - (i + 1))]).run Tryz.prog w) = .ok (.value (.bool false)) w))
    (hc1 : Hid ((Builtin.copy_ #[22, 22] 3 #[.slice (some ⟨b, i + 1, none⟩) (len - i) (cap - (i + 1)), .slice (some ⟨b, i, none⟩) (len + 1 - i) (cap - i)]).run Tryz.prog w.drew = .ok (goInt (len - i : Nat)) w1))
    (hc2 : Hid ((Builtin.copy_ #[22, 22] 3 #[.slice (some ⟨b, i, none⟩) (len + 1 - i) (cap - i), .slice (some ⟨yb, yo, none⟩) 1 ycap]).run Tryz.prog w1 = .ok (goInt (1 : Nat)) w2)) :
    Calls Tryz.prog 136 #[.slice (some ⟨b, 0, none⟩) len cap, .int .i64 i, .slice (some ⟨yb, yo, none⟩) 1 ycap] w fun e' w' => e' = .returned (.slice (some ⟨b, 0, none⟩) (len + 1) cap) ∧ w' = w2 := by
  have p1 : (i : Int) ≤ len := by omega
  have p2 : ¬ (i : Int) = len := by omega
  have p3 : ¬ cap = i := by omega
  have p4 : ¬ cap = i + 1 := by omega
  have p5 : i + 1 ≤ len + 1 := by omega
  have p6 : i ≤ len + 1 := by omega
  have p7 : len + 1 ≤ cap := hlc
  have p8 : ¬ ((cap : Int) < (len : Int) + 1) := by omega
  have r1 : wrap64 ((len : Int) + 1) = (len : Int) + 1 := by unfold wrap64; omega
  have r2 : wrap64 ((i : Int) + 1) = (i : Int) + 1 := by unfold wrap64; omega
  have r3 : ((len : Int) + 1).toNat = len + 1 := by omega
  have r4 : ((i : Int) + 1).toNat = i + 1 := by omega
  have r5 : IntKind.i64.wrap ((i : Int) + 1) = (i : Int) + 1 := by rw [IntKind.wrap_i64]; omega
  have q1 : (0 : Int) ≤ (len : Int) + 1 := by omega
  have q2 : (len : Int) + 1 ≤ (cap : Int) := by omega
  have q3 : (0 : Int) ≤ (i : Int) + 1 := by omega
  have q4 : (i : Int) + 1 ≤ (len : Int) + 1 := by omega
  have q5 : (i : Int) ≤ (len : Int) + 1 := by omega
  go_enter Tryz.func136, Tryz.ntmps136
  go_wp2_with fail
  rw [hov.out]
  rw [Oper.upon_value]
  go_wp2_with fail
  go_region_law (refine step_copy rfl (.tmp 73) (.tmp 76) 22 22 rfl _ _ _ _ (by simp [Act.eval, Act.put]) (by simp [Act.eval, Act.put]) hc1.out ?_)
  go_wp2_with (refine list_copy rfl (.tmp 80) (.tmp 81) 22 22 rfl _ _ _ _ (by simp [Act.eval, Act.put]) (by simp [Act.eval, Act.put]) hc2.out ?_)
  go_ret
  exact ⟨rfl, rfl⟩
set_option maxHeartbeats 4000000 in
set_option maxRecDepth 100000 in
theorem ins_growI (w : World) (b len cap yb yo ycap i sz cap2 : Nat) (hmax : len ≤ 1000000000000000000) (hlc : len ≤ cap) (hroom : cap < len + 1) (hil : i < len) (hc2 : len + 1 ≤ cap2) (w1 w2 w3 : World)
    (hap : Hid ((Builtin.append_ #[22, 3] 22 #[.slice (some ⟨b, 0, none⟩) i cap, .int .i64 ((len : Int) + 1 - (i : Int))]).run Tryz.prog w = .ok (.slice (some ⟨sz, 0, none⟩) (len + 1) cap2) w1))
    (hcp1 : Hid ((Builtin.copy_ #[22, 22] 3 #[.slice (some ⟨sz, i, none⟩) (len + 1 - i) (cap2 - i), .slice (some ⟨yb, yo, none⟩) 1 ycap]).run Tryz.prog w1 = .ok (goInt (1 : Nat)) w2))
    (hcp2 : Hid ((Builtin.copy_ #[22, 22] 3 #[.slice (some ⟨sz, i + 1, none⟩) (len - i) (cap2 - (i + 1)), .slice (some ⟨b, i, none⟩) (len - i) (cap - i)]).run Tryz.prog w2.drew = .ok (goInt (len - i : Nat)) w3)) :
    Calls Tryz.prog 136 #[.slice (some ⟨b, 0, none⟩) len cap, .int .i64 i, .slice (some ⟨yb, yo, none⟩) 1 ycap] w fun e' w' => e' = .returned (.slice (some ⟨sz, 0, none⟩) (len + 1) cap2) ∧ w' = w3 := by
  have p1 : (i : Int) ≤ len := by omega
  have p2 : ¬ (i : Int) = len := by omega
  have p3 : ¬ cap = i := by omega
  have p4 : ¬ cap2 = i + 1 := by omega
  have p5 : ¬ cap2 = i := by omega
  have p6 : i ≤ cap := by omega
  have p7 : i ≤ len + 1 := by omega
  have p8 : ((cap : Int) < (len : Int) + 1) := by omega
  have r1 : wrap64 ((len : Int) + 1) = (len : Int) + 1 := by unfold wrap64; omega
  have r2 : wrap64 ((i : Int) + 1) = (i : Int) + 1 := by unfold wrap64; omega
  have r6 : wrap64 ((len : Int) + 1 - (i : Int)) = (len : Int) + 1 - (i : Int) := by unfold wrap64; omega
  have r3 : ((len : Int) + 1).toNat = len + 1 := by omega
  have r4 : ((i : Int) + 1).toNat = i + 1 := by omega
  have r5 : IntKind.i64.wrap ((i : Int) + 1) = (i : Int) + 1 := by rw [IntKind.wrap_i64]; omega
  have q3 : (0 : Int) ≤ (i : Int) + 1 := by omega
  have q4 : (i : Int) + 1 ≤ (len : Int) + 1 := by omega
  have q5 : (i : Int) ≤ (len : Int) + 1 := by omega
  go_enter Tryz.func136, Tryz.ntmps136
  go_wp2_with (first | (refine list_append rfl (.tmp 34) (.tmp 39) 22 3 rfl _ _ _ _ (by simp [Act.eval, Act.put]) (by simp [Act.eval, Act.put]) hap.out ?_) | (refine list_copy rfl (.tmp 43) (.tmp 44) 22 22 rfl _ _ _ _ (by simp [Act.eval, Act.put]) (by simp [Act.eval, Act.put]) hcp1.out ?_))
  go_region_law (refine step_copy rfl (.tmp 50) (.tmp 53) 22 22 rfl _ _ _ _ (by simp [Act.eval, Act.put]) (by simp [Act.eval, Act.put]) hcp2.out ?_)
  go_wp2_with fail
  go_ret
  exact ⟨rfl, rfl⟩
theorem insBodyI : Tryz.f136.body.isSome = true := by kernel_rfl
theorem insNameI : (Tryz.f136.name == "runtime.NumGoroutine") = false := by kernel_rfl
theorem ovNameI : (Tryz.f167.name == "runtime.NumGoroutine") = false := by kernel_rfl
theorem ovBodyI : Tryz.f167.body.isNone = true := by kernel_rfl
theorem ovNextI : Extern.findNext Tryz.f167 = none := by kernel_rfl
theorem ovFindI : Extern.find Tryz.f167 = some (Extern.SlicesOverlaps.overlaps Tryz.f167.params Tryz.f167.resultTypes) := by kernel_rfl
theorem ovParamI : Tryz.f167.params[0]? = some 22 := by kernel_rfl
theorem insZeroI : zeroOf Tryz.prog 3 = some [scv (.int .i64 0)] := by kernel_rfl
theorem insCI : InsC Tryz.prog 136 167 22 3 3 where
  body := ⟨_, Tryz.func136, insBodyI, insNameI⟩
  ht := Tryz.underlying22
  hti := Tryz.underlying3
  info := by
    obtain ⟨i0, h1, h2, h3, h4⟩ := info_parts infoInsI
    exact ⟨i0, .int .i64 0, h1, h3, by omega, h2, rfl, rfl⟩
  zero := ⟨_, insZeroI⟩
  endR := fun w w1 s len cap yb yo ycap v1 h1 h2 => ins_endI w w1 s len cap yb yo ycap v1 h1 h2
  ov := fun w yb yo ycap b o m c2 y vs et h1 h2 h3 h4 => by
    obtain ⟨i0, k1, k2, k3, k4⟩ := info_parts infoInsI
    rw [run_callFunc_extern Tryz.func167 ovNameI ovBodyI ovNextI ovFindI, overlaps_run ovParamI Tryz.underlying22 k1 k3 h1 h2 h3 h4]
    rfl
  roomR := fun w b len cap yb yo ycap i h1 h2 h3 w1 w2 k1 k2 k3 => ins_roomI w b len cap yb yo ycap i h1 h2 h3 w1 w2 k1 k2 k3
  growR := fun w b len cap yb yo ycap i sz cap2 h1 h2 h3 h4 h5 w1 w2 w3 k1 k2 k3 => ins_growI w b len cap yb yo ycap i sz cap2 h1 h2 h3 h4 h5 w1 w2 w3 k1 k2 k3
end Go.Proofs.YtcmeadgdojfhnaaGreatDoor
