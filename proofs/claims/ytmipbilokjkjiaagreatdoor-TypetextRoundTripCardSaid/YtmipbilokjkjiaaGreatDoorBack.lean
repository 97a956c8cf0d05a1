/-
  slices.Backward: what the iterator that it hands back does.
-/
import Derived.Test.YtmipbilokjkjiaaGreatDoorTab
import Derived.RangeFuncBox
import Derived.RangeFuncLeaves
import Derived.Shelf.Abstract
import Derived.WalkKit
import Derived.OwnWalkIn
import Derived.TacticsInMore
import Derived.LoopNIn
import Derived.LoopIn
set_option linter.unusedSimpArgs false
set_option linter.unusedVariables false
namespace Go.Proofs.YtmipbilokjkjiaaGreatDoor
open Go.Tel Go.RowKit Go.Shelf
attribute [local go_sem] Oper.semAt_some
set_option maxRecDepth 100000 in
set_option maxHeartbeats 4000000 in
theorem backF_run (sz : Nat) (hsz : sizeA Tryz.prog 9 = some sz) (l b len cap : Nat) (base : Option Addr) (W : World) (J : Nat → World → Prop) (Jx : World → Prop) (hlen : len ≤ 1000000000000000000)
    (hcell : W.cell? ⟨b, 0, none⟩ = some (.slice base len cap))
    (hround : ∀ j W1, j < len → J (j + 1) W1 → W1.cell? ⟨b, 0, none⟩ = some (.slice base len cap) ∧ ∃ bb o x, base = some ⟨bb, o, none⟩ ∧ (∀ q, q < sz → ∃ v, W1.cell? ⟨bb, o + j * sz + q, none⟩ = some v) ∧ (Instr.loadAt 9 (.pointer (some ⟨bb, o + j * sz, none⟩))).run Tryz.prog W1 = .ok x W1 ∧
      YieldAt (FW none) 0 Tryz.prog l #[.int .i64 j, x] W1 fun e W' => (e = .returned (.bool true) ∧ J j W') ∨ (e = .returned (.bool false) ∧ Jx W'))
    (h0 : J len W) :
    CallsIn (FW none) 0 Tryz.prog 116 #[.func (.yield l) #[] #[], .pointer (some ⟨b, 0, none⟩)] W fun e W' => (∃ v, e = .returned v) ∧ (J 0 W' ∨ Jx W') := by
  have hro : (FW none).round = none := rfl
  obtain rfl : sz = 1 := (aLs0036 (hsz.symm.trans (show sizeA Tryz.prog 9 = some 1 by kernel_rfl)))
  refine callsIn_of_wp Tryz.func116 rfl aLs0000 ?_ hro
  simp only [Tryz.ntmps116, List.size_toArray, aLs0010, aLs0020, Nat.reduceAdd, Nat.reduceSub, Array.replicate_succ, Array.replicate_zero, List.push_toArray, List.append_toArray, aLs0041, aLs0037]
  gi_wp2
  gi_loopw [3] (fun i wr => ∃ k : Nat, k ≤ len ∧ i = .int .i64 ((k : Int) - 1) ∧ J k wr)
    (fun i _ => (intOf i + 1).toNat)
  case atStart => exact ⟨len, aLs0005 _, by simp, h0⟩
  case round =>
    obtain ⟨k, hk, rfl, hJs⟩ := hrel
    cases k with
    | zero =>
      gi_wp2
      go_end0
      exact ⟨⟨_, rfl⟩, .inl hJs⟩
    | succ k =>
      obtain ⟨hc, bb, o, x, rfl, hcs, hx, fn, tmps, assign, body, hy, hR⟩ := hround k wr (by omega) hJs
      have hk1 : ((k + 1 : Nat) : Int) - 1 = k := by omega
      simp only [hk1] at *
      obtain ⟨v0, c0⟩ := hcs 0 (by omega)
      clear hcs hround
      simp only [aLs0082, Nat.mul_one] at c0 hx hR
      obtain rfl : x = v0 := by
        have hx' := loadAt_str (P := Tryz.prog) (w := wr) (b := bb) (o := o + k) Tryz.underlying9 c0
        rw [hx'] at hx
        simpa using hx.symm
      clear hx
      gi_wp2
      refine ⟨rfl, hR.mono ?_⟩
      rintro e W3 (⟨rfl, hJ3⟩ | ⟨rfl, hJx3⟩)
      · gi_wp2
        go_roundw
        case rel => exact ⟨k, by omega, by simp, hJ3⟩
        case measure => simp [intOf]
      · gi_wp2
        refine bodyPost_ret (results_none rfl _ _ _) rfl ?_
        exact ⟨⟨_, rfl⟩, .inr hJx3⟩
theorem backBody : Tryz.f116.body.isSome = true := by kernel_rfl
theorem backName : (Tryz.f116.name == "runtime.NumGoroutine") = false := by kernel_rfl
theorem backF : BackC Tryz.prog 116 9 := ⟨⟨Tryz.f116, Tryz.func116, backBody, backName⟩, backF_run⟩
end Go.Proofs.YtmipbilokjkjiaaGreatDoor
