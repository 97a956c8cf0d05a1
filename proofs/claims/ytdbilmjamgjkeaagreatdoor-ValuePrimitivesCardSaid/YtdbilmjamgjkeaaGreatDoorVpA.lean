/-
  ValuePrimitives: the contract. For every start in which the listed variables hold what the program's text lays, and for every input, the call returns true.
-/
import Derived.Test.YtdbilmjamgjkeaaGreatDoorCards
import Derived.Test.YtdbilmjamgjkeaaGreatDoorTie
import Derived.Test.YtdbilmjamgjkeaaGreatDoorGood
import Derived.Test.YtdbilmjamgjkeaaGreatDoorGlob
import Derived.Test.YtdbilmjamgjkeaaGreatDoorVc
import Derived.Test.YtdbilmjamgjkeaaGreatDoorCk
import Derived.Test.YtdbilmjamgjkeaaGreatDoorWvF
import Derived.ProofKit
import Derived.OpenShut
import Derived.Deep.DeepHandedRow
import Derived.Deep.DeepWitnessRowRef
import Derived.LaidMore
import Derived.LaidHandle
set_option linter.unusedSimpArgs false
set_option linter.unusedVariables false
namespace Go.Proofs.YtdbilmjamgjkeaaGreatDoor.valuePrimitives
open Go.ChangeShapes Go.WideShapes Go.ChangeAt Go.RowKit Go.Tel

theorem own : ownKnob Tryz.prog.godebug = none := by kernel_rfl
theorem cells3 : Tryz.prog.cellsOf 3 = 1 := by kernel_rfl
theorem bytes3 : Tryz.prog.bytesOf 3 = 8 := by kernel_rfl

theorem check_spec : PureC env 16 [] fun v => v = BB true :=
  ⟨_, rfl, fun L s => CallE.of_some (callN_pure (args' := []) (by kernel_rfl) (by kernel_rfl) (by simp [closeL]) rfl check_ev L s)⟩

set_option maxRecDepth 100000 in
theorem contract (H : Type) (enc : TypeId × Value → H) (W : World) (base : Nat) (args : Array Value) (ds gs : List (DataW H)) (before : List MemPlace)
    (hval : ∀ (j : Nat) t v, Tryz.f3.params[j]? = some t → args[j]? = some v → Value.okWide Tryz.prog W .any base t v)
    (hW : DataW.Whole enc Tryz.prog Tryz.f3.params.toList Rows.valuePrimitivesSpec.vars false W args.toList ds gs before) (hL : laidMetH Tryz.prog Rows.valuePrimitivesRow.laid W)
    (hsz : (DataW.weightsEach Tryz.prog (Tryz.f3.params.toList ++ (OpenSpec.ofChange Rows.valuePrimitivesSpec).bare.plain.varTypes Tryz.prog) (ds ++ gs)).all (· ≤ reachBytes) = true) :
    Calls Tryz.prog 3 args W fun e W' => ∃ v, e = .returned v ∧ Rows.valuePrimitivesSpec.post enc Tryz.prog Tryz.f3 false true false false W args v W' := by
  have hW' := hW
  obtain ⟨p, q, hA0, hV, rfl, hfz, hnd⟩ := hW
  have hA : DataW.TrodAll enc Tryz.prog W 0 (fun _ => true) true Tryz.f3.params.toList args.toList ds p := hA0
  rw [Tryz.params3] at hA hval hsz
  obtain ⟨v0, vs0, d0, ds0, p0, q0, hargs0, rfl, rfl, h0, r0⟩ := trodAll_cons hA
  obtain ⟨v1, vs1, d1, ds1, p1, q1, hargs1, rfl, rfl, h1, r1⟩ := trodAll_cons r0
  obtain ⟨v2, vs2, d2, ds2, p2, q2, hargs2, rfl, rfl, h2, r2⟩ := trodAll_cons r1
  obtain ⟨v3, vs3, d3, ds3, p3, q3, hargs3, rfl, rfl, h3, r3⟩ := trodAll_cons r2
  obtain ⟨v4, vs4, d4, ds4, p4, q4, hargs4, rfl, rfl, h4, r4⟩ := trodAll_cons r3
  obtain ⟨v5, vs5, d5, ds5, p5, q5, hargs5, rfl, rfl, h5, r5⟩ := trodAll_cons r4
  obtain ⟨rfl, rfl, rfl⟩ := trodAll_nil r5
  obtain rfl : args = #[v0, v1, v2, v3, v4, v5] := by cases args; simp_all
  obtain ⟨rfl, rfl⟩ := trodVars_none hV
  obtain ⟨n0, e0, V0, _, T0⟩ := int_arg Tryz.underlying3 (hval 0 3 v0 rfl rfl) h0
  obtain ⟨zs, V1, T1, B1⟩ := ints_arg Tryz.underlying22 Tryz.underlying3 cells3 bytes3 (hval 1 22 v1 rfl rfl) h1
  obtain ⟨n2, e2, V2, _, T2⟩ := int_arg Tryz.underlying2 (hval 2 2 v2 rfl rfl) h2
  obtain ⟨n3, e3, V3, _, T3⟩ := int_arg Tryz.underlying2 (hval 3 2 v3 rfl rfl) h3
  obtain ⟨s4, e4, V4, T4, B4⟩ := str_arg Tryz.underlying9 (hval 4 9 v4 rfl rfl) h4
  obtain ⟨s5, e5, V5, T5, B5⟩ := str_arg Tryz.underlying9 (hval 5 9 v5 rfl rfl) h5
  simp only [List.cons_append, List.nil_append, DataW.weightsEach, List.all_append, Bool.and_eq_true] at hsz
  obtain ⟨_, w1, _, _, w4, w5, _⟩ := hsz
  clear hA0
  simp only [List.append_nil] at hW'
  obtain ⟨v, rfl, hc⟩ := law_spec check_spec n0 zs (B1 w1) n2 n3 _ _ (B4 w4) (B5 w5)
  have hargs : VL (Ghost.bare fun b _ => b < W.heap.size) W [I64 n0, .pv (.list (intRows zs)), I64 n2, I64 n3, SS s4.data.toList, SS s5.data.toList] [v0, v1, v2, v3, v4, v5] :=
    .cons V0 (.cons V1 (.cons V2 (.cons V3 (.cons V4 (.cons V5 .nil)))))
  refine (callE_calls good (globsVp hL) hargs (hc L0 ⟨[], []⟩)).mono fun e W' ⟨he, hg⟩ => ?_
  subst he
  refine ⟨_, rfl, post_of_still (pv := []) hW' (fun _ _ _ => trodAll_cons_mk (shut_bool Tryz.underlying4 _) trodAll_mk0)
    (fun sp hsp => trodAll_cons_mk (T0 W' sp) (trodAll_cons_mk (T1 W' hg sp fun x hx => hsp x (by simp [hx])) (trodAll_cons_mk (T2 W' sp) (trodAll_cons_mk (T3 W' sp) (trodAll_cons_mk (T4 W' sp) (trodAll_cons_mk (T5 W' sp) trodAll_mk0))))))
    (fun _ _ => rfl) (by simp) hg (ok_one (by kernel_rfl) rfl (okWide_bool_mk Tryz.underlying4 _))⟩

def start : Array Value := #[.int .i64 0, .slice none 0 0, .int .i64 0, .int .i64 0, .string .empty, .string .empty]

set_option maxRecDepth 100000 in
/-- A start that meets the condition: the heap that the door's own run leaves. -/
theorem laid_met (os : Os) : laidMet Tryz.prog Rows.valuePrimitivesRow.laid ((World.doorLaid Tryz.prog 87 os).forCall (fun _ _ => 0) ⟨#[], start, []⟩).memory :=
  laidMet_of_run' 8 (by kernel_rfl) (by kernel_rfl)
set_option maxRecDepth 100000 in
theorem laid_metH (os : Os) : laidMetH Tryz.prog Rows.valuePrimitivesRow.laid ((World.doorLaid Tryz.prog 87 os).forCall (fun _ _ => 0) ⟨#[], start, []⟩).memory := by
  rw [MakeChecks.laidMetH_plain _ _ _ (by kernel_rfl)]
  exact laid_met os
theorem reads (os : Os) {H : Type} (enc : TypeId × Value → H) : ∃ places, DataW.whole enc Tryz.prog ((World.doorLaid Tryz.prog 87 os).forCall (fun _ _ => 0) ⟨#[], start, []⟩).memory Tryz.f3.params.toList Rows.valuePrimitivesSpec.vars false start.toList 8 =
    some ([.lit (.int .i64 0), .nil, .lit (.int .i64 0), .lit (.int .i64 0), .lit (.string []), .lit (.string [])], [], places) :=
  ⟨[], by kernel_rfl⟩

set_option maxRecDepth 100000 in
theorem lifted (os : Os) (started : os.Started) (H : Type) (enc : TypeId × Value → H) (F : Stop.Interp) :
    ReturnsInHanded {} Tryz.checked os 3 .any ((OpenSpec.ofChange Rows.valuePrimitivesSpec).preRow enc Tryz.prog Tryz.f3 Rows.valuePrimitivesRow.domain false Rows.valuePrimitivesRow.laid) (((OpenSpec.ofChange Rows.valuePrimitivesSpec).at F).post enc Tryz.prog Tryz.f3 false true false false) := by
  obtain ⟨places, hx⟩ := reads os enc
  refine returnsInHanded_of_row (C := Tryz.checked) (s := OpenSpec.ofChange Rows.valuePrimitivesSpec) own started (by kernel_rfl) Tryz.func3
    (witness_row_atRef (enc := enc) (C := Tryz.checked) false (World.doorLaid Tryz.prog 87 os) start rfl (by kernel_rfl) (by kernel_rfl) (by kernel_rfl)
      (OpenSpec.preRow_of_cond 8 hx (by kernel_rfl) (fun k hk => by cases hk) (by kernel_rfl) (laid_metH os))) ?_
  intro W base args ds gs before hval hW _ _ hsz hL _ _
  exact contract H enc W base args ds gs before hval hW hL hsz

end Go.Proofs.YtdbilmjamgjkeaaGreatDoor.valuePrimitives
