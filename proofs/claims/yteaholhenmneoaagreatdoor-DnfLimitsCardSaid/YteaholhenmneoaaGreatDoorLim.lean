/-
  DnfLimits: the card. For every two integers, and every start in which the listed variables hold what the program's text lays, the call returns true.
-/
import Derived.Test.YteaholhenmneoaaGreatDoorCards
import Derived.Test.YteaholhenmneoaaGreatDoorTie
import Derived.Test.YteaholhenmneoaaGreatDoorGood
import Derived.Test.YteaholhenmneoaaGreatDoorGlob
import Derived.Test.YteaholhenmneoaaGreatDoorLimB
import Derived.Test.YteaholhenmneoaaGreatDoorLimCx00
import Derived.Test.YteaholhenmneoaaGreatDoorLimCy00
import Derived.Test.YteaholhenmneoaaGreatDoorLimCx01
import Derived.Test.YteaholhenmneoaaGreatDoorLimCy01
import Derived.Test.YteaholhenmneoaaGreatDoorLimCz0
import Derived.Test.YteaholhenmneoaaGreatDoorLimCx10
import Derived.Test.YteaholhenmneoaaGreatDoorLimCy10
import Derived.Test.YteaholhenmneoaaGreatDoorLimCx11
import Derived.Test.YteaholhenmneoaaGreatDoorLimCy11
import Derived.Test.YteaholhenmneoaaGreatDoorLimCz1
import Derived.Test.YteaholhenmneoaaGreatDoorLimCx20
import Derived.Test.YteaholhenmneoaaGreatDoorLimCy20
import Derived.Test.YteaholhenmneoaaGreatDoorLimCx21
import Derived.Test.YteaholhenmneoaaGreatDoorLimCy21
import Derived.Test.YteaholhenmneoaaGreatDoorLimCz2
import Derived.ProofKit
import Derived.OpenShut
import Derived.Deep.DeepHandedRow
import Derived.Deep.DeepWitnessRowRef
import Derived.LaidMore
import Derived.LaidHandle
namespace Go.Proofs.YteaholhenmneoaaGreatDoor.dnfLimits
open Go.ChangeShapes Go.WideShapes Go.ChangeAt Go.RowKit Go.Tel

theorem own : ownKnob Tryz.prog.godebug = none := by kernel_rfl

theorem modCases (n : Int) : n % 3 = 0 ∨ n % 3 = 1 ∨ n % 3 = 2 := by omega
theorem modCases4 (n : Int) : n % 4 = 0 ∨ n % 4 = 1 ∨ n % 4 = 2 ∨ n % 4 = 3 := by omega

theorem ev (w n : Int) : ∃ d s, Told.Ok d ∧ bodyA env (cf w n d) 399 Tryz.f3 lim [scv (.int .i64 w), scv (.int .i64 n)] ⟨[], []⟩ = some (scv (.bool true), s) := by
  rcases modCases n with hr | hr | hr
  · rcases modCases4 w with hk | hk | hk | hk
    · obtain ⟨l1, l2, hd⟩ := told 0 (-1) 0 0 close00 x00 y00
      obtain ⟨s, hs⟩ := isTrueA_some (tail00 w n l1 l2)
      exact ⟨_, s, hd, by rw [body _ w n 0 (-1) 0 hr hk (sub0 _ w n)]; exact hs⟩
    · obtain ⟨l1, l2, hd⟩ := told 0 (-1) 1 0 close01 x01 y01
      obtain ⟨s, hs⟩ := isTrueA_some (tail01 w n l1 l2)
      exact ⟨_, s, hd, by rw [body _ w n 0 (-1) 1 hr hk (sub0 _ w n)]; exact hs⟩
    · obtain ⟨l1, l2, hd⟩ := told 0 (-1) 2 0 close02 x02 y02
      obtain ⟨s, hs⟩ := isTrueA_some (tail02 w n l1 l2)
      exact ⟨_, s, hd, by rw [body _ w n 0 (-1) 2 hr hk (sub0 _ w n)]; exact hs⟩
    · obtain ⟨l1, l2, hd⟩ := told 0 (-1) 3 0 close03 x03 y03
      obtain ⟨s, hs⟩ := isTrueA_some (tail03 w n l1 l2)
      exact ⟨_, s, hd, by rw [body _ w n 0 (-1) 3 hr hk (sub0 _ w n)]; exact hs⟩
  · rcases modCases4 w with hk | hk | hk | hk
    · obtain ⟨l1, l2, hd⟩ := told 1 0 0 0 close10 x10 y10
      obtain ⟨s, hs⟩ := isTrueA_some (tail10 w n l1 l2)
      exact ⟨_, s, hd, by rw [body _ w n 1 0 0 hr hk (sub1 _ w n)]; exact hs⟩
    · obtain ⟨l1, l2, hd⟩ := told 1 0 1 0 close11 x11 y11
      obtain ⟨s, hs⟩ := isTrueA_some (tail11 w n l1 l2)
      exact ⟨_, s, hd, by rw [body _ w n 1 0 1 hr hk (sub1 _ w n)]; exact hs⟩
    · obtain ⟨l1, l2, hd⟩ := told 1 0 2 0 close12 x12 y12
      obtain ⟨s, hs⟩ := isTrueA_some (tail12 w n l1 l2)
      exact ⟨_, s, hd, by rw [body _ w n 1 0 2 hr hk (sub1 _ w n)]; exact hs⟩
    · obtain ⟨l1, l2, hd⟩ := told 1 0 3 0 close13 x13 y13
      obtain ⟨s, hs⟩ := isTrueA_some (tail13 w n l1 l2)
      exact ⟨_, s, hd, by rw [body _ w n 1 0 3 hr hk (sub1 _ w n)]; exact hs⟩
  · rcases modCases4 w with hk | hk | hk | hk
    · obtain ⟨l1, l2, hd⟩ := told 2 1 0 4 close20 x20 y20
      obtain ⟨s, hs⟩ := isTrueA_some (tail20 w n l1 l2)
      exact ⟨_, s, hd, by rw [body _ w n 2 1 0 hr hk (sub2 _ w n)]; exact hs⟩
    · obtain ⟨l1, l2, hd⟩ := told 2 1 1 4 close21 x21 y21
      obtain ⟨s, hs⟩ := isTrueA_some (tail21 w n l1 l2)
      exact ⟨_, s, hd, by rw [body _ w n 2 1 1 hr hk (sub2 _ w n)]; exact hs⟩
    · obtain ⟨l1, l2, hd⟩ := told 2 1 2 4 close22 x22 y22
      obtain ⟨s, hs⟩ := isTrueA_some (tail22 w n l1 l2)
      exact ⟨_, s, hd, by rw [body _ w n 2 1 2 hr hk (sub2 _ w n)]; exact hs⟩
    · obtain ⟨l1, l2, hd⟩ := told 2 1 3 4 close23 x23 y23
      obtain ⟨s, hs⟩ := isTrueA_some (tail23 w n l1 l2)
      exact ⟨_, s, hd, by rw [body _ w n 2 1 3 hr hk (sub2 _ w n)]; exact hs⟩

theorem fits : 2 ≤ Tryz.f3.ntmps := by
  rw [show Tryz.f3.ntmps = 117 by kernel_rfl]
  omega

theorem walk (w n : Int) {W : World} (h : laidMetH Tryz.prog Rows.dnfLimitsRow.laid W) : Calls Tryz.prog 3 #[.int .i64 w, .int .i64 n] W fun e w' => e = .returned (.bool true) ∧ Still W w' := by
  obtain ⟨d, s, hd, hs⟩ := ev w n
  exact body_calls (E := env) good (vs := [.int .i64 w, .int .i64 n]) (globs h) (cf_ok w n d hd lim) Tryz.func3 hc0 rfl fits hs

set_option maxRecDepth 100000 in
theorem contract (H : Type) (enc : TypeId × Value → H) (W : World) (base : Nat) (args : Array Value) (ds gs : List (DataW H)) (before : List MemPlace)
    (hval : ∀ (j : Nat) t v, Tryz.f3.params[j]? = some t → args[j]? = some v → Value.okWide Tryz.prog W .any base t v)
    (hW : DataW.Whole enc Tryz.prog Tryz.f3.params.toList Rows.dnfLimitsSpec.vars false W args.toList ds gs before) (hL : laidMetH Tryz.prog Rows.dnfLimitsRow.laid W) :
    Calls Tryz.prog 3 args W fun e W' => ∃ v, e = .returned v ∧ Rows.dnfLimitsSpec.post enc Tryz.prog Tryz.f3 false true false false W args v W' := by
  have hW' := hW
  obtain ⟨p, q, hA0, hV, rfl, hfz, hnd⟩ := hW
  have hA : DataW.TrodAll enc Tryz.prog W 0 (fun _ => true) true Tryz.f3.params.toList args.toList ds p := hA0
  rw [Tryz.params3] at hA hval
  obtain ⟨v0, vs0, d0, ds0, p0, q0, hargs, rfl, rfl, h0, r0⟩ := trodAll_cons hA
  obtain ⟨v1, vs1, d1, ds1, p1, q1, hargs1, rfl, rfl, h1, r1⟩ := trodAll_cons r0
  obtain ⟨rfl, rfl, rfl⟩ := trodAll_nil r1
  obtain rfl : args = #[v0, v1] := by cases args; simp_all
  obtain ⟨rfl, rfl⟩ := trodVars_none hV
  obtain ⟨x, rfl, rfl, rfl, wx⟩ := open_int Tryz.underlying3 (hval 0 3 v0 rfl rfl) h0
  obtain ⟨y, rfl, rfl, rfl, wy⟩ := open_int Tryz.underlying3 (hval 1 3 v1 rfl rfl) h1
  clear hA0
  simp only [List.append_nil] at hW'
  refine (walk x y hL).mono fun e W' ⟨he, hg⟩ => ?_
  subst he
  exact ⟨_, rfl, post_of_still (pa := []) (pv := []) hW' (fun _ _ _ => trodAll_cons_mk (shut_bool Tryz.underlying4 _) trodAll_mk0) (fun _ _ => trodAll_cons_mk (shut_int Tryz.underlying3 wx) (trodAll_cons_mk (shut_int Tryz.underlying3 wy) trodAll_mk0)) (fun _ _ => rfl) rfl
    hg (ok_one (by kernel_rfl) rfl (okWide_bool_mk Tryz.underlying4 _))⟩

set_option maxRecDepth 100000 in
/-- A start that meets the condition: the heap that the door's own run leaves. -/
theorem laid_met (os : Os) : laidMet Tryz.prog Rows.dnfLimitsRow.laid ((World.doorLaid Tryz.prog 65 os).forCall (fun _ _ => 0) ⟨#[], #[.int .i64 0, .int .i64 0], []⟩).memory :=
  laidMet_of_run' 8 (by kernel_rfl) (by kernel_rfl)
set_option maxRecDepth 100000 in
theorem laid_metH (os : Os) : laidMetH Tryz.prog Rows.dnfLimitsRow.laid ((World.doorLaid Tryz.prog 65 os).forCall (fun _ _ => 0) ⟨#[], #[.int .i64 0, .int .i64 0], []⟩).memory := by
  rw [MakeChecks.laidMetH_plain _ _ _ (by kernel_rfl)]
  exact laid_met os
theorem reads (os : Os) {H : Type} (enc : TypeId × Value → H) : ∃ places, DataW.whole enc Tryz.prog ((World.doorLaid Tryz.prog 65 os).forCall (fun _ _ => 0) ⟨#[], #[.int .i64 0, .int .i64 0], []⟩).memory Tryz.f3.params.toList Rows.dnfLimitsSpec.vars false (#[.int .i64 0, .int .i64 0] : Array Value).toList 8 = some ([.lit (.int .i64 0), .lit (.int .i64 0)], [], places) :=
  ⟨[], by kernel_rfl⟩

set_option maxRecDepth 100000 in
theorem lifted (os : Os) (started : os.Started) (H : Type) (enc : TypeId × Value → H) (F : Stop.Interp) :
    ReturnsInHanded {} Tryz.checked os 3 .any ((OpenSpec.ofChange Rows.dnfLimitsSpec).preRow enc Tryz.prog Tryz.f3 Rows.dnfLimitsRow.domain false Rows.dnfLimitsRow.laid) (((OpenSpec.ofChange Rows.dnfLimitsSpec).at F).post enc Tryz.prog Tryz.f3 false true false false) := by
  obtain ⟨places, hx⟩ := reads os enc
  refine returnsInHanded_of_row (C := Tryz.checked) (s := OpenSpec.ofChange Rows.dnfLimitsSpec) own started (by kernel_rfl) Tryz.func3
    (witness_row_atRef (enc := enc) (C := Tryz.checked) false (World.doorLaid Tryz.prog 65 os) #[.int .i64 0, .int .i64 0] rfl (by kernel_rfl) (by kernel_rfl) (by kernel_rfl)
      (OpenSpec.preRow_of_cond 8 hx (by kernel_rfl) (fun k hk => by cases hk) (by kernel_rfl) (laid_metH os))) ?_
  intro W base args ds gs before hval hW _ _ _ hL _ _
  exact contract H enc W base args ds gs before hval hW hL

theorem said : Rows.DnfLimitsSaid :=
  OpenClaim.holds_of_cond 3 Tryz.f3 rfl rfl rfl rfl rfl rfl rfl ⟨rfl, rfl, rfl, rfl, rfl⟩ rfl rfl rfl rfl rfl (by kernel_rfl) Tryz.func3 (by kernel_rfl)
    (of_decide_eq_true (by kernel_rfl)) (by unfold Func.isWrapper; first | (rw [if_pos (by decide +kernel)]; kernel_rfl) | (rw [if_neg (by decide +kernel)]; exact ⟨rfl, rfl⟩))
    (fun os started H enc _ F => by rw [OpenClaim.pre_eq_preRow]; exact lifted os started H enc F)

theorem plain (f : FuncId) (fn : Func) (hf : Tryz.pinned.checked.prog.funcNamed "telpher/tellaw4.DnfLimits" = some f) (hfn : Tryz.pinned.checked.prog.funcs[f]? = some fn) :
    true = Tryz.pinned.checked.prog.looks [] ∧ ∀ (j : Nat) t, fn.params[j]? = some t → Tryz.pinned.checked.prog.wantsStandIn t = false := by
  obtain rfl : f = 3 := Option.some.inj ((show Tryz.prog.funcNamed "telpher/tellaw4.DnfLimits" = some 3 by kernel_rfl).symm.trans hf) |>.symm
  obtain rfl : fn = Tryz.f3 := (Option.some.inj (Tryz.func3.symm.trans hfn)).symm
  refine ⟨by kernel_rfl, fun j t ht => ?_⟩
  rw [Tryz.params3] at ht
  obtain rfl : t = 3 := by simpa using Array.mem_of_getElem? ht
  exact (show Tryz.prog.wantsStandIn 3 = false by kernel_rfl)

theorem card : Rows.DnfLimitsCardSaid :=
  Claim7.holds_tied_plain_at .later [] _ _ _ _ said (fun _ h => by cases h) (by kernel_rfl) (fun _ h => by cases h) dnfLimits_row_tie rfl ⟨rfl, rfl⟩ (by kernel_rfl) rfl plain (by kernel_rfl)

end Go.Proofs.YteaholhenmneoaaGreatDoor.dnfLimits
