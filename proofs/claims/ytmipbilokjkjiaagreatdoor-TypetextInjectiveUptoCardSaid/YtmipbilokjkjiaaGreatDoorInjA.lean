/-
  TypetextInjectiveUpto: the contract. For every start in which the listed variables hold what the program's text lays, and for every input, the call returns true.
-/
import Derived.Test.YtmipbilokjkjiaaGreatDoorCards
import Derived.Test.YtmipbilokjkjiaaGreatDoorTie
import Derived.Test.YtmipbilokjkjiaaGreatDoorGood
import Derived.Test.YtmipbilokjkjiaaGreatDoorGlobInj
import Derived.Test.YtmipbilokjkjiaaGreatDoorGB
import Derived.Test.YtmipbilokjkjiaaGreatDoorCk
import Derived.Test.YtmipbilokjkjiaaGreatDoorWvF
import Derived.Test.YtmipbilokjkjiaaGreatDoorWpW
import Derived.ProofKit
import Derived.OpenShut
import Derived.Deep.DeepHandedRow
import Derived.Deep.DeepWitnessRowRef
import Derived.LaidMore
import Derived.LaidHandle
set_option linter.unusedSimpArgs false
set_option linter.unusedVariables false
namespace Go.Proofs.YtmipbilokjkjiaaGreatDoor.typetextInjectiveUpto
open Go.ChangeShapes Go.WideShapes Go.ChangeAt Go.RowKit Go.Tel
theorem up_one {H : Type} (d : DataW H) : 1 ≤ Rows.uptoBulk d := by
  cases d with
  | lit l => cases l <;> simp [Rows.uptoBulk]
  | nil => simp [Rows.uptoBulk]
  | ptr d => simp [Rows.uptoBulk]
  | slice elems spare => simp [Rows.uptoBulk]
  | agg parts => simp [Rows.uptoBulk]
  | iface t d => simp [Rows.uptoBulk]
  | map entries => simp [Rows.uptoBulk]
  | held h => simp [Rows.uptoBulk]
theorem up_part {H : Type} {d : DataW H} : ∀ {l : List (DataW H)}, d ∈ l → Rows.uptoBulk d ≤ Rows.uptoBulkAll l
  | [], h => by cases h
  | x :: r, h => by
    simp only [Rows.uptoBulkAll]
    rcases List.mem_cons.1 h with rfl | h
    · omega
    · have := up_part h
      omega
theorem up_count {H : Type} : ∀ (l : List (DataW H)), l.length ≤ Rows.uptoBulkAll l
  | [] => by simp [Rows.uptoBulkAll]
  | x :: r => by
    have := up_one x
    have := up_count r
    simp only [Rows.uptoBulkAll, List.length_cons]
    omega
theorem up_len {H : Type} {l : List (DataW H)} (hk : Rows.uptoSmall H l = true) {d : DataW H} (hd : d ∈ l) {zs : List Int} (hz : zs = [] ∨ ∃ el sp, d = .slice el sp ∧ zs.length ≤ el.length) : zs.length ≤ 2 ^ 20 := by
  rcases hz with rfl | ⟨el, sp, rfl, h⟩
  · simp
  · have h1 := up_part hd
    have h2 := up_count el
    have h3 := of_decide_eq_true hk
    simp only [Rows.uptoBulk] at h1
    omega
theorem own : ownKnob Tryz.prog.godebug = none := by kernel_rfl
theorem cellsI : Tryz.prog.cellsOf 3 = 1 := by kernel_rfl
theorem bytesI : Tryz.prog.bytesOf 3 = 8 := by kernel_rfl
theorem check_spec : PureC (env RInj) 11 [] fun v => v = BB true :=
  ⟨_, rfl, fun L s => CallE.of_some (callN_pure (args' := []) (by kernel_rfl) (by kernel_rfl) (by simp [closeL]) rfl check_ev L s)⟩
set_option maxRecDepth 100000 in
theorem contract (H : Type) (enc : TypeId × Value → H) (W : World) (base : Nat) (args : Array Value) (ds gs : List (DataW H)) (before : List MemPlace)
    (hval : ∀ (j : Nat) t v, Tryz.f6.params[j]? = some t → args[j]? = some v → Value.okWide Tryz.prog W .any base t v)
    (hW : DataW.Whole enc Tryz.prog Tryz.f6.params.toList Rows.typetextInjectiveSpec.vars false W args.toList ds gs before) (hL : laidMetH Tryz.prog Rows.typetextInjectiveUptoRow.laid W)
    (hsz : (DataW.weightsEach Tryz.prog (Tryz.f6.params.toList ++ (Rows.OpenSpec.upto Rows.typetextInjectiveSpec).bare.plain.varTypes Tryz.prog) (ds ++ gs)).all (· ≤ reachBytes) = true)
    (hk : Rows.uptoSmall H (ds ++ gs) = true) :
    Calls Tryz.prog 6 args W fun e W' => ∃ v, e = .returned v ∧ Rows.typetextInjectiveSpec.post enc Tryz.prog Tryz.f6 false true false false W args v W' := by
  have hW' := hW
  obtain ⟨p, q, hA0, hV, rfl, hfz, hnd⟩ := hW
  have hA : DataW.TrodAll enc Tryz.prog W 0 (fun _ => true) true Tryz.f6.params.toList args.toList ds p := hA0
  rw [Tryz.params6] at hA hval hsz
  obtain ⟨v0, vs0, d0, ds0, p0, q0, hargs0, rfl, rfl, h0, r0⟩ := trodAll_cons hA
  obtain ⟨v1, vs1, d1, ds1, p1, q1, hargs1, rfl, rfl, h1, r1⟩ := trodAll_cons r0
  obtain ⟨v2, vs2, d2, ds2, p2, q2, hargs2, rfl, rfl, h2, r2⟩ := trodAll_cons r1
  obtain ⟨rfl, rfl, rfl⟩ := trodAll_nil r2
  obtain rfl : args = #[v0, v1, v2] := by cases args; simp_all
  obtain ⟨rfl, rfl⟩ := trodVars_none hV
  obtain ⟨zs0, V0, T0, B0, U0⟩ := ints_argU Tryz.underlying22 Tryz.underlying3 cellsI bytesI (hval 0 22 v0 rfl rfl) h0
  obtain ⟨zs1, V1, T1, B1, U1⟩ := ints_argU Tryz.underlying22 Tryz.underlying3 cellsI bytesI (hval 1 22 v1 rfl rfl) h1
  obtain ⟨n2, e2, V2, _, T2⟩ := int_arg Tryz.underlying3 (hval 2 3 v2 rfl rfl) h2
  simp only [List.cons_append, List.nil_append, DataW.weightsEach, List.all_append, Bool.and_eq_true] at hsz
  obtain ⟨w0, w1, w2, _⟩ := hsz
  clear hA0
  simp only [List.append_nil] at hW'
  obtain ⟨v, rfl, hc⟩ := law6_spec check_spec (W := tb4) rfl (by unfold Short; decide) (by decide) zs0 zs1 (Nat.le_trans (up_len hk (d := d0) (by simp) U0) (by decide)) (Nat.le_trans (up_len hk (d := d1) (by simp) U1) (by decide)) n2
  have hargs : VL (Ghost.bare fun b _ => b < W.heap.size) W [.pv (.list (intRows zs0)), .pv (.list (intRows zs1)), I64 n2] [v0, v1, v2] :=
    .cons V0 (.cons V1 (.cons V2 (.nil)))
  refine (callE_calls (good RInj) (globs hL) hargs (hc L0 ⟨[], []⟩)).mono fun e W' ⟨he, hg⟩ => ?_
  subst he
  refine ⟨_, rfl, post_of_still (pv := []) hW' (fun _ _ _ => trodAll_cons_mk (shut_bool Tryz.underlying4 _) trodAll_mk0)
    (fun sp hsp => trodAll_cons_mk (T0 W' hg sp fun x hx => hsp x (by simp [hx])) (trodAll_cons_mk (T1 W' hg sp fun x hx => hsp x (by simp [hx])) (trodAll_cons_mk (T2 W' sp) (trodAll_mk0))))
    (fun _ _ => rfl) (by simp) hg (ok_one (by kernel_rfl) rfl (okWide_bool_mk Tryz.underlying4 _))⟩
def start : Array Value := #[.slice none 0 0, .slice none 0 0, .int .i64 0]
set_option maxRecDepth 100000 in
theorem laid_met (os : Os) : laidMet Tryz.prog Rows.typetextInjectiveUptoRow.laid ((World.doorLaid Tryz.prog 64 os).forCall (fun _ _ => 0) ⟨#[], start, []⟩).memory :=
  laidMet_of_run' 8 (by kernel_rfl) (by kernel_rfl)
set_option maxRecDepth 100000 in
theorem laid_metH (os : Os) : laidMetH Tryz.prog Rows.typetextInjectiveUptoRow.laid ((World.doorLaid Tryz.prog 64 os).forCall (fun _ _ => 0) ⟨#[], start, []⟩).memory := by
  rw [MakeChecks.laidMetH_plain _ _ _ (by kernel_rfl)]
  exact laid_met os
theorem reads (os : Os) {H : Type} (enc : TypeId × Value → H) : ∃ places, DataW.whole enc Tryz.prog ((World.doorLaid Tryz.prog 64 os).forCall (fun _ _ => 0) ⟨#[], start, []⟩).memory Tryz.f6.params.toList Rows.typetextInjectiveSpec.vars false start.toList 8 =
    some ([.nil, .nil, .lit (.int .i64 0)], [], places) :=
  ⟨[], by kernel_rfl⟩
set_option maxRecDepth 100000 in
theorem lifted (os : Os) (started : os.Started) (H : Type) (enc : TypeId × Value → H) (F : Stop.Interp) :
    ReturnsInHanded {} Tryz.checked os 6 .any ((Rows.OpenSpec.upto Rows.typetextInjectiveSpec).preRow enc Tryz.prog Tryz.f6 Rows.typetextInjectiveUptoRow.domain false Rows.typetextInjectiveUptoRow.laid) (((Rows.OpenSpec.upto Rows.typetextInjectiveSpec).at F).post enc Tryz.prog Tryz.f6 false true false false) := by
  obtain ⟨places, hx⟩ := reads os enc
  refine returnsInHanded_of_row (C := Tryz.checked) (s := Rows.OpenSpec.upto Rows.typetextInjectiveSpec) own started (by kernel_rfl) Tryz.func6
    (witness_row_atRef (enc := enc) (C := Tryz.checked) false (World.doorLaid Tryz.prog 64 os) start rfl (by kernel_rfl) (by kernel_rfl) (by kernel_rfl)
      (OpenSpec.preRow_of_cond 8 hx (by kernel_rfl) (fun k hk => by cases hk; kernel_rfl) (by kernel_rfl) (laid_metH os))) ?_
  intro W base args ds gs before hval hW _ hcond hsz hL _ _
  exact contract H enc W base args ds gs before hval hW hL hsz (hcond _ rfl)
end Go.Proofs.YtmipbilokjkjiaaGreatDoor.typetextInjectiveUpto
