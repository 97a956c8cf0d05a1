/-
  ValueLimits: Repeat, Mod.
-/
import Derived.Test.YtpmafnbhkhdaiaaGreatDoorL3
set_option linter.unusedSimpArgs false
set_option linter.unusedVariables false
namespace Go.Proofs.YtpmafnbhkhdaiaaGreatDoor
open Go.Tel
theorem tmod_gt (a : Int) {b : Int} (hb : 0 < b) : -b < a.tmod b := by
  by_cases ha : 0 ≤ a
  · have := Int.tmod_nonneg b ha
    omega
  · have h1 : (-a).tmod b < b := Int.tmod_lt_of_pos _ hb
    have h2 := Int.neg_tmod a b
    omega
section
variable {R : Nat → Option (List PV)}
theorem mod_spec (a b : Int) (hb : 0 < b) (hb2 : b < 2 ^ 62) : PureC (env R) 8 [I64 a, I64 b] fun v => ∃ r, v = I64 r ∧ 0 ≤ r ∧ r < b := by
  refine e8 rfl (p8_0 ?_)
  have h1 := Int.tmod_lt_of_pos a hb
  have h2 := tmod_gt a hb
  simp only [wInt, wCond]
  refine ⟨⟨trivial, trivial⟩, by omega, ⟨trivial, trivial⟩, fun h => ?_, fun h => ?_⟩
  · simp at h
    refine ⟨⟨trivial, trivial⟩, wAri_fit (by omega) (by omega) (p8_1 ?_)⟩
    exact ⟨_, clP, _, rfl, by omega, by omega⟩
  · simp at h
    refine p8_1 ?_
    exact ⟨_, clP, _, rfl, by omega, by omega⟩
def bRow (c : UInt8) : List PV := [.sc (.int .u8 c.toNat)]
theorem bytes_rep (c : UInt8) (q : Nat) : sliceBytes ⟨[], [(q, 5)]⟩ (.own 0 (List.replicate q (bRow c))) = some (List.replicate q c) := by
  have h1 : srcCells ⟨[], [(q, 5)]⟩ 1 (.own 0 (List.replicate q (bRow c))) = some (List.replicate q (.pv (.sc (.int .u8 c.toNat)))) := by
    have e : ((List.replicate q (bRow c)).all fun r => r.length == 1) = true := by
      rw [List.all_eq_true]
      intro r hr
      rw [(List.mem_replicate.1 hr).2]
      rfl
    simp only [srcCells, rowsOf, e, if_true]
    congr 1
    induction q with
    | zero => rfl
    | succ q ih =>
      rw [List.replicate_succ, List.flatten_cons, List.map_append, ih (by
        rw [List.all_eq_true]
        intro r hr
        rw [(List.mem_replicate.1 hr).2]
        rfl), List.replicate_succ]
      rfl
  unfold sliceBytes
  simp only [h1]
  clear h1
  induction q with
  | zero => rfl
  | succ q ih =>
    rw [List.replicate_succ, List.replicate_succ, cellBytes, ih]
    simp
theorem repeat_loop (c : UInt8) {n : Nat} (hn : n ≤ 2000) {Post : AV → Prop} (hP : Post (SS (List.replicate n c))) :
    ∀ (j q : Nat), q + j = n → P10_1 R 0 0 0 (SS [c]) (I64 n) (.own 0 (List.replicate q (bRow c))) (I64 q) ⟨[], [(q, 5)]⟩ (QP Post) := by
  intro j
  induction j with
  | zero =>
    intro q hq
    refine p10_1 (in_lss ?_)
    rw [decide_eq_false (by omega)]
    refine co_f (p10_3 ?_)
    rw [bytes_rep]
    obtain rfl : q = n := by omega
    exact ⟨_, clP, hP⟩
  | succ j ih =>
    intro q hq
    refine p10_1 (in_lss ?_)
    rw [decide_eq_true (by omega)]
    refine co_t (p10_2 ⟨⟨rfl, by decide⟩, ?_⟩)
    have e : List.replicate q (bRow c) ++ [bRow c] = List.replicate (q + 1) (bRow c) := by rw [List.replicate_succ' (n := q)]
    have ha : ((List.replicate q (bRow c)).all fun r => r.length == 1) = true := by
      rw [List.all_eq_true]
      intro r hr
      rw [(List.mem_replicate.1 hr).2]
      rfl
    have e0 : srcCells ⟨[], [(q, 5)]⟩ 1 (SS [c]) = some [.pv (.sc (.int .u8 c.toNat))] := rfl
    unfold wApp
    rw [e0]
    simp only [wO, List.length_cons, List.length_nil, Nat.zero_add, Nat.div_one, List.length_replicate]
    refine ⟨rfl, ⟨by omega, by omega, rfl, Nat.zero_le _, ha⟩, ?_⟩
    show P10_4 R 0 0 0 (SS [c]) (I64 n) (.own 0 (List.replicate q (bRow c) ++ [bRow c])) (I64 q) ⟨[], [(q + 1, 5)]⟩ (QP Post)
    rw [e]
    refine p10_4 (in_add (by omega) (by omega) ?_)
    exact ih (q + 1) (by omega)
theorem max_1 (R : Nat → Option (List PV)) : opA (env R) (LFE (env R) 10 0 0 0) (fun _ => I64 (1997 : Nat)) ⟨[], []⟩ (opOf (sub b10 [1, 0]) 3) = some (I64 (1997 : Nat), ⟨[], []⟩) := by kernel_rfl
theorem max_2 (R : Nat → Option (List PV)) : opA (env R) (LFE (env R) 10 0 0 0) (fun _ => I64 (2 : Nat)) ⟨[], []⟩ (opOf (sub b10 [1, 0]) 3) = some (I64 (2 : Nat), ⟨[], []⟩) := by kernel_rfl
theorem max_3 (R : Nat → Option (List PV)) : opA (env R) (LFE (env R) 10 0 0 0) (fun _ => I64 (3 : Nat)) ⟨[], []⟩ (opOf (sub b10 [1, 0]) 3) = some (I64 (3 : Nat), ⟨[], []⟩) := by kernel_rfl
theorem max_4 (R : Nat → Option (List PV)) : opA (env R) (LFE (env R) 10 0 0 0) (fun _ => I64 (4 : Nat)) ⟨[], []⟩ (opOf (sub b10 [1, 0]) 3) = some (I64 (4 : Nat), ⟨[], []⟩) := by kernel_rfl
theorem max_all (R : Nat → Option (List PV)) {n : Nat} (hn : n = 1997 ∨ n = 2 ∨ n = 3 ∨ n = 4) : opA (env R) (LFE (env R) 10 0 0 0) (fun _ => I64 n) ⟨[], []⟩ (opOf (sub b10 [1, 0]) 3) = some (I64 n, ⟨[], []⟩) := by
  rcases hn with rfl | rfl | rfl | rfl
  · exact max_1 R
  · exact max_2 R
  · exact max_3 R
  · exact max_4 R
theorem max_ev (R : Nat → Option (List PV)) {n : Nat} (hn : n = 1997 ∨ n = 2 ∨ n = 3 ∨ n = 4) {lk : Lk} (h9 : lk 9 = some (I64 n)) {K : AV → Sto → Prop} (hK : K (I64 n) ⟨[], []⟩) : wAnyT (env R) (LFE (env R) 10 0 0 0) ⟨[], []⟩ lk (opOf (sub b10 [1, 0]) 3) K := by
  refine ⟨I64 n, ⟨[], []⟩, fun ρ hA => ?_, hK⟩
  have ho : (opOf (sub b10 [1, 0]) 3).op.operands.toList = [.tmp 9, .const (.int .i64 0)] := by kernel_rfl
  have e := opA_congr (E := env R) (L := LFE (env R) 10 0 0 0) (s := ⟨[], []⟩) (o := opOf (sub b10 [1, 0]) 3) (ρ := ρ) (ρ' := fun _ => I64 n) (fun x hx => by
    have hx' : x ∈ (opOf (sub b10 [1, 0]) 3).op.operands.toList := by simpa using hx
    rw [ho] at hx'
    simp only [List.mem_cons, List.not_mem_nil, or_false] at hx'
    rcases hx' with rfl | rfl
    · exact hA 9 _ h9
    · rfl)
  rw [e]
  exact max_all R hn
set_option maxRecDepth 100000 in
theorem repeat_spec (c : UInt8) {n : Nat} (hn : n = 1997 ∨ n = 2 ∨ n = 3 ∨ n = 4) : PureC (env R) 10 [SS [c], I64 n] fun r => r = SS (List.replicate n c) := by
  refine e10 rfl (p10_0 (sln ?_))
  have hl : n ≤ 2000 := by omega
  have hm : makeSliceA (env R).P ⟨[], []⟩ 70 (I64 0) (I64 (1 * (n : Int))) = some (.own 0 [], ⟨[], [(0, 5)]⟩) := by
    rcases hn with rfl | rfl | rfl | rfl <;> kernel_rfl
  refine max_ev R hn rfl ?_
  show wInt .i64 .mul (I64 1) (I64 n) _
  refine ⟨⟨rfl, rfl⟩, wAri_fit (by omega) (by omega) ?_⟩
  show wO (makeSliceA (env R).P ⟨[], []⟩ 70 (I64 0) (I64 (1 * (n : Int)))) _
  rw [hm]
  exact repeat_loop (Post := fun r => r = SS (List.replicate n c)) c hl rfl n 0 (by omega)
end
end Go.Proofs.YtpmafnbhkhdaiaaGreatDoor
