/-
  ValueLimits: a store with k objects.
-/
import Derived.Test.YtpmafnbhkhdaiaaGreatDoorL2
set_option linter.unusedSimpArgs false
set_option linter.unusedVariables false
namespace Go.Proofs.YtpmafnbhkhdaiaaGreatDoor
open Go.Tel
def objA : Nat → AV
  | 0 => .capped []
  | k + 1 => .own 12 (List.replicate (k + 1) dotRow)
def tsK : Nat → List (Nat × Nat)
  | 0 => tsH
  | k + 1 => tsH ++ [(k + 1, 83)]
def St (k : Nat) (x : List (List AV)) : Sto := ⟨hB0 :: hB1 :: hB2 :: [.ptr 1 0, objA k] :: x, tsK k⟩
theorem objs (R : Nat → Option (List PV)) : ∀ k, Objs R (objA k) (tsK k) k
  | 0 => ⟨conc0_ev R, flds0_ev R, eqf0_ev R, fun _ => rfl⟩
  | k + 1 => ⟨fun L rest => conc1_ev R L rest (k + 1), fun L rest => flds1_ev R L rest (k + 1), fun L rest => eqf1_ev R L rest (k + 1) _, fun _ => by simp [objA, lenA, rowsOf]⟩
theorem rep_all (n : Nat) : (List.replicate n dotRow).all (fun r => r.length == 5) = true := by
  rw [List.all_eq_true]
  intro r hr
  rw [(List.mem_replicate.1 hr).2]
  rfl
theorem app_obj {L : Lim} (hL : L.rt ≤ 12) (bs : List (List AV)) {K : AV → Sto → Prop} : ∀ (k : Nat), k < 4000 → K (objA (k + 1)) ⟨bs, tsK (k + 1)⟩ → wApp false L ⟨bs, tsK k⟩ 83 5 80 (objA k) (.capped [dotRow]) K
  | 0, _, h => by
    simp only [wApp, srcCells, rowsOf, wO]
    show _ ∧ _
    refine ⟨rfl, ⟨by decide, by decide, rfl⟩, ?_⟩
    exact h
  | k + 1, hk, h => by
    simp only [wApp, srcCells, rowsOf, wO]
    show _ ∧ _
    refine ⟨rfl, ⟨?_, ?_, ?_, hL, rep_all _⟩, ?_⟩
    · simp only [List.length_replicate]
      show (k + 1 + 1) * 80 ≤ 2 ^ 45
      omega
    · simp only [List.length_replicate]
      show k + 1 + 1 ≤ 2 ^ 45
      omega
    · simp [tsK, tsH]
    · simp only [List.length_replicate]
      have e1 : List.replicate (k + 1) dotRow ++ [dotRow] = List.replicate (k + 1 + 1) dotRow := by rw [List.replicate_succ' (n := k + 1)]
      have e2 : (tsK (k + 1)).set 12 (k + 1 + 1, 83) = tsK (k + 1 + 1) := rfl
      show K (.own 12 (List.replicate (k + 1) dotRow ++ [dotRow])) ⟨bs, (tsK (k + 1)).set 12 (k + 1 + 1, 83)⟩
      rw [e1, e2]
      exact h
theorem eqR_rep : ∀ k, eqPLL (List.replicate k dotRow) (List.replicate k dotRow) = true
  | 0 => rfl
  | k + 1 => by
    rw [List.replicate_succ]
    show (eqPL dotRow dotRow && eqPLL (List.replicate k dotRow) (List.replicate k dotRow)) = true
    rw [eqR_rep k]
    rfl
theorem objA_eq : ∀ k, Tel.eqA (objA k) (objA k) = true
  | 0 => rfl
  | k + 1 => by
    simp only [objA, Tel.eqA]
    rw [eqR_rep (k + 1)]
    rfl
theorem objA_ok : ∀ k, okCell (objA k) = true
  | 0 => rfl
  | _ + 1 => rfl
theorem objA_cells : ∀ k, cellsOf (objA k) = [objA k]
  | 0 => rfl
  | _ + 1 => rfl
theorem objA_len (k : Nat) (s : Sto) : lenA s (objA k) = some k := by
  cases k with
  | zero => rfl
  | succ k => simp [objA, lenA, rowsOf]
theorem objA_ids (n : Nat) : ∀ k, idsLtL (n + 4) [.ptr 1 0, objA k] = true
  | 0 => rfl
  | _ + 1 => rfl
theorem hB_ids (n : Nat) : [hB0, hB1, hB2].all (idsLtL (n + 4)) = true := by kernel_rfl
theorem St_ids (k : Nat) {x : List (List AV)} (hx : Loc x) : ((St k x).bs.all (idsLtL (x.length + 4))) = true := by
  have h := hB_ids x.length
  simp only [List.all_cons, List.all_nil, Bool.and_true, Bool.and_eq_true] at h
  simp only [St, List.all_cons, Bool.and_eq_true, List.all_eq_true]
  exact ⟨h.1, h.2.1, h.2.2, objA_ids _ k, fun c hc => hx c hc _⟩
section
variable {R : Nat → Option (List PV)}
theorem QM_al {rr : Bool} {k : Nat} {x : List (List AV)} (hx : Loc x) {bs : List (List AV)} {ts : List (Nat × Nat)} (hb : bs.take (x.length + 4) = (St k x).bs) (ht : ts = tsK k) {a : AV} {m : Int} (ha : ∀ bs n m, close bs n m a = some a) {Post : AV → Sto → Prop} (h : Post (.tuple [a, I64 m]) (St k x)) :
    QM rr (x.length + 4) Post (.tuple [a, I64 m]) ⟨bs, ts⟩ := by
  refine QM_tuple (ds := [a, I64 m]) ?_ ?_ ?_
  · rw [hb]
    exact St_ids k hx
  · simp [closeL, ha, close]
  · show Post _ ⟨bs.take _, ts⟩
    rw [hb, ht]
    exact h
theorem alloc_ok (L : Lim) (hro : L.ro = 0) (hrt : L.rt = 0) {k : Nat} (hk : k < 4000) {x : List (List AV)} (hx : Loc x) : CallE (env R) L 12 [.ptr 3 0, dotV, .capped []] (St k x) (.tuple [.agg [I64 5, I64 ((k + 1 : Nat) : Int), SS [], .capped []], I64 0]) (St (k + 1) x) := by
  suffices H : ∀ rr (Post : AV → Sto → Prop), Post (.tuple [.agg [I64 5, I64 ((k + 1 : Nat) : Int), SS [], .capped []], I64 0]) (St (k + 1) x) → P12_0 R 0 0 0 (.ptr 3 0) dotV (.capped []) (St k x) (QM rr (x.length + 4) Post) by
    obtain ⟨v, s', ⟨rfl, rfl⟩, h⟩ := m12 (R := R) (L := L) (s := St k x) (t0 := .ptr 3 0) (t1 := dotV) (t2 := .capped []) (Post := fun v s' => v = .tuple [.agg [I64 5, I64 ((k + 1 : Nat) : Int), SS [], .capped []], I64 0] ∧ s' = St (k + 1) x) rfl (by
      rw [hro, hrt]
      exact H _ _ ⟨rfl, rfl⟩)
    exact h
  intro rr Post hP
  have g4 : (hB0 :: hB1 :: hB2 :: [.ptr 1 0, objA k] :: (x ++ [dotC] ++ [V4]))[x.length + 4]? = some dotC := by simp
  have g5 : (hB0 :: hB1 :: hB2 :: [.ptr 1 0, objA k] :: (x ++ [dotC] ++ [V4]))[x.length + 4 + 1]? = some V4 := by simp
  refine alloc_1 (objs R k) (alloc_0 (objs R k) g4 (alloc_2 (objs R k) hk g4 (alloc_3 (fun bs K => app_obj (Nat.zero_le _) bs k hk) (objA_eq k) (objA_ok _) (objA_cells _) (objA_len _) g4 g5 (by omega) ?_)))
  refine QM_al (k := k + 1) hx ?_ rfl (fun _ _ _ => rfl) hP
  rw [List.take_set_of_le (by omega)]
  simp [St]
theorem alloc_no (L : Lim) (hro : L.ro = 0) (hrt : L.rt = 0) {k : Nat} (hk : 4000 ≤ k) {x : List (List AV)} (hx : Loc x) : CallE (env R) L 12 [.ptr 3 0, dotV, .capped []] (St k x) (.tuple [zeroV, I64 10]) (St k x) := by
  suffices H : ∀ rr (Post : AV → Sto → Prop), Post (.tuple [zeroV, I64 10]) (St k x) → P12_0 R 0 0 0 (.ptr 3 0) dotV (.capped []) (St k x) (QM rr (x.length + 4) Post) by
    obtain ⟨v, s', ⟨rfl, rfl⟩, h⟩ := m12 (R := R) (L := L) (s := St k x) (t0 := .ptr 3 0) (t1 := dotV) (t2 := .capped []) (Post := fun v s' => v = .tuple [zeroV, I64 10] ∧ s' = St k x) rfl (by
      rw [hro, hrt]
      exact H _ _ ⟨rfl, rfl⟩)
    exact h
  intro rr Post hP
  have g4 : (hB0 :: hB1 :: hB2 :: [.ptr 1 0, objA k] :: (x ++ [dotC] ++ [V4]))[x.length + 4]? = some dotC := by simp
  have g5 : (hB0 :: hB1 :: hB2 :: [.ptr 1 0, objA k] :: (x ++ [dotC] ++ [V4]))[x.length + 4 + 1]? = some V4 := by simp
  refine alloc_1 (objs R k) (alloc_0 (objs R k) g4 (alloc_full (objs R k) hk g4 g5 ?_))
  refine QM_al (k := k) hx ?_ rfl (fun _ _ _ => rfl) hP
  rw [List.take_set_of_le (by omega)]
  simp [St]
end
end Go.Proofs.YtpmafnbhkhdaiaaGreatDoor
