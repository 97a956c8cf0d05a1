/-
  ValueLimits: the whole law.
-/
import Derived.Test.YtpmafnbhkhdaiaaGreatDoorL8
set_option linter.unusedSimpArgs false
set_option linter.unusedVariables false
namespace Go.Proofs.YtpmafnbhkhdaiaaGreatDoor
open Go.Tel
section
variable {R : Nat → Option (List PV)}
theorem rep_ex (c : UInt8) {n : Nat} (hn : n = 1997 ∨ n = 2 ∨ n = 3 ∨ n = 4) : ∃ w : List UInt8, w.length = n ∧ PureC (env R) 10 [SS [c], I64 n] fun r => r = SS w :=
  ⟨List.replicate n c, List.length_replicate, repeat_spec c hn⟩
theorem law_2 {r : Int} {m : Nat} (hm : 3 + (r - 1) = (m : Int)) (hm4 : m = 1997 ∨ m = 2 ∨ m = 3 ∨ m = 4) (hr : 0 ≤ r) (hr3 : r < 3) {a : Int} {Post : AV → Prop}
    (hp : ∀ wa wb : List UInt8, (wa.length : Int) = 1997 → wb.length = m → ∃ k w e, primR wa wb = .tuple [.agg (rB k w), I64 e] ∧ P3_2 R 0 0 0 (I64 (r - 1)) (.ptr 3 0) (.ptr 4 0) (I64 e) (.ptr 5 0) (I64 0) (I64 (0 : Nat)) (S6 k w (vc 0)) (QP Post))
    (hmod : ∀ K : AV → Sto → Prop, K (I64 r) (St 0 []) → wCall (env R) (LFE (env R) 3 0 0 0) (.func (.func 8) [] []) [I64 a, I64 3] (St 0 []) K) :
    P3_1 R 0 0 0 (I64 a) (.ptr 3 0) (St 0 []) (QP Post) := by
  obtain ⟨n7, hn7⟩ : ∃ n7 : Nat, n7 = 1997 := ⟨_, rfl⟩
  have e97 : (n7 : Int) = 1997 := by omega
  obtain ⟨wa, hla, hpa⟩ := rep_ex (R := R) 115 (n := n7) (.inl hn7)
  obtain ⟨wb, hlb, hpb⟩ := rep_ex (R := R) 116 hm4
  obtain ⟨k, w, e, h1, hK⟩ := hp wa wb (by omega) hlb
  rw [e97] at hpa
  refine p3_1 (hmod _ (in_sub (by omega) (by omega) ?_))
  refine wCall_pure hpa ?_
  rintro _ rfl
  refine bd_of rfl (in_add (by omega) (by omega) ?_)
  rw [hm]
  refine wCall_pure hpb ?_
  rintro _ rfl
  refine bd_of rfl ?_
  refine wCall_pure (prim_spec (R := R) wa wb (by omega) (by omega)) ?_
  rintro _ rfl
  rw [h1]
  refine ex_of rfl (ex_of rfl (new_of ?_))
  refine st_all (cs := rB k w) (get_last _ _) rfl rfl (by decide) (Nat.zero_le _) rfl (.inl (Nat.zero_le _)) ?_
  refine bd_of rfl (new_of ?_)
  refine st_all (cs := vc 0) (get_last _ _) rfl rfl (by decide) (Nat.zero_le _) rfl (.inl (Nat.zero_le _)) ?_
  rw [set_last, set_last]
  exact hK
theorem prim_ok {wa wb : List UInt8} (h : (wa.length : Int) + wb.length ≤ 2000) : primR wa wb = .tuple [.agg (rB 3 (wa ++ wb)), I64 0] := by
  unfold primR
  rw [decide_eq_false (by omega)]
  rfl
theorem prim_no {wa wb : List UInt8} (h : 2000 < (wa.length : Int) + wb.length) : primR wa wb = .tuple [.agg (rB 0 []), I64 5] := by
  unfold primR
  rw [decide_eq_true (by omega)]
  rfl
theorem law_1 (a : Int) {Post : AV → Prop} (hP : Post (BB true)) : P3_1 R 0 0 0 (I64 a) (.ptr 3 0) (St 0 []) (QP Post) := by
  obtain ⟨v, ⟨r, rfl, h0, h3⟩, hc⟩ := mod_spec (R := R) a 3 (by decide) (by decide)
  have hmod : ∀ K : AV → Sto → Prop, K (I64 r) (St 0 []) → wCall (env R) (LFE (env R) 3 0 0 0) (.func (.func 8) [] []) [I64 a, I64 3] (St 0 []) K := fun K hK => wCall_ev (hc _ _) hK
  rcases (by omega : r = 0 ∨ r = 1 ∨ r = 2) with rfl | rfl | rfl
  · refine law_2 (m := 2) (by omega) (.inr (.inl rfl)) (by omega) (by omega) (fun wa wb h1 h2 => ⟨3, wa ++ wb, 0, prim_ok (by omega), case_a ?_ hP⟩) hmod
    rw [List.length_append]
    omega
  · refine law_2 (m := 3) (by omega) (.inr (.inr (.inl rfl))) (by omega) (by omega) (fun wa wb h1 h2 => ⟨3, wa ++ wb, 0, prim_ok (by omega), case_b ?_ hP⟩) hmod
    rw [List.length_append]
    omega
  · exact law_2 (m := 4) (by omega) (.inr (.inr (.inr rfl))) (by omega) (by omega) (fun wa wb h1 h2 => ⟨0, [], 5, prim_no (by omega), case_c hP⟩) hmod
theorem law_spec (hck : PureC (env R) 7 [] fun v => v = BB true) (a : Int) : PureC (env R) 3 [I64 a] fun v => v = BB true := by
  refine e3 (u0 := I64 a) rfl (p3_0 ?_)
  refine wCall_ev (CallE.of_some (base_ev R)) ?_
  refine wCall_ev (CallE.of_some (hier_ev R)) (ex_of rfl (ex_of rfl (ex_of rfl ?_)))
  refine wCall_ev (CallE.of_some (new_ev R)) ?_
  refine wCall_pure hck ?_
  rintro _ rfl
  refine nt (gk_t (gk_t (nt (pk_f (gk_t (gk_t ?_))))))
  simp only [wNeP, isNilP, Bool.false_and]
  refine ⟨rfl, ?_⟩
  exact pk_f (co_f (law_1 a rfl))
end
end Go.Proofs.YtpmafnbhkhdaiaaGreatDoor
