/-
  ValueLimits: the rounds of MakeTuple, and the whole law.
-/
import Derived.Test.YtpmafnbhkhdaiaaGreatDoorL7
set_option linter.unusedSimpArgs false
set_option linter.unusedVariables false
namespace Go.Proofs.YtpmafnbhkhdaiaaGreatDoor
open Go.Tel
theorem bsl_vc {s : Sto} : ∀ (i : Nat) {K : AV → Sto → Prop}, K (.capped [vp i]) s → wBsl false s 4 [(I64 0), (I64 0), (SS []), (.capped [])] 1 [(0, 4, .agg (vc i))] K
  | 0, _, h => ⟨⟨by decide, rfl, by decide⟩, h⟩
  | _ + 1, _, h => ⟨⟨by decide, rfl, by decide⟩, h⟩
theorem vc_len : ∀ i, (vc i).length = 4
  | 0 => rfl
  | _ + 1 => rfl
theorem vc_ok : ∀ i, (vc i).all okCell = true
  | 0 => rfl
  | _ + 1 => rfl
section
variable {R : Nat → Option (List PV)} {k : Int} {w : List UInt8} {QR : AV → Sto → Prop}
theorem mk_call {i : Nat} (hi : i ≤ 4) : CallE (env R) (L3 R) 11 [.ptr 3 0, .capped [vp i]] (S6 k w (vc i)) (.tuple [.agg (vc (i + 1)), I64 0]) (S6 k w (vc i)) := by
  rcases (by omega : i = 0 ∨ i = 1 ∨ i = 2 ∨ i = 3 ∨ i = 4) with rfl | rfl | rfl | rfl | rfl
  · exact CallE.of_some (mk0_ev R k w)
  · exact CallE.of_some (mk1_ev R k w)
  · exact CallE.of_some (mk2_ev R k w)
  · exact CallE.of_some (mk3_ev R k w)
  · exact CallE.of_some (mk4_ev R k w)
theorem round {i : Nat} (hi : i ≤ 4) {n e : Int} (hn : -1 ≤ n) (hn1 : n ≤ 1) (hlt : (i : Int) < 6 + n - 1)
    (hK : P3_2 R 0 0 0 (I64 n) (.ptr 3 0) (.ptr 4 0) (I64 e) (.ptr 5 0) (I64 0) (I64 ((i + 1 : Nat) : Int)) (S6 k w (vc (i + 1))) QR) :
    P3_2 R 0 0 0 (I64 n) (.ptr 3 0) (.ptr 4 0) (I64 e) (.ptr 5 0) (I64 0) (I64 i) (S6 k w (vc i)) QR := by
  refine p3_2 (in_add (by omega) (by omega) (in_sub (by omega) (by omega) (in_lss ?_)))
  rw [decide_eq_true hlt]
  refine gk_t (gk_t (in_eql (pk_t (co_t (p3_3 ?_)))))
  have g5 : (S6 k w (vc i)).bs[5]? = some (vc i) := rfl
  refine ldk_of g5 (vc_len i) (bsl_vc i ?_)
  refine wCall_ev (mk_call hi) (ex_of rfl (ex_of rfl ?_))
  refine st_all g5 (vc_len _) (vc_len _) (by decide) (Nat.zero_le _) (vc_ok _) (.inl (Nat.zero_le _)) ?_
  exact p3_5 (in_add (by omega) (by omega) hK)
theorem round_5 {e : Int}
    (hK : P3_2 R 0 0 0 (I64 1) (.ptr 3 0) (.ptr 4 0) (I64 e) (.ptr 5 0) (I64 5) (I64 6) (S6 k w V4) QR) :
    P3_2 R 0 0 0 (I64 1) (.ptr 3 0) (.ptr 4 0) (I64 e) (.ptr 5 0) (I64 0) (I64 5) (S6 k w (vc 5)) QR := by
  refine p3_2 (in_add (by omega) (by omega) (in_sub (by omega) (by omega) (in_lss ?_)))
  rw [decide_eq_true (by omega)]
  refine gk_t (gk_t (in_eql (pk_t (co_t (p3_3 ?_)))))
  have g5 : (S6 k w (vc 5)).bs[5]? = some (vc 5) := rfl
  refine ldk_of g5 (vc_len 5) (bsl_vc 5 ?_)
  refine wCall_ev (CallE.of_some (mk5_ev R k w)) (ex_of rfl (ex_of rfl ?_))
  refine st_all g5 rfl (vc_len _) (by decide) (Nat.zero_le _) rfl (.inl (Nat.zero_le _)) ?_
  exact p3_5 (in_add (by omega) (by omega) hK)
theorem rounds_end {i : Int} {C : List AV} {n e t : Int} (hn : -1 ≤ n) (hn1 : n ≤ 1) (hge : ¬ i < 6 + n - 1)
    (hK : P3_4 R 0 0 0 (I64 n) (.ptr 3 0) (.ptr 4 0) (I64 e) (I64 t) (S6 k w C) QR) :
    P3_2 R 0 0 0 (I64 n) (.ptr 3 0) (.ptr 4 0) (I64 e) (.ptr 5 0) (I64 t) (I64 i) (S6 k w C) QR := by
  refine p3_2 (in_add (by omega) (by omega) (in_sub (by omega) (by omega) (in_lss ?_)))
  rw [decide_eq_false hge]
  exact gk_ft (gk_ft (pk_f (co_f hK)))
theorem wide_ok {m : Nat} {n e t d : Int} {C W : List AV} (hm : 6 + n = m) (hn : -1 ≤ n) (hn1 : n ≤ 1) (hs : makeSliceA (env R).P (S6 k w C) 32 (I64 m) (I64 m) = some (.ref 6 0 m 4, S7 k w C (zs m)))
    (hc : callN (env R) 400 (L3 R) 11 [.ptr 3 0, .ref 6 0 m 4] (S7 k w C (zs m)) = some (.tuple [.agg W, I64 d], S7 k w C (zs m))) (hW : W.length = 4) (hWo : W.all okCell = true)
    (hK : P3_6 R 0 0 0 (I64 n) (.ptr 3 0) (.ptr 4 0) (I64 e) (I64 t) (I64 d) (I64 (0 : Nat)) (St 0 [rB k w, C, zs m, W]) QR) :
    P3_4 R 0 0 0 (I64 n) (.ptr 3 0) (.ptr 4 0) (I64 e) (I64 t) (S6 k w C) QR := by
  refine p3_4 (in_add (by omega) (by omega) ?_)
  rw [hm, hs]
  show wCall _ _ _ [.ptr 3 0, .ref 6 0 m 4] (S7 k w C (zs m)) _
  refine wCall_ev (CallE.of_some hc) (ex_of rfl (ex_of rfl (new_of ?_)))
  refine st_all (cs := W) (get_last _ _) hW rfl (by decide) (Nat.zero_le _) hWo (.inl (Nat.zero_le _)) ?_
  rw [set_last]
  exact hK
theorem loc4 (n : Nat) {C Z W : List AV} (hC : ∀ n, idsLtL n C = true) (hZ : ∀ n, idsLtL n Z = true) (hW : ∀ n, idsLtL n W = true) : Loc [rB k w, C, Z, W] := by
  intro c hc m
  simp only [List.mem_cons, List.not_mem_nil, or_false] at hc
  rcases hc with rfl | rfl | rfl | rfl
  · rfl
  · exact hC m
  · exact hZ m
  · exact hW m
theorem case_a (hw : (w.length : Int) = 1999) {Post : AV → Prop} (hP : Post (BB true)) : P3_2 R 0 0 0 (I64 (-1)) (.ptr 3 0) (.ptr 4 0) (I64 0) (.ptr 5 0) (I64 0) (I64 (0 : Nat)) (S6 3 w (vc 0)) (QP Post) := by
  refine round (by omega) (by omega) (by omega) (by omega) (round (by omega) (by omega) (by omega) (by omega) (round (by omega) (by omega) (by omega) (by omega) (round (by omega) (by omega) (by omega) (by omega) (rounds_end (by omega) (by omega) (by omega) ?_))))
  refine wide_ok (m := 5) rfl (by omega) (by omega) (slice5_ev R 3 w _) (wide5_ev R 3 w) rfl rfl ?_
  exact law_loop (A := rB 3 w) (fun x hx h0 => end_ok (by omega) (by omega) (by omega) hx h0 hP) 4000 0 _ rfl (loc4 0 (fun _ => rfl) (fun _ => rfl) (fun _ => rfl)) rfl
theorem case_b (hw : (w.length : Int) = 2000) {Post : AV → Prop} (hP : Post (BB true)) : P3_2 R 0 0 0 (I64 0) (.ptr 3 0) (.ptr 4 0) (I64 0) (.ptr 5 0) (I64 0) (I64 (0 : Nat)) (S6 3 w (vc 0)) (QP Post) := by
  refine round (by omega) (by omega) (by omega) (by omega) (round (by omega) (by omega) (by omega) (by omega) (round (by omega) (by omega) (by omega) (by omega) (round (by omega) (by omega) (by omega) (by omega) (round (by omega) (by omega) (by omega) (by omega) (rounds_end (by omega) (by omega) (by omega) ?_)))))
  refine wide_ok (m := 6) rfl (by omega) (by omega) (slice6_ev R 3 w _) (wide6_ev R 3 w) rfl rfl ?_
  exact law_loop (A := rB 3 w) (fun x hx h0 => end_ok (by omega) (by omega) (by omega) hx h0 hP) 4000 0 _ rfl (loc4 0 (fun _ => rfl) (fun _ => rfl) (fun _ => rfl)) rfl
theorem case_c {Post : AV → Prop} (hP : Post (BB true)) : P3_2 R 0 0 0 (I64 1) (.ptr 3 0) (.ptr 4 0) (I64 5) (.ptr 5 0) (I64 0) (I64 (0 : Nat)) (S6 0 [] (vc 0)) (QP Post) := by
  refine round (by omega) (by omega) (by omega) (by omega) (round (by omega) (by omega) (by omega) (by omega) (round (by omega) (by omega) (by omega) (by omega) (round (by omega) (by omega) (by omega) (by omega) (round (by omega) (by omega) (by omega) (by omega) (round_5 (rounds_end (by omega) (by omega) (by omega) ?_))))))
  refine wide_ok (m := 7) (W := V4) rfl (by omega) (by omega) (slice7_ev R 0 [] _) (wide7_ev R 0 []) rfl rfl ?_
  exact law_loop (A := rB 0 []) (fun x hx _ => end_no hx hP) 4000 0 _ rfl (loc4 0 (fun _ => rfl) (fun _ => rfl) (fun _ => rfl)) rfl
end
end Go.Proofs.YtpmafnbhkhdaiaaGreatDoor
