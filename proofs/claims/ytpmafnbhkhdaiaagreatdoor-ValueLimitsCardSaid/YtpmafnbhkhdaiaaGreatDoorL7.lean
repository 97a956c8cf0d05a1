/-
  ValueLimits: the law.
-/
import Derived.Test.YtpmafnbhkhdaiaaGreatDoorL6
set_option linter.unusedSimpArgs false
set_option linter.unusedVariables false
namespace Go.Proofs.YtpmafnbhkhdaiaaGreatDoor
open Go.Tel
section
variable {R : Nat → Option (List PV)}
theorem St_push (k : Nat) (x : List (List AV)) (c : List AV) : (⟨(St k x).bs ++ [c], tsK k⟩ : Sto) = St k (x ++ [c]) := rfl
theorem Loc.push {x : List (List AV)} (h : Loc x) {c : List AV} (hc : ∀ n, idsLtL n c = true) : Loc (x ++ [c]) := by
  intro d hd n
  rcases List.mem_append.1 hd with hd | hd
  · exact h d hd n
  · rw [List.mem_singleton.1 hd]
    exact hc n
theorem set_last (bs : List (List AV)) (c d : List AV) : (bs ++ [c]).set bs.length d = bs ++ [d] := by simp
theorem law_loop {t0 t7 t8 t10 t13 : AV} {QR : AV → Sto → Prop} {A : List AV} (hP : ∀ x, Loc x → x[0]? = some A → P3_8 R 0 0 0 t0 (.ptr 3 0) t7 t8 t10 t13 (St 4000 x) QR) :
    ∀ (j k : Nat) (x : List (List AV)), k + j = 4000 → Loc x → x[0]? = some A → P3_6 R 0 0 0 t0 (.ptr 3 0) t7 t8 t10 t13 (I64 k) (St k x) QR := by
  intro j
  induction j with
  | zero =>
    intro k x hk hx h0
    refine p3_6 (in_lss ?_)
    rw [decide_eq_false (by omega)]
    obtain rfl : k = 4000 := by omega
    exact co_f (hP x hx h0)
  | succ j ih =>
    intro k x hk hx h0
    refine p3_6 (in_lss ?_)
    rw [decide_eq_true (by omega)]
    refine co_t (p3_7 (wCall_pure (named_spec R) ?_))
    rintro _ rfl
    refine wCall_ev (alloc_ok _ rfl rfl (by omega) hx) (ex_of rfl (ex_of rfl (new_of ?_)))
    refine st_all (cs := [I64 5, I64 ((k + 1 : Nat) : Int), SS [], .capped []]) (get_last _ _) rfl rfl (by decide) (Nat.zero_le _) rfl (.inl (Nat.zero_le _)) ?_
    refine in_neq (co_f (p3_9 (in_add (by omega) (by omega) ?_)))
    show P3_6 R 0 0 0 t0 (.ptr 3 0) t7 t8 t10 t13 (I64 ((k + 1 : Nat) : Int)) ⟨((St (k + 1) x).bs ++ [V4]).set (St (k + 1) x).bs.length [I64 5, I64 ((k + 1 : Nat) : Int), SS [], .capped []], tsK (k + 1)⟩ QR
    rw [set_last, St_push]
    refine ih (k + 1) _ (by omega) (hx.push fun _ => rfl) ?_
    rw [List.getElem?_append_left (List.getElem?_eq_some_iff.1 h0).1]
    exact h0
theorem end_ok {n : Int} (hn : n ≤ 0) (hn2 : -1 ≤ n) {w : List UInt8} (hw : (w.length : Int) = 2000 + n) {x : List (List AV)} (hx : Loc x) (h0 : x[0]? = some (rB 3 w)) {Post : AV → Prop} (hP : Post (BB true)) :
    P3_8 R 0 0 0 (I64 n) (.ptr 3 0) (.ptr 4 0) (I64 0) (I64 0) (I64 0) (St 4000 x) (QP Post) := by
  refine p3_8 (wCall_pure (named_spec R) ?_)
  rintro _ rfl
  refine wCall_ev (alloc_no _ rfl rfl (Nat.le_refl _) hx) (ex_of rfl (ex_of rfl (new_of ?_)))
  refine st_all (cs := V4) (get_last _ _) rfl rfl (by decide) (Nat.zero_le _) rfl (.inl (Nat.zero_le _)) ?_
  refine in_leq ?_
  rw [decide_eq_true hn, set_last]
  have gA : ((St 4000 x).bs ++ [V4])[4]? = some (rB 3 w) := by
    show (hB0 :: hB1 :: hB2 :: [.ptr 1 0, objA 4000] :: (x ++ [V4]))[4]? = _
    show (x ++ [V4])[0]? = _
    rw [List.getElem?_append_left (List.getElem?_eq_some_iff.1 h0).1]
    exact h0
  refine co_t (in_eql (gk_t (fad_of (al_of gA) (gk_t (ld_of gA rfl (gk_t (sln (gk_t (gk_t (in_add (by omega) (by omega) (gk_t (in_eql (pk_t ?_)))))))))))))
  have e : ((w.length : Int) == 2000 + n) = true := by simpa using hw
  rw [e]
  refine gk_t (gk_t (in_eql (pk_t (gk_t (gk_t (in_eql (pk_t (gk_t (gk_t (in_eql (pk_t ?_)))))))))))
  exact ⟨_, clP, hP⟩
theorem allocated_ok (L : Lim) (hro : L.ro = 0) (hrt : L.rt = 0) {x : List (List AV)} (hx : Loc x) : CallE (env R) L 14 [.ptr 3 0] (St 4000 x) (I64 4000) (St 4000 x) := by
  have e : (St 4000 x).bs.take (St 4000 x).bs.length = (St 4000 x).bs := List.take_length
  obtain ⟨v, s', ⟨rfl, rfl⟩, h⟩ := m14 (R := R) (L := L) (s := St 4000 x) (t0 := .ptr 3 0) (Post := fun v s' => v = I64 4000 ∧ s' = St 4000 x) rfl (by
    rw [hro, hrt]
    have g3 : (St 4000 x).bs[3]? = some [.ptr 1 0, objA 4000] := rfl
    refine p14_0 (nil_of (al_of g3) (fad_of (al_of g3) (ld_of g3 rfl (len_of (objA_len 4000 _) ?_))))
    refine QM_pv ?_ ⟨rfl, ?_⟩
    · rw [e]
      exact St_ids 4000 hx
    · rw [e])
  exact h
theorem end_no {x : List (List AV)} (hx : Loc x) {Post : AV → Prop} (hP : Post (BB true)) :
    P3_8 R 0 0 0 (I64 1) (.ptr 3 0) (.ptr 4 0) (I64 5) (I64 5) (I64 5) (St 4000 x) (QP Post) := by
  refine p3_8 (wCall_pure (named_spec R) ?_)
  rintro _ rfl
  refine wCall_ev (alloc_no _ rfl rfl (Nat.le_refl _) hx) (ex_of rfl (ex_of rfl (new_of ?_)))
  refine st_all (cs := V4) (get_last _ _) rfl rfl (by decide) (Nat.zero_le _) rfl (.inl (Nat.zero_le _)) ?_
  refine in_leq (co_f ?_)
  rw [set_last]
  refine p3_10 (in_eql (gk_t (gk_t (in_eql (pk_t (gk_t (gk_t (in_eql (pk_t (gk_t (gk_t (in_eql (pk_t (gk_t ?_))))))))))))))
  refine gk_t (wCall_ev (allocated_ok _ rfl rfl (hx.push (c := V4) fun _ => rfl)) (gk_t (in_eql (pk_t ?_))))
  exact ⟨_, clP, hP⟩
end
end Go.Proofs.YtpmafnbhkhdaiaaGreatDoor
