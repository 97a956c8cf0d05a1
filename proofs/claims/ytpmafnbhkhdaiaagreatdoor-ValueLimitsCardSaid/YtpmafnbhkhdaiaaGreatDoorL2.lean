/-
  ValueLimits: Allocate.
-/
import Derived.Test.YtpmafnbhkhdaiaaGreatDoorR0
import Derived.Test.YtpmafnbhkhdaiaaGreatDoorWvD
set_option linter.unusedSimpArgs false
set_option linter.unusedVariables false
namespace Go.Proofs.YtpmafnbhkhdaiaaGreatDoor
open Go.Tel
abbrev V4 : List AV := [I64 0, I64 0, SS [], .capped []]
abbrev dotC : List AV := [I64 2, SS [68, 111, 116], I64 0, .capped []]
def Loc (x : List (List AV)) : Prop := ∀ c ∈ x, ∀ n, idsLtL n c = true
theorem pure_ev {R : Nat → Option (List PV)} {n : Nat} {f : FuncId} {args : List AV} {v : AV} (hk : (env R).kind f = .rd) (hc : (env R).clone f = false) (hcl : closeL [] 0 0 args = some args) (h : pureV (env R) n f args = some v) : PureC (env R) f args fun r => r = v :=
  ⟨v, rfl, fun L s => CallE.of_some (callN_pure hk hc hcl rfl h L s)⟩
theorem built_spec (R : Nat → Option (List PV)) : PureC (env R) 31 [SS [68, 111, 116]] fun r => r = BB false := pure_ev (by kernel_rfl) (by kernel_rfl) rfl (built_ev R)
theorem within_spec (R : Nat → Option (List PV)) : PureC (env R) 30 [dotV] fun r => r = BB true := pure_ev (by kernel_rfl) (by kernel_rfl) rfl (within_ev R)
theorem ctype_spec (R : Nat → Option (List PV)) : PureC (env R) 36 [dotV] fun r => r = dotV := pure_ev (by kernel_rfl) (by kernel_rfl) rfl (ctype_ev R)
theorem cvals_spec (R : Nat → Option (List PV)) : PureC (env R) 28 [.capped []] fun r => r = .capped [] := pure_ev (by kernel_rfl) (by kernel_rfl) rfl (cvals_ev R)
theorem wCall_ev {E : Env} {L : Lim} {f : FuncId} {args : List AV} {s s' : Sto} {v : AV} {K : AV → Sto → Prop} (h : CallE E L f args s v s') (hK : K v s') : wCall E L (.func (.func f) [] []) args s K :=
  wCall_do (Post := fun a b => a = v ∧ b = s') ⟨_, _, ⟨rfl, rfl⟩, h⟩ (by rintro _ _ ⟨rfl, rfl⟩; exact hK)
theorem pk_f {a b : AV} {K : AV → Prop} (h : K b) : wPick (BB false) a b K := h
theorem pk_t {a b : AV} {K : AV → Prop} (h : K a) : wPick (BB true) a b K := h
section
variable {R : Nat → Option (List PV)} {rr : Bool} {o : AV} {ts : List (Nat × Nat)} {n : Nat} {Post : AV → Sto → Prop}
structure Objs (R : Nat → Option (List PV)) (o : AV) (ts : List (Nat × Nat)) (n : Nat) : Prop where
  conc : ∀ L rest, callN (env R) 1 L 32 [.ptr 1 0, dotV] ⟨hB0 :: hB1 :: hB2 :: rest, ts⟩ = some (BB true, ⟨hB0 :: hB1 :: hB2 :: rest, ts⟩)
  flds : ∀ L rest, callN (env R) 1 L 33 [.ptr 1 0, dotV] ⟨hB0 :: hB1 :: hB2 :: rest, ts⟩ = some (.tuple [.capped [], BB true], ⟨hB0 :: hB1 :: hB2 :: rest, ts⟩)
  eqf : ∀ L rest, callN (env R) 1 L 34 [.capped [], .capped [], .func (.func 35) [.ptr 3 0] []] ⟨hB0 :: hB1 :: hB2 :: [.ptr 1 0, o] :: rest, ts⟩ = some (BB true, ⟨hB0 :: hB1 :: hB2 :: [.ptr 1 0, o] :: rest, ts⟩)
  len : ∀ s, lenA s o = some n
theorem alloc_0 (h : Objs R o ts n) {y : List (List AV)} {N : Nat} (g4 : (hB0 :: hB1 :: hB2 :: [.ptr 1 0, o] :: y)[N]? = some dotC) {QR : AV → Sto → Prop}
    (hK : P12_2 R 0 0 0 (.ptr 3 0) (.capped []) (.ptr N 0) (.ptr (N + 1) 0) ⟨hB0 :: hB1 :: hB2 :: [.ptr 1 0, o] :: y, ts⟩ QR) :
    P12_1 R 0 0 0 (.ptr 3 0) (.capped []) (.ptr N 0) (.ptr (N + 1) 0) ⟨hB0 :: hB1 :: hB2 :: [.ptr 1 0, o] :: y, ts⟩ QR := by
  have g3 : (hB0 :: hB1 :: hB2 :: [.ptr 1 0, o] :: y)[3]? = some [.ptr 1 0, o] := rfl
  refine p12_1 (nil_of (al_of g3) (fad_of (al_of g3) (ld_of g3 rfl (ldk_of g4 rfl ?_))))
  refine wCall_ev (CallE.of_some (h.flds _ _)) (ex_of rfl (ex_of rfl ?_))
  refine wCall_ev (CallE.of_some (h.eqf _ _)) (nt (co_f hK))
theorem alloc_1 (h : Objs R o ts n) {x : List (List AV)} {QR : AV → Sto → Prop}
    (hK : P12_1 R 0 0 0 (.ptr 3 0) (.capped []) (.ptr (x.length + 4) 0) (.ptr (x.length + 5) 0) ⟨hB0 :: hB1 :: hB2 :: [.ptr 1 0, o] :: (x ++ [dotC] ++ [V4]), ts⟩ QR) :
    P12_0 R 0 0 0 (.ptr 3 0) dotV (.capped []) ⟨hB0 :: hB1 :: hB2 :: [.ptr 1 0, o] :: x, ts⟩ QR := by
  have g3 : (hB0 :: hB1 :: hB2 :: [.ptr 1 0, o] :: (x ++ [dotC] ++ [V4]))[3]? = some [.ptr 1 0, o] := rfl
  have g4 : (hB0 :: hB1 :: hB2 :: [.ptr 1 0, o] :: (x ++ [dotC] ++ [V4]))[x.length + 4]? = some dotC := by simp
  refine p12_0 (bx_of rfl rfl (new_of ?_))
  show wFad ⟨hB0 :: hB1 :: hB2 :: [.ptr 1 0, o] :: (x ++ [dotC] ++ [V4]), ts⟩ (.ptr (x.length + 4) 0) 0 _
  have e5 : (x ++ [dotC]).length = x.length + 1 := by simp
  refine fad_of (al_of g4) (ld_of g4 rfl (in_neq ?_))
  refine gk_t (fad_of (al_of g4) ?_)
  refine gk_t (ld_of g4 rfl ?_)
  refine gk_t (wCall_pure (built_spec R) ?_)
  rintro _ rfl
  refine pk_f (gk_t (gk_t (nil_of (al_of g3) (gk_t (fad_of (al_of g3) (gk_t (ld_of g3 rfl (gk_t (ldk_of g4 rfl ?_)))))))))
  refine gk_t (wCall_ev (CallE.of_some (h.conc _ _)) (gk_t (nt (pk_f (co_f ?_)))))
  show P12_1 R 0 0 0 (.ptr 3 0) (.capped []) (.ptr (x.length + 4) 0) (.ptr ((x ++ [dotC]).length + 4) 0) ⟨hB0 :: hB1 :: hB2 :: [.ptr 1 0, o] :: (x ++ [dotC] ++ [V4]), ts⟩ QR
  rw [e5]
  exact hK
theorem alloc_2 (h : Objs R o ts n) (hn : n < 4000) {y : List (List AV)} {N : Nat} (g4 : (hB0 :: hB1 :: hB2 :: [.ptr 1 0, o] :: y)[N]? = some dotC) {QR : AV → Sto → Prop}
    (hK : P12_3 R 0 0 0 (.ptr 3 0) (.capped []) (.ptr N 0) (.ptr (N + 1) 0) ⟨hB0 :: hB1 :: hB2 :: [.ptr 1 0, o] :: y, ts⟩ QR) :
    P12_2 R 0 0 0 (.ptr 3 0) (.capped []) (.ptr N 0) (.ptr (N + 1) 0) ⟨hB0 :: hB1 :: hB2 :: [.ptr 1 0, o] :: y, ts⟩ QR := by
  have g3 : (hB0 :: hB1 :: hB2 :: [.ptr 1 0, o] :: y)[3]? = some [.ptr 1 0, o] := rfl
  refine p12_2 (ldk_of g4 rfl ?_)
  refine wCall_pure (within_spec R) ?_
  rintro _ rfl
  refine nt (co_f (nil_of (al_of g3) (fad_of (al_of g3) (ld_of g3 rfl (len_of (h.len _) (in_geq ?_))))))
  rw [decide_eq_false (by omega)]
  exact co_f hK
theorem alloc_full (h : Objs R o ts n) (hn : 4000 ≤ n) {y : List (List AV)} {N : Nat} (g4 : (hB0 :: hB1 :: hB2 :: [.ptr 1 0, o] :: y)[N]? = some dotC) (g5 : (hB0 :: hB1 :: hB2 :: [.ptr 1 0, o] :: y)[N + 1]? = some V4) {QR : AV → Sto → Prop}
    (hK : QR (.tuple [zeroV, I64 10]) ⟨(hB0 :: hB1 :: hB2 :: [.ptr 1 0, o] :: y).set (N + 1) V4, ts⟩) :
    P12_2 R 0 0 0 (.ptr 3 0) (.capped []) (.ptr N 0) (.ptr (N + 1) 0) ⟨hB0 :: hB1 :: hB2 :: [.ptr 1 0, o] :: y, ts⟩ QR := by
  have g3 : (hB0 :: hB1 :: hB2 :: [.ptr 1 0, o] :: y)[3]? = some [.ptr 1 0, o] := rfl
  refine p12_2 (ldk_of g4 rfl ?_)
  refine wCall_pure (within_spec R) ?_
  rintro _ rfl
  refine nt (co_f (nil_of (al_of g3) (fad_of (al_of g3) (ld_of g3 rfl (len_of (h.len _) (in_geq ?_))))))
  rw [decide_eq_true (by omega)]
  refine co_t (bd_of rfl (st_all g5 rfl rfl (by decide) (Nat.zero_le _) rfl (.inl (Nat.zero_le _)) ?_))
  exact ldk_of (get_self g5) rfl hK
theorem alloc_3 {o' : AV} {ts' : List (Nat × Nat)} (happ : ∀ (bs : List (List AV)) (K : AV → Sto → Prop), K o' ⟨bs, ts'⟩ → wApp false (LFE (env R) 12 0 0 0) ⟨bs, ts⟩ 83 5 80 o (.capped [dotRow]) K)
    (heq : Tel.eqA o o = true) (hok : okCell o' = true) (hcell : cellsOf o' = [o']) (hlen : ∀ s, lenA s o' = some (n + 1))
    {y : List (List AV)} {N : Nat} (g4 : (hB0 :: hB1 :: hB2 :: [.ptr 1 0, o] :: y)[N]? = some dotC) (g5 : (hB0 :: hB1 :: hB2 :: [.ptr 1 0, o] :: y)[N + 1]? = some V4) (hN : 4 ≤ N) {QR : AV → Sto → Prop}
    (hK : QR (.tuple [.agg [I64 5, I64 ((n + 1 : Nat) : Int), SS [], .capped []], I64 0]) ⟨(hB0 :: hB1 :: hB2 :: [.ptr 1 0, o'] :: y).set (N + 1) [I64 5, I64 ((n + 1 : Nat) : Int), SS [], .capped []], ts'⟩) :
    P12_3 R 0 0 0 (.ptr 3 0) (.capped []) (.ptr N 0) (.ptr (N + 1) 0) ⟨hB0 :: hB1 :: hB2 :: [.ptr 1 0, o] :: y, ts⟩ QR := by
  have g3 : (hB0 :: hB1 :: hB2 :: [.ptr 1 0, o] :: y)[3]? = some [.ptr 1 0, o] := rfl
  have g3' : (hB0 :: hB1 :: hB2 :: [.ptr 1 0, o'] :: y)[3]? = some [.ptr 1 0, o'] := rfl
  have g5' : (hB0 :: hB1 :: hB2 :: [.ptr 1 0, o'] :: y)[N + 1]? = some V4 := by
    obtain ⟨m, rfl⟩ : ∃ m, N = m + 4 := ⟨N - 4, by omega⟩
    exact g5
  refine p12_3 (nil_of (al_of g3) (fad_of (al_of g3) (ld_of g3 rfl (ldk_of g4 rfl ?_))))
  refine wCall_pure (ctype_spec R) ?_
  rintro _ rfl
  refine wCall_pure (cvals_spec R) ?_
  rintro _ rfl
  refine bd_of rfl ⟨⟨by decide, rfl, by decide⟩, ?_⟩
  refine ⟨⟨rfl, by decide⟩, happ _ _ ?_⟩
  refine nil_of (al_of g3) (fad_of (al_of g3) (st_one g3 (by simp) hcell (Nat.zero_le _) hok (.inl (Nat.zero_le _)) ?_))
  show _ ∧ _
  refine ⟨nil_of (al_of g3) (eqA_ptr _ _), nil_of (al_of g3) (eqA_ptr _ _), fad_of (al_of g3) (eqA_ptr _ _), fad_of (al_of g3) (eqA_ptr _ _), ld_of g3 rfl heq, ld_of g3 rfl heq, ?_⟩
  refine nil_of (al_of g3') (fad_of (al_of g3') (ld_of g3' rfl (len_of (hlen _) (bd_of rfl ?_))))
  exact st_all g5' rfl rfl (by decide) (Nat.zero_le _) rfl (.inl (Nat.zero_le _)) (ldk_of (get_self g5') rfl hK)
end
end Go.Proofs.YtpmafnbhkhdaiaaGreatDoor
