/-
  DnfLimits, part 1: the remainder that it takes of its arguments, and its first steps.
-/
import Derived.Test.YteaholhenmneoaaGreatDoorGood
import Derived.Test.YteaholhenmneoaaGreatDoorTenF
import Derived.WalkKit
namespace Go.Proofs.YteaholhenmneoaaGreatDoor.dnfLimits
open Go.Tel Go.RowKit

theorem tmod_emod (n m : Int) : n % m = (n.tmod m) % m := by
  have h := Int.tmod_add_mul_tdiv n m
  conv => lhs; rw [← h]
  exact Int.add_mul_emod_self_left _ _ _

set_option maxRecDepth 100000 in
theorem mod5 (n m : Int) (hm : 0 < m) (hm' : m < 100) (w : World) : Calls Tryz.prog 5 #[.int .i64 n, .int .i64 m] w fun e w' => e = .returned (.int .i64 (n % m)) ∧ w' = w := by
  have h1 := Int.tmod_lt_of_pos n hm
  have h2 := Int.lt_tmod_of_pos n hm
  have h3 := tmod_emod n m
  go_enter Tryz.func5, Tryz.ntmps5
  go_wp2
  · rename_i hlt
    go_ret
    have h4 : n.tmod m + m = n % m := by rw [h3, ← Int.add_emod_right, Int.emod_eq_of_lt (by omega) (by omega)]
    exact ⟨by simp [h4], rfl⟩
  · rename_i hge
    go_ret
    have : n.tmod m = n % m := by rw [h3, Int.emod_eq_of_lt (by omega) (by omega)]
    exact ⟨by simp [this], rfl⟩

/-! ### The code, in its pieces -/

def sL : Code → Code
  | .seq a _ => a
  | c => c
def sR : Code → Code
  | .seq _ b => b
  | c => c
def opsOf : Code → Array Oper
  | .region _ ops _ => ops
  | _ => #[]

noncomputable def c0 : Code := Tryz.f3.body.getD .skip
noncomputable def c1 : Code := sR c0
noncomputable def c2 : Code := sR c1
noncomputable def c3 : Code := sR c2
noncomputable def r3 : Code := sL (sL c3)
noncomputable def b3 : Code := sR (sL c3)
noncomputable def t3 : Code := sR c3

theorem hc0 : Tryz.f3.body = some c0 := by kernel_rfl
theorem e0 : c0 = .seq (sL c0) c1 := by kernel_rfl
theorem e1 : c1 = .seq (.region 1 (opsOf (sL c1)) false) c2 := by kernel_rfl
theorem e2 : c2 = .seq (sL c2) c3 := by kernel_rfl
theorem e3 : c3 = .seq (.seq (.region 3 (opsOf r3) false) b3) t3 := by kernel_rfl

/-- What is told of the two expansions of the term T: the error's number, and some lists. -/
structure Told where
  T : AV
  l1 : AV
  l2 : AV
  e : Int

structure Told.Ok (d : Told) : Prop where
  h12 : ∀ L s, callN env 390 L 12 [d.T] s = some (.tuple [d.l1, scv (.int .i64 d.e)], s)
  h13 : ∀ L s, callN env 390 L 13 [d.T] s = some (.tuple [d.l2, scv (.int .i64 d.e)], s)

/-- The calls: the remainders, 'check' and the expansions are told. -/
noncomputable def cf (w n : Int) (d : Told) (L : Lim) : CallF := fun f args s =>
  bif Nat.beq f 5 then (open Classical in if args = [scv (.int .i64 n), scv (.int .i64 3)] then some (scv (.int .i64 (n % 3)), s) else if args = [scv (.int .i64 w), scv (.int .i64 4)] then some (scv (.int .i64 (w % 4)), s) else none)
  else bif Nat.beq f 14 then (match args with | [] => some (scv (.bool true), s) | _ => none)
  else bif Nat.beq f 12 then (bif eqAL args [d.T] then some (.tuple [d.l1, scv (.int .i64 d.e)], s) else none)
  else bif Nat.beq f 13 then (bif eqAL args [d.T] then some (.tuple [d.l2, scv (.int .i64 d.e)], s) else none)
  else callN env 390 L f args s

theorem checkEv (L : Lim) (s : Sto) : callN env 390 L 14 [] s = some (scv (.bool true), s) := by kernel_rfl

set_option maxRecDepth 100000 in
theorem cf_ok (w n : Int) (d : Told) (hd : d.Ok) (L : Lim) : CallOk env L (cf w n d L) := by
  intro f args s s' v g W vs h hI hvs
  unfold cf at h
  cases h5 : Nat.beq f 5 with
  | true =>
    rw [h5] at h
    have := Nat.eq_of_beq_eq_true h5
    subst this
    simp only [cond_true] at h
    split at h
    · rename_i ha
      subst ha
      simp only [Option.some.injEq, Prod.mk.injEq] at h
      obtain ⟨rfl, rfl⟩ := h
      have := scalars_inv (us := [.int .i64 n, .int .i64 3]) hvs
      subst this
      exact told_ok good Tryz.func5 (by kernel_rfl) hI (mod5 n 3 (by omega) (by omega) W)
    · split at h
      · rename_i ha
        subst ha
        simp only [Option.some.injEq, Prod.mk.injEq] at h
        obtain ⟨rfl, rfl⟩ := h
        have := scalars_inv (us := [.int .i64 w, .int .i64 4]) hvs
        subst this
        exact told_ok good Tryz.func5 (by kernel_rfl) hI (mod5 w 4 (by omega) (by omega) W)
      · simp at h
  | false =>
    rw [h5] at h
    simp only [cond_false] at h
    cases h14 : Nat.beq f 14 with
    | true =>
      rw [h14] at h
      have := Nat.eq_of_beq_eq_true h14
      subst this
      simp only [cond_true] at h
      split at h
      · exact callN_sound good 390 L 14 [] s s' v g W vs ((checkEv L s).trans h) hI hvs
      · simp at h
    | false =>
      rw [h14] at h
      simp only [cond_false] at h
      cases h12 : Nat.beq f 12 with
      | true =>
        rw [h12] at h
        have := Nat.eq_of_beq_eq_true h12
        subst this
        simp only [cond_true] at h
        cases he : eqAL args [d.T] with
        | false => rw [he] at h; simp at h
        | true =>
          rw [he] at h
          have := eqAL_sound _ _ he
          subst this
          exact callN_sound good 390 L 12 [d.T] s s' v g W vs ((hd.h12 L s).trans h) hI hvs
      | false =>
        rw [h12] at h
        simp only [cond_false] at h
        cases h13 : Nat.beq f 13 with
        | true =>
          rw [h13] at h
          have := Nat.eq_of_beq_eq_true h13
          subst this
          simp only [cond_true] at h
          cases he : eqAL args [d.T] with
          | false => rw [he] at h; simp at h
          | true =>
            rw [he] at h
            have := eqAL_sound _ _ he
            subst this
            exact callN_sound good 390 L 13 [d.T] s s' v g W vs ((hd.h13 L s).trans h) hI hvs
        | false =>
          rw [h13] at h
          exact callN_sound good 390 L f args s s' v g W vs h hI hvs

/-- The limits of this body. -/
noncomputable def lim : Lim := ⟨0, 0, 0, env.mu 3, env.rr 3, env.plan 3⟩

noncomputable def z25 : List AV := (zeroOf Tryz.prog 25).getD []
/-- The temporaries behind the first steps. -/
def ρ0 (w n : Int) : Nat → AV := upd (initρ [scv (.int .i64 w), scv (.int .i64 n)]) 4 (scv (.bool false))
def ρ1 (w n r q : Int) : Nat → AV := upd (upd (upd (upd (ρ0 w n) 16 (scv (.int .i64 n))) 17 (scv (.int .i64 r))) 18 (scv (.int .i64 q))) 1 (scv (.int .i64 q))
def ρ2 (w n r q : Int) : Nat → AV := upd (ρ1 w n r q) 5 (.ptr 0 0)
def ρ3 (w n r q k : Int) : Nat → AV := upd (upd (ρ2 w n r q) 19 (scv (.int .i64 w))) 20 (scv (.int .i64 k))

def none0 : Oper := ⟨none, .move (.tmp 0), 0, "", #[], none⟩
noncomputable def p (i : Nat) : Oper := (opsOf (sL c1)).getD i none0
noncomputable def q (i : Nat) : Oper := (opsOf r3).getD i none0

theorem hp : (opsOf (sL c1)).toList = [p 0, p 1, p 2, p 3] := by kernel_rfl
theorem hq : (opsOf r3).toList = [q 0, q 1] := by kernel_rfl

theorem cf_n (d : Told) (w n : Int) (s : Sto) : cf w n d lim 5 [scv (.int .i64 n), scv (.int .i64 3)] s = some (scv (.int .i64 (n % 3)), s) := by simp [cf]
theorem cf_w (d : Told) (w n : Int) (s : Sto) : cf w n d lim 5 [scv (.int .i64 w), scv (.int .i64 4)] s = some (scv (.int .i64 (w % 4)), s) := by simp [cf]

theorem run0 (d : Told) (w n : Int) (s : Sto) : evW env (cf w n d) 398 lim (sL c0) ⟨117, initρ [scv (.int .i64 w), scv (.int .i64 n)], s⟩ = some (.norm, ⟨117, ρ0 w n, s⟩) := by kernel_rfl

theorem run2 (d : Told) (w n : Int) (r q : Int) : evW env (cf w n d) 396 lim (sL c2) ⟨117, ρ1 w n r q, ⟨[], []⟩⟩ = some (.norm, ⟨117, ρ2 w n r q, ⟨[z25], []⟩⟩) := by kernel_rfl

theorem acts (d : Told) (w n : Int) (s : Sto) : actA env lim (cf w n d lim) (upd (ρ0 w n) 16 (scv (.int .i64 n))) s (p 1) = cf w n d lim 5 [scv (.int .i64 n), scv (.int .i64 3)] s := by kernel_rfl

theorem run1 (d : Told) (w n r q : Int) (s : Sto) (hr : n % 3 = r) (h2 : ∀ ρ s, ρ 17 = scv (.int .i64 r) → actA env lim (cf w n d lim) ρ s (p 2) = some (scv (.int .i64 q), s)) :
    opsA env lim (cf w n d lim) (opsOf (sL c1)) (opsOf (sL c1)).toList ⟨117, ρ0 w n, s⟩ = some ⟨117, ρ1 w n r q, s⟩ := by
  rw [hp]
  rw [opsA_step (v := scv (.int .i64 n)) (s' := s) (st' := ⟨117, upd (ρ0 w n) 16 (scv (.int .i64 n)), s⟩) (by kernel_rfl) (by kernel_rfl) (by kernel_rfl) (by kernel_rfl)]
  rw [opsA_step (v := scv (.int .i64 r)) (s' := s) (st' := ⟨117, upd (upd (ρ0 w n) 16 (scv (.int .i64 n))) 17 (scv (.int .i64 r)), s⟩) (by kernel_rfl) (by kernel_rfl) ((acts d w n s).trans (by rw [cf_n, hr])) (by kernel_rfl)]
  rw [opsA_step (v := scv (.int .i64 q)) (s' := s) (st' := ⟨117, upd (upd (upd (ρ0 w n) 16 (scv (.int .i64 n))) 17 (scv (.int .i64 r))) 18 (scv (.int .i64 q)), s⟩) (by kernel_rfl) (by kernel_rfl) (h2 _ _ rfl) (by kernel_rfl)]
  rw [opsA_step (v := scv (.int .i64 q)) (s' := s) (st' := ⟨117, ρ1 w n r q, s⟩) (by kernel_rfl) (by kernel_rfl) (by kernel_rfl) (by kernel_rfl)]
  rfl

theorem acts3 (d : Told) (w n r q' : Int) (s : Sto) : actA env lim (cf w n d lim) (upd (ρ2 w n r q') 19 (scv (.int .i64 w))) s (q 1) = cf w n d lim 5 [scv (.int .i64 w), scv (.int .i64 4)] s := by kernel_rfl

theorem run3 (d : Told) (w n r q' k : Int) (s : Sto) (hk : w % 4 = k) :
    opsA env lim (cf w n d lim) (opsOf r3) (opsOf r3).toList ⟨117, ρ2 w n r q', s⟩ = some ⟨117, ρ3 w n r q' k, s⟩ := by
  rw [hq]
  rw [opsA_step (v := scv (.int .i64 w)) (s' := s) (st' := ⟨117, upd (ρ2 w n r q') 19 (scv (.int .i64 w)), s⟩) (by kernel_rfl) (by kernel_rfl) (by kernel_rfl) (by kernel_rfl)]
  rw [opsA_step (v := scv (.int .i64 k)) (s' := s) (st' := ⟨117, ρ3 w n r q' k, s⟩) (by kernel_rfl) (by kernel_rfl) ((acts3 d w n r q' s).trans (by rw [cf_w, hk])) (by kernel_rfl)]
  rfl

/-- What is left behind the first steps. -/
noncomputable def rest (d : Told) (w n : Int) (st : St) : Option (Out × St) := match evW env (cf w n d) 394 lim b3 st with
  | some (.norm, st) => evW env (cf w n d) 395 lim t3 st
  | r => r

/-- The term that is expanded. -/
noncomputable def term (r q k : Int) : AV := match evW env (callN env 390) 394 lim b3 ⟨117, ρ3 0 0 r q k, ⟨[z25], []⟩⟩ with
  | some (.norm, st) => (loadA env st.s 25 (.ptr 0 0)).getD .junk
  | _ => .junk

def okPair (e : Nat) : Option AV → Bool
  | some (.tuple [_, .pv (.sc (.int .i64 (.ofNat x)))]) => Nat.beq e x
  | _ => false

theorem okPair_some {e : Nat} {x : Option AV} (h : okPair e x = true) : ∃ l, x = some (.tuple [l, scv (.int .i64 (.ofNat e))]) := by
  unfold okPair at h
  split at h
  · rename_i l y
    have := Nat.eq_of_beq_eq_true h
    subst this
    exact ⟨l, rfl⟩
  · simp at h

set_option maxRecDepth 100000 in
theorem told (r q k : Int) (e : Nat) (hc : closeL [] 0 0 [term r q k] = some [term r q k]) (h12 : okPair e (pureV env 389 12 [term r q k]) = true) (h13 : okPair e (pureV env 389 13 [term r q k]) = true) :
    ∃ l1 l2, Told.Ok ⟨term r q k, l1, l2, .ofNat e⟩ := by
  obtain ⟨l1, h1⟩ := okPair_some h12
  obtain ⟨l2, h2⟩ := okPair_some h13
  exact ⟨l1, l2, fun L s => callN_pure (by kernel_rfl) (by kernel_rfl) hc rfl h1 L s, fun L s => callN_pure (by kernel_rfl) (by kernel_rfl) hc rfl h2 L s⟩

theorem evW_left {E : Env} {cf : Lim → CallF} {n : Nat} {L : Lim} {a b c : Code} {st st' : St} (h : evW E cf n L a st = some (.norm, st')) :
    evW E cf (n + 2) L (.seq (.seq a b) c) st = (match evW E cf n L b st' with | some (.norm, st) => evW E cf (n + 1) L c st | r => r) := by
  rw [evW]
  rw [evW_seq h]
  rfl

set_option maxRecDepth 100000 in
theorem body (d : Told) (w n r q k : Int) (hr : n % 3 = r) (hk : w % 4 = k) (h2 : ∀ ρ s, ρ 17 = scv (.int .i64 r) → actA env lim (cf w n d lim) ρ s (p 2) = some (scv (.int .i64 q), s)) :
    bodyA env (cf w n d) 399 Tryz.f3 lim [scv (.int .i64 w), scv (.int .i64 n)] ⟨[], []⟩ = finishA env Tryz.f3 (rest d w n ⟨117, ρ3 w n r q k, ⟨[z25], []⟩⟩) := by
  rw [bodyA_eq hc0]
  have hN : Tryz.f3.ntmps = 117 := by kernel_rfl
  rw [hN, e0, evW_seq (run0 d w n _), e1, evW_seq (evW_region (run1 d w n r q _ hr h2)), e2, evW_seq (run2 d w n r q), e3]
  rw [evW_left (evW_region (run3 d w n r q k _ hk))]
  rfl

end Go.Proofs.YteaholhenmneoaaGreatDoor.dnfLimits
