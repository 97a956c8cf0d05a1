/-
  A table of calls that are known: each is shown once, with the help of others, and then looked up.
-/
import Derived.Test.YtedmfigcajdkbaaGreatDoorTenF
namespace Go.Tel

structure Known where
  n0 : Nat
  ro : Nat
  rt : Nat
  f : FuncId
  args : List AV
  s : Sto
  v : AV
  s' : Sto

def eqLL : List (List AV) → List (List AV) → Bool
  | [], [] => true
  | a :: xs, b :: ys => eqAL a b && eqLL xs ys
  | _, _ => false

def eqTs : List (Nat × Nat) → List (Nat × Nat) → Bool
  | [], [] => true
  | a :: xs, b :: ys => Nat.beq a.1 b.1 && Nat.beq a.2 b.2 && eqTs xs ys
  | _, _ => false

theorem eqLL_sound : ∀ a b : List (List AV), eqLL a b = true → a = b
  | [], [], _ => rfl
  | x :: xs, y :: ys, h => by
    simp only [eqLL, Bool.and_eq_true] at h
    rw [eqAL_sound _ _ h.1, eqLL_sound xs ys h.2]
  | [], _ :: _, h => by simp [eqLL] at h
  | _ :: _, [], h => by simp [eqLL] at h

theorem eqTs_sound : ∀ a b : List (Nat × Nat), eqTs a b = true → a = b
  | [], [], _ => rfl
  | (a, b) :: xs, (c, d) :: ys, h => by
    simp only [eqTs, Bool.and_eq_true] at h
    rw [Nat.eq_of_beq_eq_true h.1.1, Nat.eq_of_beq_eq_true h.1.2, eqTs_sound xs ys h.2]
  | [], _ :: _, h => by simp [eqTs] at h
  | _ :: _, [], h => by simp [eqTs] at h

theorem sto_ext {a b : Sto} (h1 : a.bs = b.bs) (h2 : a.ts = b.ts) : a = b := by
  cases a; cases b
  simp only at h1 h2
  rw [h1, h2]

def lookK (L : Lim) (f : FuncId) (args : List AV) (s : Sto) : List Known → Option (AV × Sto)
  | [] => none
  | k :: ks => bif Nat.beq f k.f && (Nat.beq L.n0 k.n0 && Nat.beq L.ro k.ro && Nat.beq L.rt k.rt && eqAL args k.args && eqLL s.bs k.s.bs && eqTs s.ts k.s.ts) then some (k.v, k.s') else lookK L f args s ks

/-- What is known of a call is so. -/
def Known.Ok (E : Env) (k : Known) : Prop :=
  ∀ (L : Lim) (g : Ghost) (w : World) (vs : List Value), L.n0 = k.n0 → L.ro = k.ro → L.rt = k.rt → Inv E g w k.s → VL g w k.args vs →
    (∃ fn, E.P.funcs[k.f]? = some fn ∧ fn.body.isSome = true ∧ (fn.name == "runtime.NumGoroutine") = false) ∧
    Calls E.P k.f vs.toArray w fun e w' => ∃ v' g', e = .returned v' ∧ V g' w' k.v v' ∧ Ext L g w g' w' ∧ Inv E g' w' k.s'

theorem lookK_ok {E : Env} {L : Lim} {f : FuncId} {args : List AV} {s s' : Sto} {v : AV} : ∀ {ks : List Known}, (∀ k ∈ ks, k.Ok E) → lookK L f args s ks = some (v, s') →
    ∃ k : Known, k.Ok E ∧ k.f = f ∧ L.n0 = k.n0 ∧ L.ro = k.ro ∧ L.rt = k.rt ∧ k.args = args ∧ k.s = s ∧ k.v = v ∧ k.s' = s'
  | [], _, h => by simp [lookK] at h
  | k :: ks, hk, h => by
    simp only [lookK] at h
    cases hc : (Nat.beq f k.f && (Nat.beq L.n0 k.n0 && Nat.beq L.ro k.ro && Nat.beq L.rt k.rt && eqAL args k.args && eqLL s.bs k.s.bs && eqTs s.ts k.s.ts)) with
    | false =>
      rw [hc] at h
      exact lookK_ok (fun k' h' => hk k' (List.mem_cons_of_mem _ h')) h
    | true =>
      rw [hc] at h
      simp only [cond_true, Option.some.injEq, Prod.mk.injEq] at h
      simp only [Bool.and_eq_true] at hc
      obtain ⟨h1, ⟨⟨⟨⟨h2, h3⟩, h4⟩, h5⟩, h6⟩, h7⟩ := hc
      have hs : k.s = s := sto_ext (eqLL_sound _ _ h6).symm (eqTs_sound _ _ h7).symm
      exact ⟨k, hk k (List.mem_cons_self ..), (Nat.eq_of_beq_eq_true h1).symm, Nat.eq_of_beq_eq_true h2, Nat.eq_of_beq_eq_true h3, Nat.eq_of_beq_eq_true h4, (eqAL_sound _ _ h5).symm, hs, h.1, h.2⟩

/-- A call, with a table of known ones. -/
def callK (E : Env) (ks : List Known) : Nat → Lim → CallF
  | 0, _, _, _, _ => none
  | n + 1, L, f, args, s => match lookK L f args s ks with
    | some r => some r
    | none => match E.P.funcs[f]? with
      | some fn => bif E.clone f && emptyArg args then some (.capped [], s) else enterA E (callK E ks n) n L f fn args s
      | none => none

/-- One call more. -/
theorem enter_ok {E : Env} (hG : Good E) {n : Nat} {cf : Lim → CallF} (hcf : ∀ L, CallOk E L (cf L)) (L : Lim) :
    CallOk E L (fun f args s => match E.P.funcs[f]? with
      | some fn => bif E.clone f && emptyArg args then some (.capped [], s) else enterA E cf n L f fn args s
      | none => none) := by
    intro f args s s' v g w vs h hI hargs
    simp only at h
    split at h
    · rename_i fn hfn
      cases hcl : (E.clone f && emptyArg args) with
      | true =>
        rw [hcl] at h
        simp only [cond_true, Option.some.injEq, Prod.mk.injEq] at h
        obtain ⟨rfl, rfl⟩ := h
        simp only [Bool.and_eq_true] at hcl
        obtain ⟨⟨fn', k1, k2⟩, k3⟩ := hG.clones f hcl.1
        refine ⟨⟨fn', k1, k2, hG.names f fn' k1 k2⟩, ?_⟩
        have he := hcl.2
        unfold emptyArg at he
        split at he
        · rename_i x
          obtain ⟨u, us, rfl, h1, h2⟩ := hargs.cases
          have := h2.nil_inv
          subst this
          split at he
          · rename_i hr
            obtain ⟨base, cap, b, o, sz, q, rfl, _, _⟩ := rowsOf_sound h1 hr
            refine (k3 w base cap).mono ?_
            rintro e w' ⟨b', rfl, hw⟩
            have hv : ∀ g w', V g w' (.capped []) (.slice b' 0 0) := fun g w' => V.capped (rows := []) (b := 0) (o := 0) (sz := 0) (f := fun _ _ => undef) RowsAt.nil
            rcases hw with rfl | ⟨ob, rfl⟩
            · exact ⟨_, g, rfl, hv _ _, Ext.refl _ _ _, hI⟩
            · obtain ⟨r1, r2⟩ := Inv.pushO (L := L) hI ob
              exact ⟨_, _, rfl, hv _ _, r1, r2⟩
          · simp at he
        · simp at he
      | false =>
      rw [hcl] at h
      simp only [cond_false] at h
      cases hb : fn.body with
      | none =>
        exfalso
        unfold enterA at h
        split at h
        · have hnb : ∀ L args s, bodyA E cf n fn L args s = none := fun L args s => by simp [bodyA, hb]
          simp only [pureA, hnb] at h
          generalize E.kind f = k at h
          cases k with
          | esc => simp at h
          | rd => simp only at h; split at h <;> simp at h
          | im => cases hb : noIdL args <;> simp [hb] at h
          | st => simp at h
        · simp at h
      | some body =>
        refine ⟨⟨fn, hfn, by simp [hb], hG.names f fn hfn (by simp [hb])⟩, ?_⟩
        exact enterA_sound hG (hcf) hfn hb hI hargs h
    · simp at h


theorem callK_sound {E : Env} (hG : Good E) {ks : List Known} (hk : ∀ k ∈ ks, k.Ok E) : ∀ (n : Nat) (L : Lim), CallOk E L (callK E ks n L)
  | 0, L => by intro f args s s' v g w vs h; simp [callK] at h
  | n + 1, L => by
    intro f args s s' v g w vs h hI hargs
    simp only [callK] at h
    split at h
    · rename_i r hr
      simp at h; subst h
      obtain ⟨k, h1, rfl, h3, h4, h5, rfl, rfl, rfl, rfl⟩ := lookK_ok hk hr
      exact h1 L g w vs h3 h4 h5 hI hargs
    · exact enter_ok hG (callK_sound hG hk n) L f args s s' v g w vs h hI hargs

/-- An entry of the table, by evaluation. -/
theorem Known.of_eval {E : Env} (hG : Good E) {ks : List Known} (hk : ∀ k ∈ ks, k.Ok E) (n : Nat) (k : Known)
    (h : ∀ mu rr pl, callK E ks n ⟨k.n0, k.ro, k.rt, mu, rr, pl⟩ k.f k.args k.s = some (k.v, k.s')) : k.Ok E := by
  intro L g w vs h1 h2 h3 hI hargs
  obtain ⟨a, b, c, mu, rr, pl⟩ := L
  simp only at h1 h2 h3
  subst h1 h2 h3
  exact callK_sound hG hk n _ _ _ _ _ _ g w vs (h mu rr pl) hI hargs

def eqRes (v : AV) (s : Sto) : Option (AV × Sto) → Bool
  | some (a, b) => eqA a v && eqLL b.bs s.bs && eqTs b.ts s.ts
  | none => false

theorem eqRes_sound {v : AV} {s : Sto} {r : Option (AV × Sto)} (h : eqRes v s r = true) : r = some (v, s) := by
  unfold eqRes at h
  split at h
  · rename_i a b
    simp only [Bool.and_eq_true] at h
    rw [eqA_sound _ _ h.1.1, sto_ext (eqLL_sound _ _ h.1.2) (eqTs_sound _ _ h.2)]
  · simp at h

theorem Known.of_check {E : Env} (hG : Good E) {ks : List Known} (hk : ∀ k ∈ ks, k.Ok E) (n : Nat) (k : Known)
    (h : ∀ mu rr pl, eqRes k.v k.s' (callK E ks n ⟨k.n0, k.ro, k.rt, mu, rr, pl⟩ k.f k.args k.s) = true) : k.Ok E :=
  Known.of_eval hG hk n k fun mu rr pl => eqRes_sound (h mu rr pl)

theorem eval_callsK {E : Env} (hG : Good E) {ks : List Known} (hk : ∀ k ∈ ks, k.Ok E) {n : Nat} {f : FuncId} {vs : List Value} {u : Value} {s' : Sto} {W : World} (hW : Globs E W) (h : callK E ks n L0 f (vs.map scv) ⟨[], []⟩ = some (scv u, s')) :
    Calls E.P f vs.toArray W fun e w' => e = .returned u ∧ Still W w' := by
  refine ((callK_sound hG hk n L0 f _ _ _ _ _ _ _ h hW.inv (VL.scalars vs)).2).mono ?_
  rintro e w' ⟨v', g', rfl, hv, hx, _⟩
  refine ⟨by rw [hv.scv_inv], hx.os, hx.output, fun b hb => (hx.out b hb (fun _ e => by simp [Ghost.bare] at e) (fun _ _ e => by simp [Ghost.bare] at e) (fun _ e => by simp [Ghost.bare] at e)).1⟩

end Go.Tel
