/-
  Code: each piece that the evaluator answers is walked as it says.
-/
import Derived.Test.YtedmfigcajdkbaaGreatDoorTenC
namespace Go.Tel

/-- The second and later rounds of a loop. -/
def LoopWp (P : Program) (c : Code) (Q : Exit → Act → World → Prop) (a : Act) (w : World) : Prop :=
  ∀ (b : Frame) (k : List Item) (cs : List Frame), ∃ e a' w', Q e a' w' ∧ Arrives P (lone (b.at a (.code c :: .inLoop c :: k)) cs w) b k cs e a' w'

theorem LoopWp.wp {P : Program} {c : Code} {Q : Exit → Act → World → Prop} {a : Act} {w : World} (h : LoopWp P c Q a w) : (Code.loop c).wp P Q a w := by
  intro b k cs
  obtain ⟨e, a', w', hq, harr⟩ := h b k cs
  exact ⟨e, a', w', hq, .of_steps (.one step_loop) harr⟩

theorem LoopWp.round {P : Program} {c : Code} {Q : Exit → Act → World → Prop} {a : Act} {w : World} (h : c.wp P (Exit.then (LoopWp P c Q) Q) a w) : LoopWp P c Q a w := by
  intro b k cs
  obtain ⟨e, a₁, w₁, hq, harr⟩ := h b (.inLoop c :: k) cs
  cases e with
  | normal =>
    obtain ⟨e₂, a₂, w₂, hq₂, harr₂⟩ := hq b k cs
    exact ⟨e₂, a₂, w₂, hq₂, .of_steps (Steps.trans harr (.one step_inLoop)) harr₂⟩
  | exit id => exact ⟨_, a₁, w₁, hq, .pass (x := .inLoop c) rfl (fun _ _ => .inl (by simp)) harr⟩
  | goto l => exact ⟨_, a₁, w₁, hq, .pass (x := .inLoop c) rfl (fun _ _ => .inl (by simp)) harr⟩
  | ret => exact ⟨_, a₁, w₁, hq, .pass (x := .inLoop c) rfl (fun _ _ => .inl (by simp)) harr⟩
  | panic ch => exact ⟨_, a₁, w₁, hq, .pass (x := .inLoop c) rfl (fun _ _ => .inl (by simp)) harr⟩
  | outgrown => exact ⟨_, a₁, w₁, hq, .pass (x := .inLoop c) rfl (fun _ _ => .inl (by simp)) harr⟩

def Out.toExit : Out → Exit
  | .norm => .normal
  | .exit id => .exit id
  | .ret => .ret

/-- What is shown of a piece of code that answers 'o' with 'st''. -/
def Walks (E : Env) (L : Lim) (st : St) (o : Out) (st' : St) (W : (Exit → Act → World → Prop) → Act → World → Prop) : Prop :=
  ∀ (g : Ghost) (w : World) (a : Act) (Q : Exit → Act → World → Prop), Sim E g w st a →
    (∀ a' w' g', Sim E g' w' st' a' → a'.defers = a.defers → Ext L g w g' w' → st'.N = st.N → Q o.toExit a' w') → W Q a w

theorem evW_sound {E : Env} {cf : Lim → CallF} {L : Lim} (hcf : CallOk E L (cf L)) (hmix : E.P.follows .mixedOrders = true) :
    ∀ (n : Nat) (c : Code) (st st' : St) (o : Out), plansOk L.pl c = true → evW E cf n L c st = some (o, st') →
      Walks E L st o st' (fun Q => c.wp E.P Q) ∧ ∀ b, c = .loop b → Walks E L st o st' (fun Q => LoopWp E.P b Q) := by
  intro n
  induction n with
  | zero => intro c st st' o _ h; simp [evW] at h
  | succ n ih =>
    intro c st st' o hpl h
    have done : ∀ (o' : Out) {W : (Exit → Act → World → Prop) → Act → World → Prop}, (∀ Q a w, Q o'.toExit a w → W Q a w) → some (o', st) = some (o, st') → Walks E L st o st' W := by
      intro o' W hW e g w a Q hs hQ
      simp only [Option.some.injEq, Prod.mk.injEq] at e
      obtain ⟨rfl, rfl⟩ := e
      exact hW _ _ _ (hQ a w g hs rfl (Ext.refl _ _ _) rfl)
    cases c with
    | skip => exact ⟨done .norm (fun _ _ _ h => wp_skip h) h, fun _ e => by simp at e⟩
    | ret => exact ⟨done .ret (fun _ _ _ h => wp_ret h) h, fun _ e => by simp at e⟩
    | exit id => exact ⟨done (.exit id) (fun _ _ _ h => wp_exit h) h, fun _ e => by simp at e⟩
    | region id ops draw =>
      refine ⟨?_, fun _ e => by simp at e⟩
      cases draw with
      | false =>
        simp only [evW] at h
        split at h
        · rename_i st1 h1
          simp only [Option.some.injEq, Prod.mk.injEq] at h
          obtain ⟨rfl, rfl⟩ := h
          intro g w a Q hs hQ
          refine wp_region ?_
          have := opsA_sound (Q := Q) hcf ops.toList.length 0 ops.toList st st1 a w g rfl rfl hs h1 hQ
          rw [Array.length_toList] at this
          rw [List.range_eq_range']
          exact this
        · simp at h
      | true =>
        simp only [evW] at h
        simp only [plansOk, Bool.and_eq_true] at hpl
        have run : ∀ (k : Nat) (st1 : St), (match L.pl k with | some p => planOk ops p | none => true) = true → planned E L (cf L) ops st (L.pl k) = some st1 → some (Out.norm, st1) = some (o, st') → Walks E L st o st' (fun Q => (Code.region id ops true).wp E.P Q) := by
          intro k st1 hk h1 e
          simp only [Option.some.injEq, Prod.mk.injEq] at e
          obtain ⟨rfl, rfl⟩ := e
          cases hp : L.pl k with
          | none => rw [hp] at h1; simp [planned] at h1
          | some p =>
            rw [hp] at h1 hk
            simp only [planned] at h1
            simp only at hk
            intro g w a Q hs hQ
            exact regA_sound hcf hmix hk hs.inv hs.size hs.tmps h1 fun a' w' g' q1 q2 q3 q4 q5 q6 => hQ a' w' g' ⟨q4, q1, q5⟩ q2 q3 q6
        split at h
        · rename_i st1 h1
          exact run id st1 hpl.1 h1 h
        · split at h
          · rename_i st1 h1
            exact run (id + 1000000) st1 hpl.2 h1 h
          · simp at h
    | seq x y =>
      refine ⟨?_, fun _ e => by simp at e⟩
      simp only [plansOk, Bool.and_eq_true] at hpl
      simp only [evW] at h
      intro g w a Q hs hQ
      refine wp_seq ?_
      split at h
      · rename_i st1 h1
        refine (ih x st st1 .norm hpl.1 h1).1 g w a _ hs fun a' w' g' q1 q2 q3 q4 => ?_
        exact (ih y st1 st' o hpl.2 h).1 g' w' a' _ q1 fun a'' w'' g'' r1 r2 r3 r4 => hQ a'' w'' g'' r1 (r2.trans q2) (q3.trans r3) (r4.trans q4)
      · rename_i hne
        refine (ih x st st' o hpl.1 h).1 g w a _ hs fun a' w' g' q1 q2 q3 q4 => ?_
        have := hQ a' w' g' q1 q2 q3 q4
        cases o with
        | norm => exact absurd h (hne st')
        | exit id => exact this
        | ret => exact this
    | cond c x y =>
      refine ⟨?_, fun _ e => by simp at e⟩
      simp only [plansOk, Bool.and_eq_true] at hpl
      simp only [evW] at h
      intro g w a Q hs hQ
      split at h
      · rename_i t ht
        have hv := evalO_sound hs.tmps c
        rw [ht] at hv
        refine wp_cond hv.scv_inv ?_
        cases t with
        | true => exact (ih x st st' o hpl.1 h).1 g w a _ hs hQ
        | false => exact (ih y st st' o hpl.2 h).1 g w a _ hs hQ
      · simp at h
    | block id b =>
      refine ⟨?_, fun _ e => by simp at e⟩
      simp only [plansOk] at hpl
      simp only [evW] at h
      intro g w a Q hs hQ
      refine wp_block ?_
      split at h
      · rename_i j st1 h1
        refine (ih b st st1 (.exit j) hpl h1).1 g w a _ hs fun a' w' g' q1 q2 q3 q4 => ?_
        show if j = id then Q .normal a' w' else Q (.exit j) a' w'
        cases hj : Nat.beq j id with
        | true =>
          rw [hj] at h
          simp only [cond_true, Option.some.injEq, Prod.mk.injEq] at h
          obtain ⟨rfl, rfl⟩ := h
          rw [if_pos (Nat.eq_of_beq_eq_true hj)]
          exact hQ a' w' g' q1 q2 q3 q4
        | false =>
          rw [hj] at h
          simp only [cond_false, Option.some.injEq, Prod.mk.injEq] at h
          obtain ⟨rfl, rfl⟩ := h
          rw [if_neg (Nat.ne_of_beq_eq_false hj)]
          exact hQ a' w' g' q1 q2 q3 q4
      · rename_i hne
        refine (ih b st st' o hpl h).1 g w a _ hs fun a' w' g' q1 q2 q3 q4 => ?_
        have := hQ a' w' g' q1 q2 q3 q4
        cases o with
        | norm => exact this
        | exit id => exact absurd h (hne id st')
        | ret => exact this
    | loop b =>
      have hpb : plansOk L.pl b = true := by simpa [plansOk] using hpl
      have hlw : Walks E L st o st' (fun Q => LoopWp E.P b Q) := by
        simp only [evW] at h
        intro g w a Q hs hQ
        refine LoopWp.round ?_
        split at h
        · rename_i st1 h1
          refine (ih b st st1 .norm hpb h1).1 g w a _ hs fun a' w' g' q1 q2 q3 q4 => ?_
          exact (ih (.loop b) st1 st' o hpl h).2 b rfl g' w' a' _ q1 fun a'' w'' g'' r1 r2 r3 r4 => hQ a'' w'' g'' r1 (r2.trans q2) (q3.trans r3) (r4.trans q4)
        · rename_i hne
          refine (ih b st st' o hpb h).1 g w a _ hs fun a' w' g' q1 q2 q3 q4 => ?_
          have := hQ a' w' g' q1 q2 q3 q4
          cases o with
          | norm => exact absurd h (hne st')
          | exit id => exact this
          | ret => exact this
      exact ⟨fun g w a Q hs hQ => (hlw g w a Q hs hQ).wp, fun b' e => by simp at e; subst e; exact hlw⟩
    | _ => simp [evW] at h

end Go.Tel
