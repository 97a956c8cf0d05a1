/-
  Steps for walks: an append and a clear by what they run to.
-/
import Derived.Test.YtcmeadgdojfhnaaGreatDoorEvI
import Derived.Deep.RegionLaw
import Derived.ArgAppend
set_option linter.unusedSimpArgs false
set_option linter.unusedVariables false
namespace Go.Tel
theorem step_copy {P : Program} {ops : Array Oper} {o : Oper} {a : Act} {w : World} {K : Act → World → Prop} {Q : Exit → Act → World → Prop} {E : Prop}
    (hg : o.guard = none) (s x : Operand) (t u : TypeId) (hop : o.op = Op.call { callee := Callee.builtin Builtin.copy, args := #[s, x], argTypes := #[t, u] }) (sv xv v : Value) (w' : World)
    (hs : a.eval s = sv) (hx : a.eval x = xv) (hrun : (Builtin.copy_ #[t, u] o.type #[sv, xv]).run P w = .ok v w') (hK : K (a.put o.dst v) w') :
    if Region.wanted o (yielded ops a.tmps) = true then Oper.wp P o a w K Q else E := by
  have hw : Region.wanted o (yielded ops a.tmps) = true := by grind[Region.wanted]
  rw [if_pos hw]
  unfold Oper.wp
  simp [execOp, hop, resolve, invoke, builtin, hs, hx, hrun, Result.andThen]
  exact hK
theorem list_append {P : Program} {ops : Array Oper} {o : Oper} {a : Act} {w : World} {rest : List Oper} {Q : Exit → Act → World → Prop}
    (hg : o.guard = none) (s x : Operand) (t u : TypeId) (hop : o.op = Op.call { callee := Callee.builtin Builtin.append, args := #[s, x], argTypes := #[t, u] }) (sv xv v : Value) (w' : World)
    (hs : a.eval s = sv) (hx : a.eval x = xv) (hrun : (Builtin.append_ #[t, u] o.type #[sv, xv]).run P w = .ok v w') (hK : wpList P ops Q rest (a.put o.dst v) w') : wpList P ops Q (o :: rest) a w := by
  refine wpList_plain hg fun K hK' => ?_
  unfold Oper.wp
  simp [execOp, hop, resolve, invoke, builtin, hs, hx, hrun, Result.andThen]
  exact hK' _ _ hK
theorem list_copy {P : Program} {ops : Array Oper} {o : Oper} {a : Act} {w : World} {rest : List Oper} {Q : Exit → Act → World → Prop}
    (hg : o.guard = none) (s x : Operand) (t u : TypeId) (hop : o.op = Op.call { callee := Callee.builtin Builtin.copy, args := #[s, x], argTypes := #[t, u] }) (sv xv v : Value) (w' : World)
    (hs : a.eval s = sv) (hx : a.eval x = xv) (hrun : (Builtin.copy_ #[t, u] o.type #[sv, xv]).run P w = .ok v w') (hK : wpList P ops Q rest (a.put o.dst v) w') : wpList P ops Q (o :: rest) a w := by
  refine wpList_plain hg fun K hK' => ?_
  unfold Oper.wp
  simp [execOp, hop, resolve, invoke, builtin, hs, hx, hrun, Result.andThen]
  exact hK' _ _ hK
theorem run_copy {P : Program} {w : World} {t u elem T : TypeId} {i : TypeInfo} {b o dl dc : Nat} {x : Value} {n : Nat} {us vs : List Value} {et : TypeId} (ht : P.underlying t = some (.slice elem)) (hi : P.info? elem = some i) (h1 : i.size = 1)
    (hn : (Builtin.lenOf x).run P w = .ok n w) (hf : (Builtin.firstCells 1 (Nat.min n dl) x).run P w = .ok (List.toArray us) w) (hone : ∀ u ∈ us, u.oneCell' = true)
    (hb : w.heap[b]? = some (.cells ⟨vs⟩ et (0, 0))) (hle : o + us.length ≤ vs.length) :
    (Builtin.copy_ #[t, u] T #[.slice (some ⟨b, o, none⟩) dl dc, x]).run P w = .ok (goInt (Nat.min n dl : Nat)) (putRowB w b (setV vs o us) et) := by
  have hst := storeCells_run (P := P) (b := b) (o := o) (e := et) us 0 w vs hone hb (by omega)
  simp[*,Builtin.copy_,run_underlying,run_sizeOf]
theorem run_append_make {P : Program} {w : World} {t u elem T : TypeId} {k : IntKind} {i : TypeInfo} {base : Option Addr} {sLen sCap n : Nat} {zv : Value} {os : List Value}
    (ht : P.underlying t = some (.slice elem)) (hi : P.info? elem = some i) (hu : P.underlying u = some (.int k)) (h1 : i.size = 1) (hz : i.zero = some zv) (hzc : zv.cells = #[zv])
    (ho : (Builtin.firstCells 1 sLen (.slice base sLen sCap)).run P (drewW w) = .ok (List.toArray os) (drewW w)) (hn : (n : Int) < 9223372036854775808) (hn0 : 0 < n)
    (hroom : sCap < sLen + n) (hb1 : (sLen + n) * i.bytes ≤ 2 ^ 45) (hb2 : sLen + n ≤ 2 ^ 45) :
    ∃ cap rest, sLen + n ≤ cap ∧ rest.length = cap - (sLen + n) ∧
      (Builtin.append_ #[t, u] T #[.slice base sLen sCap, .int .i64 n]).run P w = .ok (.slice (some ⟨w.heap.size, 0, none⟩) (sLen + n) cap) (pushW (drewW w) (os ++ List.replicate n zv ++ rest) elem) := by
  have hcap : ¬ (2 ^ 48 < Builtin.nextslicecap (sLen + n) sCap * i.bytes) := by
    have := nextslicecap_le (sLen + n) sCap hroom
    have := Nat.mul_le_mul_right i.bytes this
    grind
  have hi64 : ¬ (IntKind.i64.max < ((sLen : Int) + (n : Int))) := by
    have : IntKind.i64.max = 9223372036854775807 := rfl
    omega
  have hwr : IntKind.i64.wrap (n : Int) = n := by grind[IntKind.wrap_i64]
  have hnb : ¬ ((n : Int) * (i.bytes : Int) > 2 ^ 48) := by grind
  have hzero : ∀ w' : World, (zeroValue elem).run P w' = .ok zv w' := fun w' => by simp[*,zeroValue,run_typeInfo]
  have hzr : ∀ n, Builtin.zeroCells zv.cells n = List.toArray (List.replicate n zv) := fun n => by
    apply Array.ext'
    rw [hzc]
    simp [Builtin.zeroCells]
    apply List.ext_getElem
    all_goals grind
  refine ⟨(sLen + n) + w.tape w.drawn (.appendCap (sLen + n) sCap elem) % (2 ^ 63 - (sLen + n)), (Builtin.zeroCells zv.cells ((sLen + n) + w.tape w.drawn (.appendCap (sLen + n) sCap elem) % (2 ^ 63 - (sLen + n)) - (sLen + n))).toList, Nat.le_add_right _ _, ?_, ?_⟩
  · grind
  · simp only [Builtin.append_]
    have hnn : ¬ (n : Int) < 0 := by omega
    have h1n : ¬ (n = 0) := by omega
    simp [run_underlying ht, run_sizeOf hi, h1, run_underlying hu, run_typeInfo hi, Question.forced, Question.cut, asInt, asIntOf, hwr]
    have hnb' : ¬ (281474976710656 < (n : Int) * (i.bytes : Int)) := by omega
    have hroom' : ¬ (sLen + n ≤ sCap) := by omega
    have hcap' : ¬ (281474976710656 < Builtin.nextslicecap (sLen + n) sCap * i.bytes) := by omega
    have h9 : ¬ (9223372036854775807 < (sLen : Int) + (n : Int)) := by omega
    simp only [if_neg hnn, if_neg hnb', if_neg hroom', if_neg h9, if_neg hcap', if_neg h1n]
    have ho' : (Builtin.firstCells 1 sLen (.slice base sLen sCap)).run P w.drew = .ok (List.toArray os) w.drew := ho
    have hz' : ∀ n, Builtin.zeroCells zv.cells n = List.toArray (List.replicate n zv) := hzr
    simp [ho', hzero, hz', newRow, pushW, drewW]
    have e : ∀ m, os.toArray ++ Array.replicate m zv = (⟨os ++ List.replicate m zv⟩ : Array Value) := fun m => by simp
    rw [e]
    rfl
structure DelC (P : Program) (f : FuncId) (zs : List Value) : Prop where
  body : HasBody P f
  pos : zs ≠ []
  run : ∀ (w : World) (b len cap : Nat) (vs : List Value) (e : TypeId) (i j : Nat), w.heap[b]? = some (.cells ⟨vs⟩ e (0, 0)) → cap * zs.length ≤ vs.length → len ≤ cap → i < j → j ≤ len → (∀ u ∈ vs.take (len * zs.length), u.oneCell' = true) →
    Calls P f #[.slice (some ⟨b, 0, none⟩) len cap, .int .i64 i, .int .i64 j] w fun e' w' => e' = .returned (.slice (some ⟨b, 0, none⟩) (i + (len - j)) cap) ∧
      w' = putRowB w.drew b (setV (setV vs (i * zs.length) ((vs.drop (j * zs.length)).take ((len - j) * zs.length))) ((i + (len - j)) * zs.length) (repl (j - i) zs)) e
end Go.Tel
