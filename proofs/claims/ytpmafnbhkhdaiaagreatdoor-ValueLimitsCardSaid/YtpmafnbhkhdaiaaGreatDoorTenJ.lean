/-
  Steps for walks: an append and a clear by what they run to.
-/
import Derived.Test.YtpmafnbhkhdaiaaGreatDoorEvI
import Derived.Deep.RegionLaw
import Derived.ArgAppend
set_option linter.unusedSimpArgs false
set_option linter.unusedVariables false
namespace Go.Tel
theorem step_append {P : Program} {ops : Array Oper} {o : Oper} {a : Act} {w : World} {K : Act → World → Prop} {Q : Exit → Act → World → Prop} {E : Prop}
    (hg : o.guard = none) (s x : Operand) (t u : TypeId) (hop : o.op = Op.call { callee := Callee.builtin Builtin.append, args := #[s, x], argTypes := #[t, u] }) (sv xv v : Value) (w' : World)
    (hs : a.eval s = sv) (hx : a.eval x = xv) (hrun : (Builtin.append_ #[t, u] o.type #[sv, xv]).run P w = .ok v w') (hK : K (a.put o.dst v) w') :
    if Region.wanted o (yielded ops a.tmps) = true then Oper.wp P o a w K Q else E := by
  have hw : Region.wanted o (yielded ops a.tmps) = true := by simp [Region.wanted, hg]
  rw [if_pos hw]
  unfold Oper.wp
  simp [execOp, hop, resolve, invoke, builtin, hs, hx, hrun, Result.andThen]
  exact hK
theorem zeroCells_repl (zs : List Value) (h0 : zs ≠ []) (n : Nat) : (Builtin.zeroCells ⟨zs⟩ n).toList = repl n zs := by
  have hpos : 0 < zs.length := List.length_pos_iff.2 h0
  have hlen : ∀ n, (repl n zs).length = n * zs.length := fun n => by
    induction n with
    | zero => simp [repl]
    | succ n ih => simp [repl, ih, Nat.add_mul]; omega
  have hget : ∀ (n i : Nat), i < n * zs.length → (repl n zs)[i]? = zs[i % zs.length]? := fun n => by
    induction n with
    | zero => intro i hi; simp at hi
    | succ n ih =>
      intro i hi
      simp only [repl]
      rcases Nat.lt_or_ge i zs.length with h | h
      · rw [List.getElem?_append_left h, Nat.mod_eq_of_lt h]
      · rw [List.getElem?_append_right h, ih (i - zs.length) (by rw [Nat.add_mul] at hi; omega), Nat.mod_eq_sub_mod h]
  apply List.ext_getElem?
  intro i
  by_cases hi : i < n * zs.length
  · rw [hget n i hi]
    have hm : i % zs.length < zs.length := Nat.mod_lt _ hpos
    simp [Builtin.zeroCells, hi, hm]
  · have h1 : (repl n zs)[i]? = none := List.getElem?_eq_none (by rw [hlen]; omega)
    rw [h1]
    simp [Builtin.zeroCells]
    omega
theorem run_clear {P : Program} {w : World} {t e ty : TypeId} {z : Value} {vs : List Value} {et : TypeId} (ht : P.underlying t = some (.slice e)) (hv : ∀ w, (zeroValue e).run P w = .ok z w) {zs : List Value} (hz : z.cells = ⟨zs⟩) (hz0 : zs ≠ []) (h1 : ∀ u ∈ zs, u.oneCell' = true) {b o n c : Nat} (hn : 0 < n)
    (hb : w.heap[b]? = some (.cells ⟨vs⟩ et (0, 0))) (hle : o + n * zs.length ≤ vs.length) :
    (Builtin.clear_ #[t] ty #[.slice (some ⟨b, o, none⟩) n c]).run P w = .ok (.tuple #[]) (putRowB w b (setV vs o (repl n zs)) et) := by
  have hzc : (Builtin.zeroCells z.cells n).toList = repl n zs := by rw [hz]; exact zeroCells_repl zs hz0 n
  have hmem : ∀ (n : Nat), ∀ u ∈ repl n zs, u.oneCell' = true := fun n => by
    induction n with
    | zero => simp [repl]
    | succ n ih =>
      intro u hu
      simp only [repl, List.mem_append] at hu
      rcases hu with hu | hu
      · exact h1 u hu
      · exact ih u hu
  have hlen : ∀ n, (repl n zs).length = n * zs.length := fun n => by
    induction n with
    | zero => simp [repl]
    | succ n ih => simp [repl, ih, Nat.add_mul]; omega
  have hst := storeCells_run (P := P) (b := b) (o := o) (repl n zs) 0 w vs (hmem n) hb (by rw [hlen]; simpa using hle)
  simp only [Nat.add_zero] at hst
  obtain ⟨m, rfl⟩ : ∃ m, n = m + 1 := ⟨n - 1, by omega⟩
  simp [Builtin.clear_, run_underlying ht, hv, hzc, hst]
theorem step_copy {P : Program} {ops : Array Oper} {o : Oper} {a : Act} {w : World} {K : Act → World → Prop} {Q : Exit → Act → World → Prop} {E : Prop}
    (hg : o.guard = none) (s x : Operand) (t u : TypeId) (hop : o.op = Op.call { callee := Callee.builtin Builtin.copy, args := #[s, x], argTypes := #[t, u] }) (sv xv v : Value) (w' : World)
    (hs : a.eval s = sv) (hx : a.eval x = xv) (hrun : (Builtin.copy_ #[t, u] o.type #[sv, xv]).run P w = .ok v w') (hK : K (a.put o.dst v) w') :
    if Region.wanted o (yielded ops a.tmps) = true then Oper.wp P o a w K Q else E := by
  have hw : Region.wanted o (yielded ops a.tmps) = true := by simp [Region.wanted, hg]
  rw [if_pos hw]
  unfold Oper.wp
  simp [execOp, hop, resolve, invoke, builtin, hs, hx, hrun, Result.andThen]
  exact hK
theorem list_append {P : Program} {ops : Array Oper} {o : Oper} {a : Act} {w : World} {rest : List Oper} {Q : Exit → Act → World → Prop}
    (hg : o.guard = none) (s x : Operand) (t u : TypeId) (hop : o.op = Op.call { callee := Callee.builtin Builtin.append, args := #[s, x], argTypes := #[t, u] }) (sv xv v : Value) (w' : World)
    (hs : a.eval s = sv) (hx : a.eval x = xv) (hrun : (Builtin.append_ #[t, u] o.type #[sv, xv]).run P w = .ok v w') (hK : wpList P ops Q rest (a.put o.dst v) w') : wpList P ops Q (o :: rest) a w := by
  refine wpList_plain hg fun K hK' => ?_
  unfold Oper.wp
  simp [execOp, hop, resolve, invoke, builtin, hs, hx, hrun, Result.andThen]
  exact hK' _ _ hK
theorem list_copy {P : Program} {ops : Array Oper} {o : Oper} {a : Act} {w : World} {rest : List Oper} {Q : Exit → Act → World → Prop}
    (hg : o.guard = none) (s x : Operand) (t u : TypeId) (hop : o.op = Op.call { callee := Callee.builtin Builtin.copy, args := #[s, x], argTypes := #[t, u] }) (sv xv v : Value) (w' : World)
    (hs : a.eval s = sv) (hx : a.eval x = xv) (hrun : (Builtin.copy_ #[t, u] o.type #[sv, xv]).run P w = .ok v w') (hK : wpList P ops Q rest (a.put o.dst v) w') : wpList P ops Q (o :: rest) a w := by
  refine wpList_plain hg fun K hK' => ?_
  unfold Oper.wp
  simp [execOp, hop, resolve, invoke, builtin, hs, hx, hrun, Result.andThen]
  exact hK' _ _ hK
theorem run_copy {P : Program} {w : World} {t u elem T : TypeId} {i : TypeInfo} {b o dl dc : Nat} {x : Value} {n : Nat} {us vs : List Value} {et : TypeId} (ht : P.underlying t = some (.slice elem)) (hi : P.info? elem = some i) (h1 : i.size = 1)
    (hn : (Builtin.lenOf x).run P w = .ok n w) (hf : (Builtin.firstCells 1 (Nat.min n dl) x).run P w = .ok (List.toArray us) w) (hone : ∀ u ∈ us, u.oneCell' = true)
    (hb : w.heap[b]? = some (.cells ⟨vs⟩ et (0, 0))) (hle : o + us.length ≤ vs.length) :
    (Builtin.copy_ #[t, u] T #[.slice (some ⟨b, o, none⟩) dl dc, x]).run P w = .ok (goInt (Nat.min n dl : Nat)) (putRowB w b (setV vs o us) et) := by
  have hst := storeCells_run (P := P) (b := b) (o := o) (e := et) us 0 w vs hone hb (by simpa using hle)
  simp only [Nat.add_zero] at hst
  simp only [Builtin.copy_]
  simp [run_underlying ht, run_sizeOf hi, h1, hn, hf, hst]
theorem run_append_make {P : Program} {w : World} {t u elem T : TypeId} {k : IntKind} {i : TypeInfo} {base : Option Addr} {sLen sCap n : Nat} {zv : Value} {os : List Value}
    (ht : P.underlying t = some (.slice elem)) (hi : P.info? elem = some i) (hu : P.underlying u = some (.int k)) (h1 : i.size = 1) (hz : i.zero = some zv) (hzc : zv.cells = #[zv])
    (ho : (Builtin.firstCells 1 sLen (.slice base sLen sCap)).run P (drewW w) = .ok (List.toArray os) (drewW w)) (hn : (n : Int) < 9223372036854775808) (hn0 : 0 < n)
    (hroom : sCap < sLen + n) (hb1 : (sLen + n) * i.bytes ≤ 2 ^ 45) (hb2 : sLen + n ≤ 2 ^ 45) :
    ∃ cap rest, sLen + n ≤ cap ∧ rest.length = cap - (sLen + n) ∧
      (Builtin.append_ #[t, u] T #[.slice base sLen sCap, .int .i64 n]).run P w = .ok (.slice (some ⟨w.heap.size, 0, none⟩) (sLen + n) cap) (pushW (drewW w) (os ++ List.replicate n zv ++ rest) elem) := by
  have hcap : ¬ (2 ^ 48 < Builtin.nextslicecap (sLen + n) sCap * i.bytes) := by
    have := nextslicecap_le (sLen + n) sCap hroom
    have := Nat.mul_le_mul_right i.bytes this
    rw [Nat.mul_assoc] at this
    omega
  have hi64 : ¬ (IntKind.i64.max < ((sLen : Int) + (n : Int))) := by
    have : IntKind.i64.max = 9223372036854775807 := rfl
    rw [this]
    omega
  have hwr : IntKind.i64.wrap (n : Int) = n := by rw [IntKind.wrap_i64]; omega
  have hnb : ¬ ((n : Int) * (i.bytes : Int) > 2 ^ 48) := by
    have h2 : n * i.bytes ≤ (sLen + n) * i.bytes := Nat.mul_le_mul_right _ (by omega)
    have h3 : n * i.bytes ≤ 2 ^ 45 := Nat.le_trans h2 hb1
    have h4 : ((n : Int) * (i.bytes : Int)) = ((n * i.bytes : Nat) : Int) := by simp
    rw [h4]
    omega
  have hzero : ∀ w' : World, (zeroValue elem).run P w' = .ok zv w' := fun w' => by simp [zeroValue, run_typeInfo hi, hz]
  have hzr : ∀ n, Builtin.zeroCells zv.cells n = List.toArray (List.replicate n zv) := fun n => by
    apply Array.ext'
    rw [hzc]
    simp [Builtin.zeroCells]
    apply List.ext_getElem
    · simp
    · intro i h1 h2
      simp [Nat.mod_one]
  refine ⟨(sLen + n) + w.tape w.drawn (.appendCap (sLen + n) sCap elem) % (2 ^ 63 - (sLen + n)), (Builtin.zeroCells zv.cells ((sLen + n) + w.tape w.drawn (.appendCap (sLen + n) sCap elem) % (2 ^ 63 - (sLen + n)) - (sLen + n))).toList, Nat.le_add_right _ _, ?_, ?_⟩
  · rw [hzr]; simp
  · simp only [Builtin.append_]
    have hnn : ¬ (n : Int) < 0 := by omega
    have h1n : ¬ (n = 0) := by omega
    simp [run_underlying ht, run_sizeOf hi, h1, run_underlying hu, run_typeInfo hi, Question.forced, Question.cut, asInt, asIntOf, hwr]
    have hnb' : ¬ (281474976710656 < (n : Int) * (i.bytes : Int)) := by simpa using hnb
    have hroom' : ¬ (sLen + n ≤ sCap) := by omega
    have hcap' : ¬ (281474976710656 < Builtin.nextslicecap (sLen + n) sCap * i.bytes) := by simpa using hcap
    have h9 : ¬ (9223372036854775807 < (sLen : Int) + (n : Int)) := by omega
    simp only [if_neg hnn, if_neg hnb', if_neg hroom', if_neg h9, if_neg hcap', if_neg h1n]
    have ho' : (Builtin.firstCells 1 sLen (.slice base sLen sCap)).run P w.drew = .ok (List.toArray os) w.drew := ho
    have hz' : ∀ n, Builtin.zeroCells zv.cells n = List.toArray (List.replicate n zv) := hzr
    simp [ho', hzero, hz', newRow, pushW, drewW]
    have e : ∀ m, os.toArray ++ Array.replicate m zv = (⟨os ++ List.replicate m zv⟩ : Array Value) := fun m => by
      apply Array.ext'
      simp
    rw [e]
    rfl
structure DelC (P : Program) (f : FuncId) (zs : List Value) : Prop where
  body : HasBody P f
  pos : zs ≠ []
  run : ∀ (w : World) (b len cap : Nat) (vs : List Value) (e : TypeId) (i j : Nat), w.heap[b]? = some (.cells ⟨vs⟩ e (0, 0)) → cap * zs.length ≤ vs.length → len ≤ cap → i < j → j ≤ len → (∀ u ∈ vs.take (len * zs.length), u.oneCell' = true) →
    Calls P f #[.slice (some ⟨b, 0, none⟩) len cap, .int .i64 i, .int .i64 j] w fun e' w' => e' = .returned (.slice (some ⟨b, 0, none⟩) (i + (len - j)) cap) ∧
      w' = putRowB w.drew b (setV (setV vs (i * zs.length) ((vs.drop (j * zs.length)).take ((len - j) * zs.length))) ((i + (len - j)) * zs.length) (repl (j - i) zs)) e
theorem delT_ok {E : Env} {f : FuncId} {zs : List Value} (hc : DelC E.P f zs) : ToldOk E f (delT zs.length) := by
  intro L args s s' v g w vs h hI hargs
  refine ⟨hc.body, ?_⟩
  unfold delT at h
  split at h
  · rename_i id len k i j
    obtain ⟨u, us, rfl, hu, hn⟩ := hargs.cases
    obtain ⟨u1, us1, rfl, hu1, hn1⟩ := hn.cases
    obtain ⟨u2, us2, rfl, hu2, hn2⟩ := hn1.cases
    have := hn2.nil_inv
    subst this
    have := hu1.scv_inv; subst this
    have := hu2.scv_inv; subst this
    have hpos : 0 < zs.length := List.length_pos_iff.2 hc.pos
    cases hu with
    | refD hd =>
      have := hI.deadE id hd
      rw [this] at h
      simp only [List.length_nil, List.all_nil, Bool.and_true] at h
      cases hcond : (Nat.beq k zs.length && (Nat.beq (len * zs.length) 0 && (Nat.blt i j && (Nat.ble j len && Nat.ble L.ro id)))) with
      | false => rw [hcond] at h; simp at h
      | true =>
        simp only [Bool.and_eq_true, Nat.blt_eq] at hcond
        obtain ⟨_, c2, c3, c4, _⟩ := hcond
        have c2 := Nat.eq_of_beq_eq_true c2
        have c4 := Nat.le_of_ble_eq_true c4
        have : 0 < len * zs.length := Nat.mul_pos (by omega) hpos
        omega
    | @ref _ _ _ _ b cap n e hblk hcap hs hn =>
      obtain ⟨cs, vs, e', k1, k2, kle, k3⟩ := hI.blk id b hblk
      rw [k1] at h
      simp only at h
      rw [shape_of_heap k2] at hs
      simp only [Option.some.injEq, Prod.mk.injEq] at hs
      obtain ⟨he, hnn⟩ := hs
      subst he hnn
      cases hcond : (Nat.beq k zs.length && (Nat.beq (len * zs.length) cs.length && (Nat.blt i j && (Nat.ble j len && (Nat.ble L.ro id && cs.all okCell))))) with
      | false => rw [hcond] at h; simp at h
      | true =>
        rw [hcond] at h
        simp only [cond_true] at h
        simp only [Bool.and_eq_true, Nat.blt_eq] at hcond
        obtain ⟨c1, c2, c3, c4, c5, c6⟩ := hcond
        have := Nat.eq_of_beq_eq_true c1; subst this
        have c2 := Nat.eq_of_beq_eq_true c2
        have c4 := Nat.le_of_ble_eq_true c4
        have c5 := Nat.le_of_ble_eq_true c5
        have hone : ∀ u ∈ vs.take (len * zs.length), u.oneCell' = true := by rw [c2]; exact k3.one c6
        have hm1 : i * zs.length ≤ len * zs.length := Nat.mul_le_mul_right _ (by omega)
        have hm2 : j * zs.length ≤ len * zs.length := Nat.mul_le_mul_right _ c4
        have hm3 : (i + (len - j)) * zs.length = i * zs.length + (len - j) * zs.length := Nat.add_mul _ _ _
        have hm4 : (len - j) * zs.length = len * zs.length - j * zs.length := Nat.sub_mul _ _ _
        have hm5 : (j - i) * zs.length = j * zs.length - i * zs.length := Nat.sub_mul _ _ _
        have hm6 : i * zs.length < j * zs.length := Nat.mul_lt_mul_of_pos_right c3 hpos
        refine (hc.run w b len cap vs e' i j k2 (by simpa using hn) hcap c3 c4 hone).mono ?_
        rintro ex w' ⟨rfl, rfl⟩
        obtain ⟨e1, i1⟩ := hI.drew (L := L)
        have hMlen : ((vs.drop (j * zs.length)).take ((len - j) * zs.length)).length = (len - j) * zs.length := by simp; omega
        have hrl : ∀ n, (repl n zs).length = n * zs.length := fun n => by
          induction n with
          | zero => simp [repl]
          | succ n ih => simp [repl, ih, Nat.add_mul]; omega
        have htake : (setV (setV vs (i * zs.length) ((vs.drop (j * zs.length)).take ((len - j) * zs.length))) ((i + (len - j)) * zs.length) (repl (j - i) zs)).take ((i + (len - j)) * zs.length) =
            vs.take (i * zs.length) ++ (vs.drop (j * zs.length)).take ((len - j) * zs.length) := by
          have ht := setV_take_append ((vs.drop (j * zs.length)).take ((len - j) * zs.length)) vs (i * zs.length) (by rw [hMlen]; omega)
          rw [hMlen, ← hm3] at ht
          rw [← ht]
          apply List.ext_getElem?
          intro q
          rw [List.getElem?_take, List.getElem?_take]
          split
          · rename_i hq
            rw [setV_get _ _ _ _ (.inl hq)]
          · rfl
        have hcsl : (cs.take (i * zs.length) ++ cs.drop (j * zs.length)).length = (i + (len - j)) * zs.length := by
          simp
          omega
        have hd : (vs.drop (j * zs.length)).take ((len - j) * zs.length) = (vs.take cs.length).drop (j * zs.length) := by
          rw [List.drop_take, ← c2, hm4]
        have k4 : VL g (drewW w) (cs.take (i * zs.length) ++ cs.drop (j * zs.length)) ((setV (setV vs (i * zs.length) ((vs.drop (j * zs.length)).take ((len - j) * zs.length))) ((i + (len - j)) * zs.length) (repl (j - i) zs)).take (cs.take (i * zs.length) ++ cs.drop (j * zs.length)).length) := by
          rw [hcsl, htake]
          have k5 : VL g (drewW w) cs (vs.take cs.length) := k3.mono e1
          have k6 := k5.take (i * zs.length)
          rw [List.take_take, Nat.min_eq_left (by omega)] at k6
          refine k6.append ?_
          rw [hd]
          exact k5.drop _
        have hvl : (setV (setV vs (i * zs.length) ((vs.drop (j * zs.length)).take ((len - j) * zs.length))) ((i + (len - j)) * zs.length) (repl (j - i) zs)).length = vs.length := by rw [setV_length, setV_length]
        have hle : (cs.take (i * zs.length) ++ cs.drop (j * zs.length)).length ≤ (setV (setV vs (i * zs.length) ((vs.drop (j * zs.length)).take ((len - j) * zs.length))) ((i + (len - j)) * zs.length) (repl (j - i) zs)).length := by
          rw [hcsl, hvl]; omega
        have k2' : (drewW w).heap[b]? = some (.cells ⟨vs⟩ e' (0, 0)) := k2
        have hlen' : len - (j - i) = i + (len - j) := by omega
        split at h
        · rename_i hnil
          simp only [Option.some.injEq, Prod.mk.injEq] at h
          obtain ⟨rfl, rfl⟩ := h
          have h0 : i + (len - j) = 0 := by
            rw [hnil] at hcsl
            simp only [List.length_nil] at hcsl
            rcases Nat.eq_zero_or_pos (i + (len - j)) with h | h
            · exact h
            · have := Nat.mul_pos h hpos
              omega
          obtain ⟨r1, r2⟩ := i1.putRow (L := L) (cs' := []) hblk k2' hvl c5 (Nat.zero_le _) .nil
          refine ⟨_, g, rfl, ?_, e1.trans r1, r2⟩
          rw [h0]
          exact .pv (VP.of_rows (rows := []) (b := 0) (o := 0) (sz := 0) (f := fun _ _ => undef) RowsAt.nil (Nat.zero_le _))
        · rename_i c r hcr
          simp only [Option.some.injEq, Prod.mk.injEq] at h
          obtain ⟨rfl, rfl⟩ := h
          obtain ⟨r1, r2⟩ := i1.growB (L := L) (cs' := c :: r) hblk k2' hvl c5 (by rw [← hcr]; exact hle) (by rw [← hcr]; exact k4)
          refine ⟨_, _, rfl, ?_, e1.trans r1, r2⟩
          rw [hlen']
          have hat : (putRowB (drewW w) b (setV (setV vs (i * zs.length) ((vs.drop (j * zs.length)).take ((len - j) * zs.length))) ((i + (len - j)) * zs.length) (repl (j - i) zs)) e').heap[b]? = some (.cells ⟨setV (setV vs (i * zs.length) ((vs.drop (j * zs.length)).take ((len - j) * zs.length))) ((i + (len - j)) * zs.length) (repl (j - i) zs)⟩ e' (0, 0)) := by
            rw [heap_putRowB, if_pos rfl, if_pos (lt_of_heap k2')]
          refine V.ref (n := vs.length) (e := e') ?_ (by omega) ?_ ?_
          · simp [Ghost.addB]
          · rw [← hvl]; exact shape_of_heap hat
          · simpa using hn
  · simp at h
end Go.Tel
