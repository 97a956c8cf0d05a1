/-
  A told call: sexpr.Parse, by the evaluation of what it calls.
-/
import Derived.Test.YtmipbilokjkjiaaGreatDoorEvI
set_option linter.unusedSimpArgs false
set_option linter.unusedVariables false
namespace Go.Tel
abbrev L00 : Lim := ⟨0, 0, 0, fun _ => false, fun _ => false, fun _ => none⟩
def parI (b : ByteArray) : Sto := ⟨[[.pv (.sc (.int .i64 0)), .pv (.sc (.string ⟨#[]⟩)), .capped [], .pv (.sc (.int .i64 0))], [.pv (.sc (.string b)), .pv (.sc (.int .i64 0)), .ref 0 0 1 4]], []⟩
def parS (E0 : Env) (all : FuncId) (b : ByteArray) : Option Sto :=
  match callN E0 (b.data.toList.length + 400) L00 all [.ptr 1 0] (parI b) with
  | some (.tuple [], s) => some s
  | _ => none
def parR (s : Sto) : Option (List (List PV)) := match s.bs[1]? with
  | some [_, _, AV.ref id 0 1 4] => match s.bs[id]? with
    | some (_ :: _ :: c :: _) => rowsOf c
    | _ => none
  | _ => none
def parT (E0 : Env) (all : FuncId) (_ : Lim) (args : List AV) (s : Sto) : Option (AV × Sto) := match args with
  | [.pv (.sc (.string b))] => match parS E0 all b with
    | some s' => match parR s' with
      | some rows => some (.tuple [.pv (.list rows), .agg [.pv (.sc (.int .i64 0)), .pv (.sc (.int .i64 0))]], s)
      | none => none
    | none => none
  | _ => none
theorem Inv.env {E E' : Env} {g : Ghost} {w : World} {s : Sto} (hG : E.G = E'.G) (hP : E.P = E'.P) (h : Inv E g w s) : Inv E' g w s :=
  { h with
    tok := fun t l hl => by rw [← hP]; exact h.tok t l hl
    glob := fun gl row hr => by rw [← hG] at hr; exact h.glob gl row hr
    globN := fun gl row hr => by rw [← hG] at hr; exact h.globN gl row hr }
theorem setCell_putRow {w : World} {b k : Nat} {vs : List Value} {e : TypeId} {fz : Nat × Nat} {v : Value} (h : w.heap[b]? = some (.cells ⟨vs⟩ e fz)) : w.setCell ⟨b, k, none⟩ v = putRowB w b (vs.set k v) e fz := by
  have hb : b < w.heap.size := lt_of_heap h
  have hx : w.heap[b] = .cells ⟨vs⟩ e fz := by simpa [hb] using h
  unfold World.setCell putRowB
  congr 1
  grind
def parW (w : World) (b : ByteArray) (tl tf tn tp : TypeId) : World :=
  (((w.alloc (Obj.cells #[Value.slice none 0 0] tl)).alloc (Obj.cells #[Value.int IntKind.i64 0, Value.int IntKind.i64 0] tf)).alloc
    (Obj.cells #[Value.int IntKind.i64 0, Value.string { data := #[] }, Value.slice none 0 0, Value.int IntKind.i64 0] tn)).alloc
    (Obj.cells #[Value.string b, Value.int IntKind.i64 0, Value.slice (some { block := w.heap.size + 1 + 1, off := 0 }) 1 1] tp)
structure ParC (P : Program) (f all : FuncId) (tl tf tn tp : TypeId) : Prop where
  body : HasBody P f
  run : ∀ (w : World) (b : ByteArray) (R : World → Value → Prop),
    (Calls P all #[.pointer (some ⟨w.heap.size + 1 + 1 + 1, 0, none⟩)] (parW w b tl tf tn tp)
      fun e W2 => e = .returned (.tuple #[]) ∧ ∃ ob n cap na nl nc, 0 < n ∧ n ≤ cap ∧ W2.cell? ⟨w.heap.size + 1 + 1 + 1, 2, none⟩ = some (.slice (some ⟨ob, 0, none⟩) n cap) ∧ W2.cell? ⟨ob, 2, none⟩ = some (.slice na nl nc) ∧
        W2.heap[w.heap.size]? = some (.cells #[.slice none 0 0] tl (0, 0)) ∧ W2.heap[w.heap.size + 1]? = some (.cells #[.int .i64 0, .int .i64 0] tf (0, 0)) ∧ R W2 (.slice na nl nc)) →
    Calls P f #[.string b] w fun e' w' => ∃ W2 na nl nc, R W2 (.slice na nl nc) ∧ e' = .returned (.tuple #[.slice na nl nc, .agg #[.int .i64 0, .int .i64 0]]) ∧ W2.heap[w.heap.size]? = some (.cells #[.slice none 0 0] tl (0, 0)) ∧ W2.heap[w.heap.size + 1]? = some (.cells #[.int .i64 0, .int .i64 0] tf (0, 0)) ∧
      w' = ((W2.setCell ⟨w.heap.size, 0, none⟩ (.slice na nl nc)).setCell ⟨w.heap.size + 1, 0, none⟩ (.int .i64 0)).setCell ⟨w.heap.size + 1, 1, none⟩ (.int .i64 0)
theorem size_alloc (w : World) (o : Obj) : (w.alloc o).heap.size = w.heap.size + 1 := by simp
theorem heap_alloc (w : World) (o : Obj) (k : Nat) : (w.alloc o).heap[k]? = if k = w.heap.size then some o else w.heap[k]? := by
  show (w.heap.push o)[k]? = _
  rw [Array.getElem?_push]
theorem size_pushW (w : World) (vs : List Value) (e : TypeId) : (pushW w vs e).heap.size = w.heap.size + 1 := by simp [pushW]
theorem putRowB_putObj {w : World} {b : Nat} {vs : List Value} {e : TypeId} {fz : Nat × Nat} : putRowB w b vs e fz = w.putObj b (.cells ⟨vs⟩ e fz) := rfl
theorem par_ok {E E0 : Env} (hG0 : Good E0) (hG : E.G = E0.G) (hP : E.P = E0.P) {f all : FuncId} {tl tf tn tp : TypeId} (hc : ParC E.P f all tl tf tn tp) (htn : tn ≠ tp) {T : Lim → List AV → Sto → Option (AV × Sto)}
    (H : ∀ L args s s' v, T L args s = some (v, s') → s' = s ∧ ∃ b rows n s2, args = [.pv (.sc (.string b))] ∧ v = .tuple [.pv (.list rows), .agg [.pv (.sc (.int .i64 0)), .pv (.sc (.int .i64 0))]] ∧
      callN E0 n L00 all [.ptr 1 0] (parI b) = some (.tuple [], s2) ∧ parR s2 = some rows) : ToldOk E f T := by
  intro L args s s' v g w vs h hI hargs
  refine ⟨hc.body, ?_⟩
  obtain ⟨rfl, b, rows, n, s3, rfl, rfl, hcall, hrows⟩ := H _ _ _ _ _ h
  obtain ⟨u, us, rfl, hu, hn⟩ := hargs.cases
  have := hn.nil_inv; subst this
  have := hu.scv_inv; subst this
  have i0 : Inv E0 (Ghost.bare g.I) w ⟨[], []⟩ := (hI.env hG hP).bare
  obtain ⟨e1, i1, o1⟩ := i0.pushN (L := L00) (Obj.cells #[Value.slice none 0 0] tl)
  obtain ⟨e2, i2, o2⟩ := i1.pushN (L := L00) (Obj.cells #[Value.int IntKind.i64 0, Value.int IntKind.i64 0] tf)
  have hs1 : (w.alloc (Obj.cells #[Value.slice none 0 0] tl)).heap.size = w.heap.size + 1 := size_alloc _ _
  have hs2' : ((w.alloc (Obj.cells #[Value.slice none 0 0] tl)).alloc (Obj.cells #[Value.int IntKind.i64 0, Value.int IntKind.i64 0] tf)).heap.size = w.heap.size + 1 + 1 := by rw [size_alloc, size_alloc]
  obtain ⟨e3, i3⟩ := i2.pushB (L := L00) (cs := [.pv (.sc (.int .i64 0)), .pv (.sc (.string ⟨#[]⟩)), .capped [], .pv (.sc (.int .i64 0))])
    (vs := [Value.int IntKind.i64 0, Value.string { data := #[] }, Value.slice none 0 0, Value.int IntKind.i64 0]) tn (aLs0005 _)
    (.cons (.pv (.sc _)) (.cons (.pv (.sc _)) (.cons (V.capped (rows := []) (b := 0) (o := 0) (sz := 0) (f := fun _ _ => undef) RowsAt.nil) (.cons (.pv (.sc _)) .nil))))
  have hs3 : (pushW ((w.alloc (Obj.cells #[Value.slice none 0 0] tl)).alloc (Obj.cells #[Value.int IntKind.i64 0, Value.int IntKind.i64 0] tf)) [Value.int IntKind.i64 0, Value.string { data := #[] }, Value.slice none 0 0, Value.int IntKind.i64 0] tn).heap.size = w.heap.size + 1 + 1 + 1 := by grind[size_pushW]
  obtain ⟨e4, i4⟩ := i3.pushB (L := L00) (cs := [.pv (.sc (.string b)), .pv (.sc (.int .i64 0)), .ref 0 0 1 4])
    (vs := [Value.string b, Value.int IntKind.i64 0, Value.slice (some { block := w.heap.size + 1 + 1, off := 0 }) 1 1]) tp (aLs0005 _)
    (.cons (.pv (.sc _)) (.cons (.pv (.sc _)) (.cons (V.ref (b := w.heap.size + 1 + 1) (n := 4) (e := tn) (by grind[Ghost.addB]) (aLs0005 _) (by
      rw [shape_of_heap (by rw [heap_pushW, if_pos hs2'.symm])]; rfl) (aLs0005 _)) .nil)))
  have hpW : (parW w b tl tf tn tp).heap.size = w.heap.size + 1 + 1 + 1 + 1 := by grind[parW,size_alloc]
  have hc1 := (callN_sound hG0 _ L00 all _ _ _ _ _ _ [.pointer (some ⟨w.heap.size + 1 + 1 + 1, 0, none⟩)] hcall i4 (.cons (.ptr (by grind[Ghost.addB])) .nil)).2
  rw [← hP] at hc1
  have ext4 := ((e1.trans e2).trans e3).trans e4
  refine (hc.run w b (fun W2 nv => ∃ g', V g' W2 (.pv (.list rows)) nv ∧ Ext L00 (Ghost.bare g.I) w g' W2 ∧ Inv E0 g' W2 s3 ∧ Outs g' w.heap.size ∧ Outs g' (w.heap.size + 1)) (hc1.mono ?_)).mono ?_
  · rintro e W2 ⟨v', g', rfl, hv, hx, hi⟩
    obtain ⟨vs0, rfl, hvs0⟩ : ∃ vs0, v' = .tuple (List.toArray vs0) ∧ VL g' W2 [] vs0 := by
      cases hv with
      | tuple hl h => exact ⟨_, rfl, hl, h⟩
    have := hvs0.nil_inv; subst this
    refine ⟨rfl, ?_⟩
    unfold parR at hrows
    split at hrows
    · rename_i x y id hb1
      split at hrows
      · rename_i c0 c1 c r hbid
        have hb4 : (((Ghost.bare g.I).addB 0 ((w.alloc (Obj.cells #[Value.slice none 0 0] tl)).alloc (Obj.cells #[Value.int IntKind.i64 0, Value.int IntKind.i64 0] tf)).heap.size i2.fresh).addB 1 (pushW ((w.alloc (Obj.cells #[Value.slice none 0 0] tl)).alloc (Obj.cells #[Value.int IntKind.i64 0, Value.int IntKind.i64 0] tf)) [Value.int IntKind.i64 0, Value.string { data := #[] }, Value.slice none 0 0, Value.int IntKind.i64 0] tn).heap.size i3.fresh).blk 1 = some (w.heap.size + 1 + 1 + 1) := by grind[Ghost.addB]
        have hblk1 : g'.blk 1 = some (w.heap.size + 1 + 1 + 1) := by
          rcases hx.blk 1 _ hb4 with k | k
          · exact k
          · have := hi.deadE 1 k
            grind
        obtain ⟨cs1, vs1, te1, p1, p2, p3, p4⟩ := hi.blk 1 _ hblk1
        rw [hb1] at p1
        simp only [aLs0001] at p1
        subst p1
        obtain ⟨u2, q1, q2⟩ := p4.get (i := 2) (c := .ref id 0 1 4) rfl
        have hcell2 : W2.cell? ⟨w.heap.size + 1 + 1 + 1, 2, none⟩ = some u2 := by grind[cell_of_heap]
        cases q2 with
        | refD hd =>
          have := hi.deadE id hd
          grind
        | @ref _ _ _ _ ob cap n te hob hcap hsh hnn =>
          obtain ⟨cs2, vs2, te2, r1, r2, r3, r4⟩ := hi.blk id ob hob
          rw [hbid] at r1
          simp only [aLs0001] at r1
          subst r1
          obtain ⟨u3, t1, t2⟩ := r4.get (i := 2) (c := c) rfl
          have hcell3 : W2.cell? ⟨ob, 2, none⟩ = some u3 := by grind[cell_of_heap]
          obtain ⟨base, ncap, bb, oo, sz, ff, rfl, hle, hra⟩ := rowsOf_sound t2 hrows
          have ho1 : Outs g' w.heap.size ∧ W2.heap[w.heap.size]? = (parW w b tl tf tn tp).heap[w.heap.size]? := by
            have oa := (o1.ext e2 (by simp)).1
            have ob' := (oa.ext e3 (by omega)).1
            have oc := (ob'.ext e4 (by omega)).1
            exact oc.ext hx (by omega)
          have ho2 : Outs g' (w.heap.size + 1) ∧ W2.heap[w.heap.size + 1]? = (parW w b tl tf tn tp).heap[w.heap.size + 1]? := by
            rw [hs1] at o2
            have ob' := (o2.ext e3 (by simp)).1
            have oc := (ob'.ext e4 (by omega)).1
            exact oc.ext hx (by omega)
          refine ⟨ob, 1, cap, base, rows.length, ncap, by omega, hcap, hcell2, hcell3, ?_, ?_, g', .pv (VP.of_rows hra hle), ext4.trans hx, hi, ho1.1, ho2.1⟩
          · rw [ho1.2, parW, heap_alloc, heap_alloc, heap_alloc, heap_alloc]
            rw [if_neg (by grind[size_alloc]), if_neg (by omega), if_neg (by simp), if_pos rfl]
          · rw [ho2.2, parW, heap_alloc, heap_alloc, heap_alloc]
            rw [if_neg (by simp), if_neg (by simp), if_pos (by rw [size_alloc])]
      grind
    grind
  · rintro e w' ⟨W2, na, nl, nc, ⟨g', hv, hx, hi, ho1, ho2⟩, rfl, hh1, hh2, rfl⟩
    have hr1 := setCell_putRow (k := 0) (v := .slice na nl nc) (vs := [.slice none 0 0]) hh1
    have hne : w.heap.size + 1 ≠ w.heap.size := by omega
    have hh3 : (putRowB W2 w.heap.size ([Value.slice none 0 0].set 0 (.slice na nl nc)) tl).heap[w.heap.size + 1]? = some (.cells ⟨[.int .i64 0, .int .i64 0]⟩ tf (0, 0)) := by grind[heap_putRowB]
    have hr2 := setCell_putRow (k := 0) (v := .int .i64 0) hh3
    have hh4 : (putRowB (putRowB W2 w.heap.size ([Value.slice none 0 0].set 0 (.slice na nl nc)) tl) (w.heap.size + 1) ([Value.int .i64 0, .int .i64 0].set 0 (.int .i64 0)) tf).heap[w.heap.size + 1]? = some (.cells ⟨[.int .i64 0, .int .i64 0]⟩ tf (0, 0)) := by grind[heap_putRowB]
    have hr3 := setCell_putRow (k := 1) (v := .int .i64 0) hh4
    rw [hr1, hr2, hr3, putRowB_putObj, putRowB_putObj, putRowB_putObj]
    have nb : ∀ id k, (Ghost.bare g.I).blk id = some k → k < w.heap.size := fun id k h => by grind[Ghost.bare]
    have nt : ∀ t l, (Ghost.bare g.I).tok t = some l → l.b < w.heap.size := fun t l h => by grind[Ghost.bare]
    have nm : ∀ id k, (Ghost.bare g.I).mp id = some k → k < w.heap.size := fun id k h => by grind[Ghost.bare]
    have x1 := ((hx.putN (aLs0005 _) ho1 nb nt nm (Obj.cells ⟨[Value.slice none 0 0].set 0 (.slice na nl nc)⟩ tl (0, 0))).putN (Nat.le_succ _) ho2 nb nt nm (Obj.cells ⟨[Value.int .i64 0, .int .i64 0].set 0 (.int .i64 0)⟩ tf (0, 0))).putN (Nat.le_succ _) ho2 nb nt nm (Obj.cells ⟨[Value.int .i64 0, .int .i64 0].set 1 (.int .i64 0)⟩ tf (0, 0))
    have x2 := ((hi.putN ho1 (Obj.cells ⟨[Value.slice none 0 0].set 0 (.slice na nl nc)⟩ tl (0, 0))).putN ho2 (Obj.cells ⟨[Value.int .i64 0, .int .i64 0].set 0 (.int .i64 0)⟩ tf (0, 0))).putN ho2 (Obj.cells ⟨[Value.int .i64 0, .int .i64 0].set 1 (.int .i64 0)⟩ tf (0, 0))
    obtain ⟨r1, r2, _, _⟩ := ret_pure (L := L) (hI.env hG hP) x1 x2
    cases hv with
    | pv hvp =>
      have hv1 := ((hvp.put ho1 (Obj.cells ⟨[Value.slice none 0 0].set 0 (.slice na nl nc)⟩ tl (0, 0))).put ho2 (Obj.cells ⟨[Value.int .i64 0, .int .i64 0].set 0 (.int .i64 0)⟩ tf (0, 0))).put ho2 (Obj.cells ⟨[Value.int .i64 0, .int .i64 0].set 1 (.int .i64 0)⟩ tf (0, 0))
      have hv2 := hv1.mono (I' := g'.Ifrom 0) (fun _ _ h => .inl h) (fun _ _ _ => rfl)
      exact ⟨_, _, rfl, V.tuple' (.cons (.pv hv2) (.cons (V.agg' (.cons (.pv (.sc _)) (.cons (.pv (.sc _)) .nil))) .nil)), r1, r2.env hG.symm hP.symm⟩
end Go.Tel
