/-
  A told call: sexpr.Parse, by the evaluation of what it calls.
-/
import Derived.Test.YtcmeadgdojfhnaaGreatDoorEvI
set_option linter.unusedSimpArgs false
set_option linter.unusedVariables false
namespace Go.Tel
abbrev L00 : Lim := ⟨0, 0, 0, fun _ => false, fun _ => false, fun _ => none⟩
def parI (b : ByteArray) : Sto := ⟨[[.pv (.sc (.int .i64 0)), .pv (.sc (.string ⟨#[]⟩)), .capped [], .pv (.sc (.int .i64 0))], [.pv (.sc (.string b)), .pv (.sc (.int .i64 0)), .ref 0 0 1 4]], []⟩
def parS (E0 : Env) (all : FuncId) (b : ByteArray) : Option Sto :=
  match callN E0 (b.data.toList.length + 400) L00 all [.ptr 1 0] (parI b) with
  | some (.tuple [], s) => some s
  | _ => none
def parR (s : Sto) : Option (List (List PV)) := match s.bs[1]? with
  | some [_, _, AV.ref id 0 1 4] => match s.bs[id]? with
    | some (_ :: _ :: c :: _) => rowsOf c
    | _ => none
  | _ => none
def parT (E0 : Env) (all : FuncId) (_ : Lim) (args : List AV) (s : Sto) : Option (AV × Sto) := match args with
  | [.pv (.sc (.string b))] => match parS E0 all b with
    | some s' => match parR s' with
      | some rows => some (.tuple [.pv (.list rows), .agg [.pv (.sc (.int .i64 0)), .pv (.sc (.int .i64 0))]], s)
      | none => none
    | none => none
  | _ => none
def parW (w : World) (b : ByteArray) (tl tf tn tp : TypeId) : World :=
  (((w.alloc (Obj.cells #[Value.slice none 0 0] tl)).alloc (Obj.cells #[Value.int IntKind.i64 0, Value.int IntKind.i64 0] tf)).alloc
    (Obj.cells #[Value.int IntKind.i64 0, Value.string { data := #[] }, Value.slice none 0 0, Value.int IntKind.i64 0] tn)).alloc
    (Obj.cells #[Value.string b, Value.int IntKind.i64 0, Value.slice (some { block := w.heap.size + 1 + 1, off := 0 }) 1 1] tp)
structure ParC (P : Program) (f all : FuncId) (tl tf tn tp : TypeId) : Prop where
  body : HasBody P f
  run : ∀ (w : World) (b : ByteArray) (R : World → Value → Prop),
    (Calls P all #[.pointer (some ⟨w.heap.size + 1 + 1 + 1, 0, none⟩)] (parW w b tl tf tn tp)
      fun e W2 => e = .returned (.tuple #[]) ∧ ∃ ob n cap na nl nc, 0 < n ∧ n ≤ cap ∧ W2.cell? ⟨w.heap.size + 1 + 1 + 1, 2, none⟩ = some (.slice (some ⟨ob, 0, none⟩) n cap) ∧ W2.cell? ⟨ob, 2, none⟩ = some (.slice na nl nc) ∧
        W2.heap[w.heap.size]? = some (.cells #[.slice none 0 0] tl (0, 0)) ∧ W2.heap[w.heap.size + 1]? = some (.cells #[.int .i64 0, .int .i64 0] tf (0, 0)) ∧ R W2 (.slice na nl nc)) →
    Calls P f #[.string b] w fun e' w' => ∃ W2 na nl nc, R W2 (.slice na nl nc) ∧ e' = .returned (.tuple #[.slice na nl nc, .agg #[.int .i64 0, .int .i64 0]]) ∧ W2.heap[w.heap.size]? = some (.cells #[.slice none 0 0] tl (0, 0)) ∧ W2.heap[w.heap.size + 1]? = some (.cells #[.int .i64 0, .int .i64 0] tf (0, 0)) ∧
      w' = ((W2.setCell ⟨w.heap.size, 0, none⟩ (.slice na nl nc)).setCell ⟨w.heap.size + 1, 0, none⟩ (.int .i64 0)).setCell ⟨w.heap.size + 1, 1, none⟩ (.int .i64 0)
end Go.Tel
