/-
  A told call: sexpr.Parse, by the evaluation of what it calls.
-/
import Derived.Test.YtpgfpakdnijngaaGreatDoorEvI
set_option linter.all false
namespace Go.Tel
open Option renaming some->Y,none->G
open Bool renaming false->ϴ
abbrev L00:Ba:=⟨0,0,0,λ_=>ϴ,λ_=>ϴ,λ_=>G⟩
def AXy (b:ByteArray):AY:=⟨[[.pv (.sc (.int .i64 0)),.pv (.sc (.string ⟨#[]⟩)),.AE [],.pv (.sc (.int .i64 0))],[.pv (.sc (.string b)),.pv (.sc (.int .i64 0)),.ref 0 0 1 4]],[]⟩
def AXz (d:Env) (all:FuncId) (b:ByteArray):Option AY:=
 match Dk d (b.data.toList.length+400) L00 all [.ptr 1 0] (AXy b) with
 | some (.tuple [],s)=>Y s
 | _=>G
def AX0 (s:AY):Option Ϯ:=match s.bs[1]? with
 | some [_,_,AV.ref id 0 1 4]=>match s.bs[id]? with
  | some (_::_::c::_)=>rowsOf c
  | _=>G
 | _=>G
def parT (d:Env) (all:FuncId) (_:Ba) (args:Ϭ) (s:AY):Option (AV×AY):=match args with
 | [.pv (.sc (.string b))]=>match AXz d all b with
  | some e=>match AX0 e with
   | some rows=>Y (.tuple [.pv (.list rows),.agg [.pv (.sc (.int .i64 0)),.pv (.sc (.int .i64 0))]],s)
   | none=>G
  | none=>G
 | _=>G
def AX1 (w:World) (b:ByteArray) (d e f tp:TypeId):World:=
 (((w.alloc (Obj.cells #[Value.slice G 0 0] d)).alloc (Obj.cells #[Value.int IntKind.i64 0,Value.int IntKind.i64 0] e)).alloc
  (Obj.cells #[Value.int IntKind.i64 0,Value.string { data:=#[] },Value.slice G 0 0,Value.int IntKind.i64 0] f)).alloc
  (Obj.cells #[Value.string b,Value.int IntKind.i64 0,Value.slice (Y { block:=w.heap.size+1+1,off:=0 }) 1 1] tp)
structure ParC (P:Program) (f all:FuncId) (tl tf tn tp:TypeId):Prop where
 body:MC P f
 run:∀(w:World) (b:ByteArray) (R:World->Value->Prop),
  (Calls P all #[.pointer (Y ⟨w.heap.size+1+1+1,0,G⟩)] (AX1 w b tl tf tn tp)
   λe W2=>e=.returned (.tuple #[])/\∃ob n cap na nl nc,0<n/\n<=cap/\W2.cell? ⟨w.heap.size+1+1+1,2,G⟩=Y (.slice (Y ⟨ob,0,G⟩) n cap)/\W2.cell? ⟨ob,2,G⟩=Y (.slice na nl nc) /\
    W2.heap[w.heap.size]?=Y (.cells #[.slice G 0 0] tl (0,0))/\W2.heap[w.heap.size+1]?=Y (.cells #[.int .i64 0,.int .i64 0] tf (0,0))/\R W2 (.slice na nl nc)) ->
  Calls P f #[.string b] w λe' w'=>∃W2 na nl nc,R W2 (.slice na nl nc)/\e'=.returned (.tuple #[.slice na nl nc,.agg #[.int .i64 0,.int .i64 0]])/\W2.heap[w.heap.size]?=Y (.cells #[.slice G 0 0] tl (0,0))/\W2.heap[w.heap.size+1]?=Y (.cells #[.int .i64 0,.int .i64 0] tf (0,0)) /\
   w'=((W2.setCell ⟨w.heap.size,0,G⟩ (.slice na nl nc)).setCell ⟨w.heap.size+1,0,G⟩ (.int .i64 0)).setCell ⟨w.heap.size+1,1,G⟩ (.int .i64 0)
end Go.Tel
