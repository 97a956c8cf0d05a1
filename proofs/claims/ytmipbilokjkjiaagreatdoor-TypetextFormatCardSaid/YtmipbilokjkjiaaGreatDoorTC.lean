/-
  Terms: the reference's comparison.
-/
import Derived.Test.YtmipbilokjkjiaaGreatDoorTB
import Derived.Test.YtmipbilokjkjiaaGreatDoorW4
import Derived.Test.YtmipbilokjkjiaaGreatDoorW5
set_option linter.unusedSimpArgs false
set_option linter.unusedVariables false
namespace Go.Proofs.YtmipbilokjkjiaaGreatDoor
open Go.Tel
attribute [local simp] wNew wBox wBoxZ markT wCond wBuild fillS wO setCells wSt wLd wPart LFE wFad alive wInt wStr wGK wGd wPick wExt wLen wSlen wNot wNil okI ceI okB ceB okS ceS okL ceL okC ceC okO ceO okP ceP okG ceG okE ceE okR ceR okF ceF okX ceX okM ceM okN ceN okNf ceNf okNi ceNi ceA roL roC roO leL leC leO tpP tpC tpO clP clC clO clF clA clT clN clL nbP nbC nbO nbN nbL toPVs
section
variable {R : Nat → Option (List PV)}
abbrev FA (k o : Int) : AV := .agg [I64 k, I64 o]
end
end Go.Proofs.YtmipbilokjkjiaaGreatDoor
/-
  Nodes as plain data, what both converters answer; words in the program.
-/
namespace Go.Proofs.YtmipbilokjkjiaaGreatDoor
open Go.Tel
attribute [local simp] wNew wBox wBoxZ markT wCond wBuild fillS wO setCells wSt wLd wPart LFE wFad alive wInt wStr wGK wGd wPick wExt wLen wSlen wNot wNil okI ceI okB ceB okS ceS okL ceL okC ceC okO ceO okP ceP okG ceG okE ceE okR ceR okF ceF okX ceX okM ceM okN ceN okNf ceNf okNi ceNi ceA roL roC roO leL leC leO tpP tpC tpO clP clC clO clF clA clT clN clL nbP nbC nbO nbN nbL toPVs
inductive Nd where
  | mk (kind : Int) (text : List UInt8) (children : List Nd) (offset : Int)
mutual
def rowN : Nd → List PV
  | .mk k s cs o => [.sc (.int .i64 k), .sc (.string ⟨s.toArray⟩), .list (rowsN cs), .sc (.int .i64 o)]
def rowsN : List Nd → List (List PV)
  | [] => []
  | v :: vs => rowN v :: rowsN vs
end
def NRep (v : Nd) (x : AV) : Prop := match v with
  | .mk k s cs o => ∃ a, x = .agg [I64 k, SS s, a, I64 o] ∧ RowsA a (rowsN cs)
theorem NRep.of_row (v : Nd) : NRep v (.agg ((rowN v).map .pv)) := by
  cases v with
  | mk k s cs o => exact ⟨_, by simp [rowN], .list _⟩
def Nd.kind : Nd → Int | .mk k _ _ _ => k
def Nd.text : Nd → List UInt8 | .mk _ s _ _ => s
def Nd.off : Nd → Int | .mk _ _ _ o => o
def isNm (n : Nd) : Bool := n.kind == 1 && isId n.text && !resv.contains n.text
def lastOf (vars : List (List UInt8)) (text : List UInt8) : Nat → Option Nat
  | 0 => none
  | j + 1 => bif vars[j]? == some text then some j else lastOf vars text j
def wordC (text : List UInt8) (off : Int) (vars : List (List UInt8)) : Int ⊕ Ty :=
  bif text == [65, 110, 121] then .inr (.mk 0 [] 0 [])
  else bif text == [78, 101, 118, 101, 114] then .inr (.mk 1 [] 0 [])
  else match lastOf vars text vars.length with
    | some j => .inr (.mk 5 [] ((vars.length : Int) - 1 - j) [])
    | none => bif isId text && !resv.contains text then .inr (.mk 2 text 0 []) else .inl off
def CRep (r : Int ⊕ Ty) (x : AV) : Prop := match r with
  | .inl o => ∃ y, x = .tuple [y, FA 2 o] ∧ TRep (.mk 0 [] 0 []) y
  | .inr t => ∃ y, x = .tuple [y, FA 0 0] ∧ TRep t y
section
variable {R : Nat → Option (List PV)}
def rfa : Code → Code
  | .rangeFunc _ _ a _ => a
  | c => c
def rfb : Code → Code
  | .rangeFunc _ _ _ b => b
  | c => c
end
end Go.Proofs.YtmipbilokjkjiaaGreatDoor
/-
  Words, the program.
-/
namespace Go.Proofs.YtmipbilokjkjiaaGreatDoor
open Go.Tel
attribute [local simp] wNew wBox wBoxZ markT wCond wBuild fillS wO setCells wSt wLd wPart LFE wFad alive wInt wStr wGK wGd wPick wExt wLen wSlen wNot wNil okI ceI okB ceB okS ceS okL ceL okC ceC okO ceO okP ceP okG ceG okE ceE okR ceR okF ceF okX ceX okM ceM okN ceN okNf ceNf okNi ceNi ceA roL roC roO leL leC leO tpP tpC tpO clP clC clO clF clA clT clN clL nbP nbC nbO nbN nbL toPVs
end Go.Proofs.YtmipbilokjkjiaaGreatDoor
