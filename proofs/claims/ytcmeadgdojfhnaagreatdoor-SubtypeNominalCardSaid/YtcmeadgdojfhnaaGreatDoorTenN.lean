/-
  What calls of strconv.Itoa and strconv.Atoi answer, where the evaluator is told.
-/
import Derived.Test.YtcmeadgdojfhnaaGreatDoorEvI
import Derived.Lib.ItoaNum
import Derived.Lib.Atoi
import Derived.Lib.LaidTab
import Derived.Lib.ConvBytes
import Derived.Sort.Grow
import Derived.Deep.Draws
set_option linter.unusedSimpArgs false
set_option linter.unusedVariables false
namespace Go.Tel
def digsF : Nat → Nat → List UInt8 → List UInt8
  | 0, _, acc => acc
  | f + 1, n, acc => bif Nat.blt n 10 then UInt8.ofNat (48 + n % 10) :: acc else digsF f (n / 10) (UInt8.ofNat (48 + n % 10) :: acc)
def digs (n : Nat) : List UInt8 := digsF 20 n []
def undig : List UInt8 → Nat → Option Nat
  | [], a => some a
  | c :: l, a => bif Nat.ble 48 c.toNat && Nat.ble c.toNat 57 then undig l (a * 10 + (c.toNat - 48)) else none
def itoT (_ : Lim) (args : List AV) (s : Sto) : Option (AV × Sto) := match args with
  | [.pv (.sc (.int .i64 (.ofNat n)))] => bif Nat.blt n 1099511627776 then some (.pv (.sc (.string ⟨(digs n).toArray⟩)), s) else none
  | _ => none
def atoT (_ : Lim) (args : List AV) (s : Sto) : Option (AV × Sto) := match args with
  | [.pv (.sc (.string b))] => bif Nat.ble 1 b.data.toList.length && Nat.ble b.data.toList.length 18 then match undig b.data.toList 0 with
    | some n => some (.tuple [.pv (.sc (.int .i64 (.ofNat n))), .pv (.sc .nilIface)], s)
    | none => none
    else none
  | _ => none
def tabR (k : IntKind) (zs : List Int) : List PV := zs.map fun z => .sc (.int k z)
structure ItoC (P : Program) (f : FuncId) (name : String) : Prop where
  body : HasBody P f
  call : ∀ (n : Int), -9223372036854775808 ≤ n → n ≤ 9223372036854775807 → ∀ w : World, Lib.TabIs P w name .u64 Lib.pow10Tab →
    Calls P f #[.int .i64 n] w fun e w' => e = .returned (.string ⟨(Lib.itoa n).toArray⟩) ∧ ∃ k os, w' = Sort.grow (w.drewN k) os
structure AtoC (P : Program) (f : FuncId) (u8 : TypeId) : Prop where
  body : HasBody P f
  call : ∀ (s : ByteArray) (n : Int), s.size ≤ 18 → Lib.atoi s.data.toList = some n → ∀ w : World,
    Calls P f #[.string s] w fun e w' => e = .returned (.tuple #[.int .i64 n, .nilIface]) ∧ ∃ t, w' = Lib.bytesWorld w u8 t
end Go.Tel
