/-
  A deterministic evaluator for the model's code on abstract values: definitions only.
-/
import Derived.Calls
import Derived.Laws.Sem
set_option linter.unusedSimpArgs false
set_option linter.unusedVariables false
namespace Go.Tel
inductive PV where
  | sc (v : Value)
  | list (rows : List (List PV))
inductive AV where
  | pv (p : PV)
  | ptr (id off : Nat)
  | gptr (g off : Nat)
  | eptr (row : List PV) (off : Nat)
  | capped (rows : List (List PV))
  | own (tok : Nat) (rows : List (List PV))
  | ref (id off len sz : Nat)
  | func (fn : Fn) (first captured : List AV)
  | iface (t : TypeId) (v : AV)
  | agg (cs : List AV)
  | tuple (vs : List AV)
  | junk
  | mref (id : Nat)
  | mobj (es : List MapEntry) (clock : Nat)
  | bz (id : Nat) (t : TypeId) (n : Nat)
inductive Kind where
  | rd | im | st | esc
inductive Cls where
  | w (r : Nat)
  | q (ts : List Nat)
  | h (ts : List Nat)
  | fa (r j x : Nat)
  | fj | fx
structure Plan where
  first : List Nat
  rest : List Nat
  cls : List Cls
  pre : List (List Nat)
  war : List (List Nat)
  chk : List (Nat × Nat)
structure Lim where
  n0 : Nat
  ro : Nat
  rt : Nat
  mu : TypeId → Bool
  rr : FuncId → Bool
  pl : Nat → Option Plan
structure Sto where
  bs : List (List AV)
  ts : List (Nat × Nat)
structure Env where
  P : Program
  G : Nat → Option (List PV)
  kind : FuncId → Kind
  mu : FuncId → TypeId → Bool
  rr : FuncId → FuncId → Bool
  clone : FuncId → Bool
  plan : FuncId → Nat → Option Plan
  told : FuncId → Option (Lim → List AV → Sto → Option (AV × Sto)) := fun _ => none
  bz : TypeId → Bool := fun _ => false
  back : FuncId → Option TypeId := fun _ => none
structure St where
  N : Nat
  ρ : Nat → AV
  s : Sto
abbrev scv (v : Value) : AV := .pv (.sc v)
def upd (ρ : Nat → AV) (i : Nat) (v : AV) (j : Nat) : AV := bif Nat.beq j i then v else ρ j
def quick (P : Program) {α : Type} : Sem α → Option α
  | .pure a => some a
  | .program k => quick P (k P)
  | .mark _ k => quick P k
  | _ => none
def conc : AV → Option Value
  | .pv (.sc v) => some v
  | _ => none
def ofVal : Value → AV
  | .agg cs => .agg (cs.toList.map scv)
  | .tuple vs => .tuple (vs.toList.map scv)
  | v => scv v
def ofCell : Value → AV
  | .slice none 0 0 => .capped []
  | v => scv v
def ofConst : Value → AV
  | .agg cs => .agg (cs.toList.map ofCell)
  | .tuple vs => .tuple (vs.toList.map scv)
  | v => ofCell v
def evalO (ρ : Nat → AV) : Operand → AV
  | .tmp t => ρ t
  | .const v => ofConst v
  | .global g => .gptr g 0
  | .func f => .func (.func f) [] []
def cellsOf : AV → List AV
  | .agg cs => cs
  | v => [v]
def toPV : AV → Option PV
  | .pv p => some p
  | .capped rows => some (.list rows)
  | .own _ rows => some (.list rows)
  | _ => none
def toPVs : List AV → Option (List PV)
  | [] => some []
  | c :: cs => match toPV c, toPVs cs with
    | some p, some ps => some (p :: ps)
    | _, _ => none
def rowsOf : AV → Option (List (List PV))
  | .pv (.list rows) => some rows
  | .capped rows => some rows
  | .own _ rows => some rows
  | _ => none
def rowsBy (k : Nat) : Nat → List PV → List (List PV)
  | 0, _ => []
  | n + 1, cs => cs.take k :: rowsBy k n (cs.drop k)
def refRows (bs : List (List AV)) (id off len sz : Nat) : Option (List (List PV)) :=
  match bs[id]? with
  | some cs => if off + len * sz ≤ cs.length ∧ cs.isEmpty = false then match toPVs ((cs.drop off).take (len * sz)) with
      | some ps => some (rowsBy sz len ps)
      | none => none
    else none
  | none => none
mutual
def close (bs : List (List AV)) (n m : Nat) : AV → Option AV
  | .pv p => some (.pv p)
  | .ptr id off => if id < n then some (.ptr id off) else none
  | .gptr g off => some (.gptr g off)
  | .eptr row off => some (.eptr row off)
  | .capped rows => some (.capped rows)
  | .own t rows => if t < m then some (.own t rows) else some (.pv (.list rows))
  | .ref id off len sz => if id < n then some (.ref id off len sz) else match refRows bs id off len sz with
    | some rows => some (.pv (.list rows))
    | none => none
  | .func fn first captured => match closeL bs n m first, closeL bs n m captured with
    | some a, some b => some (.func fn a b)
    | _, _ => none
  | .iface t v => match close bs n m v with
    | some v => some (.iface t v)
    | none => none
  | .agg cs => match closeL bs n m cs with
    | some cs => some (.agg cs)
    | none => none
  | .tuple vs => match closeL bs n m vs with
    | some vs => some (.tuple vs)
    | none => none
  | .junk => some .junk
  | .mref id => if id < n then some (.mref id) else none
  | .mobj _ _ => none
  | .bz id t k => if id < n then some (.bz id t k) else none
def closeL (bs : List (List AV)) (n m : Nat) : List AV → Option (List AV)
  | [] => some []
  | c :: cs => match close bs n m c, closeL bs n m cs with
    | some c, some cs => some (c :: cs)
    | _, _ => none
end
mutual
def noId : AV → Bool
  | .ptr _ _ | .ref _ _ _ _ | .own _ _ | .mref _ | .mobj _ _ | .bz _ _ _ => false
  | .func _ first captured => noIdL first && noIdL captured
  | .iface _ v => noId v
  | .agg cs => noIdL cs
  | .tuple vs => noIdL vs
  | _ => true
def noIdL : List AV → Bool
  | [] => true
  | c :: cs => noId c && noIdL cs
end
mutual
def noBlk : AV → Bool
  | .ptr _ _ | .ref _ _ _ _ | .mref _ | .mobj _ _ | .bz _ _ _ => false
  | .func _ first captured => noBlkL first && noBlkL captured
  | .iface _ v => noBlk v
  | .agg cs => noBlkL cs
  | .tuple vs => noBlkL vs
  | _ => true
def noBlkL : List AV → Bool
  | [] => true
  | c :: cs => noBlk c && noBlkL cs
end
def lookB (s : Sto) (id : Nat) : Option (List AV) := s.bs[id]?
def alive (s : Sto) (id : Nat) : Bool := match s.bs[id]? with
  | some (_ :: _) => true
  | _ => false
def partOf (P : Program) (t : TypeId) (cs : List AV) (off : Nat) : Option AV :=
  match P.underlying t, P.info? t with
  | some d, some i => match d with
    | .struct _ | .array _ _ => if off + i.size ≤ cs.length ∧ i.size ≠ 0 then some (.agg ((cs.drop off).take i.size)) else none
    | _ => cs[off]?
  | _, _ => none
def loadA (E : Env) (s : Sto) (t : TypeId) : AV → Option AV
  | .ptr id off => match lookB s id with
    | some cs => partOf E.P t cs off
    | none => none
  | .gptr g off => match E.G g with
    | some row => partOf E.P t (row.map .pv) off
    | none => none
  | .eptr row off => partOf E.P t (row.map .pv) off
  | _ => none
def setCells (cs : List AV) (off : Nat) : List AV → List AV
  | [] => cs
  | v :: vs => setCells (cs.set off v) (off + 1) vs
def okCell : AV → Bool
  | .agg _ | .tuple _ | .mobj _ _ | .bz _ _ _ => false
  | .pv (.sc (.agg _)) | .pv (.sc (.tuple _)) => false
  | _ => true
def storeA (E : Env) (L : Lim) (s : Sto) (t : TypeId) (a x : AV) : Option Sto :=
  match a, E.P.info? t with
  | .ptr id off, some i => match lookB s id with
    | some cs =>
      let vs := cellsOf x
      if vs.length = i.size ∧ off + vs.length ≤ cs.length ∧ L.ro ≤ id ∧ (vs.all okCell) = true ∧ (L.n0 ≤ id ∨ noBlkL vs = true) ∧ i.size ≠ 0 then
        some { s with bs := s.bs.set id (setCells cs off vs) } else none
    | none => none
  | _, _ => none
def markZ (E : Env) (id : Nat) (t : TypeId) (z : List AV) : List AV := bif E.bz t then match z with
    | .pv (.sc (.pointer none)) :: r => .bz id t (r.length + 1) :: r
    | z => z
  else z
def newB (s : Sto) (cs : List AV) : AV × Sto := (.ptr s.bs.length 0, { s with bs := s.bs ++ [cs] })
def fillA (place : Nat → Option (Nat × Nat)) (cells : List AV) : List (Nat × AV) → Option (List AV)
  | [] => some cells
  | (i, v) :: rest => match place i with
    | none => none
    | some (off, size) =>
      if (cellsOf v).length = size ∧ off + size ≤ cells.length ∧ (cellsOf v).all okCell = true then
        fillA place (setCells cells off (cellsOf v)) rest
      else none
def zeroOf (P : Program) (t : TypeId) : Option (List AV) :=
  match P.info? t with
  | some i => match i.zero with
    | some v => some (cellsOf (ofConst v))
    | none => none
  | none => none
def sizeA (P : Program) (t : TypeId) : Option Nat := match P.info? t with | some i => some i.size | none => none
def placeF (P : Program) (fields : Array Field) (i : Nat) : Option (Nat × Nat) :=
  match fields[i]? with
  | some f => match sizeA P f.type with | some k => some (f.offset, k) | none => none
  | none => none
def buildA (P : Program) (t : TypeId) (parts : List (Nat × AV)) : Option AV :=
  match zeroOf P t, P.underlying t with
  | some z, some (.struct fields) =>
    match fillA (placeF P fields) z parts with
    | some cs => if fields.all (fun f => (sizeA P f.type).isSome) then some (.agg cs) else none
    | none => none
  | some z, some (.array _ elem) =>
    match sizeA P elem with
    | some k => match fillA (fun i => some (i * k, k)) z parts with
      | some cs => some (.agg cs)
      | none => none
    | none => none
  | _, _ => none
def repl {α : Type} (n : Nat) (l : List α) : List α := match n with
  | 0 => []
  | n + 1 => l ++ repl n l
def muL (L : Lim) (e : TypeId) : Bool := L.mu e && !L.mu (e + 1000000)
def buildSliceA (P : Program) (L : Lim) (s : Sto) (t : TypeId) (len : Nat) (parts : List (Nat × AV)) : Option (AV × Sto) :=
  match P.underlying t with
  | some (.slice elem) => match sizeA P elem, zeroOf P elem with
    | some k, some z =>
      if len * k ≤ 2 ^ 24 ∧ z.length = k ∧ k ≠ 0 then
        match fillA (fun i => some (i * k, k)) (repl len z) parts with
        | some cs => bif muL L elem && Nat.blt 0 len then some (.ref s.bs.length 0 len k, { s with bs := s.bs ++ [cs] })
          else match toPVs cs with
          | some ps => some (.capped (rowsBy k len ps), s)
          | none => none
        | none => none
      else none
    | _, _ => none
  | _ => none
def makeSliceA (P : Program) (s : Sto) (t : TypeId) (len cap : AV) : Option (AV × Sto) :=
  match P.underlying t, len, cap with
  | some (.slice elem), .pv (.sc (.int .i64 l)), .pv (.sc (.int .i64 c)) => match P.info? elem, zeroOf P elem with
    | some i, some z =>
      if 0 ≤ l ∧ l ≤ c ∧ c ≤ 2 ^ 40 ∧ c * i.bytes ≤ 2 ^ 45 ∧ z.length = i.size ∧ i.size ≠ 0 then
        if c = 0 then some (.capped [], s)
        else if l = c then some (.ref s.bs.length 0 l.toNat i.size, { s with bs := s.bs ++ [repl l.toNat z] })
        else if l = 0 then some (.own s.ts.length [], { s with ts := s.ts ++ [(0, elem)] })
        else none
      else none
    | _, _ => none
  | _, _, _ => none
def nilCheckA (s : Sto) : AV → Option AV
  | .ptr id off => bif alive s id then some (.ptr id off) else none
  | .gptr g off => some (.gptr g off)
  | .eptr r off => some (.eptr r off)
  | .func (.func f) a b => some (.func (.func f) a b)
  | _ => none
def fieldAddrA (P : Program) (s : Sto) (t : TypeId) (x : AV) (field : Nat) : Option AV :=
  match P.underlying t with
  | some (.struct fields) => match fields[field]? with
    | some f => match sizeA P f.type with
      | some k => if k = 0 then none else match x with
        | .ptr id off => bif alive s id then some (.ptr id (off + f.offset)) else none
        | .gptr g off => some (.gptr g (off + f.offset))
        | .eptr r off => some (.eptr r (off + f.offset))
        | _ => none
      | none => none
    | none => none
  | _ => none
def fieldA (P : Program) (t : TypeId) (x : AV) (field : Nat) : Option AV :=
  match P.underlying t, x with
  | some (.struct fields), .agg cs => match fields[field]? with
    | some f => partOf P f.type cs f.offset
    | none => none
  | _, _ => none
def intOfA : AV → Option Int
  | .pv (.sc (.int _ n)) => some n
  | _ => none
def indexAddrA (P : Program) (s : Sto) (t : TypeId) (x ix : AV) : Option AV :=
  match P.underlying t, intOfA ix with
  | some (.slice elem), some i => match sizeA P elem with
    | some k => match rowsOf x with
      | some rows => if 0 ≤ i then match rows[i.toNat]? with
          | some row => if row.length = k ∧ k ≠ 0 then some (.eptr row 0) else none
          | none => none
        else none
      | none => match x with
        | .ref id off len sz => if 0 ≤ i ∧ i < len ∧ sz = k ∧ alive s id = true then some (.ptr id (off + i.toNat * k)) else none
        | _ => none
    | none => none
  | some (.array len elem), some i => match sizeA P elem with
    | some k => if 0 ≤ i ∧ i < len then match x with
        | .ptr id off => bif alive s id then some (.ptr id (off + i.toNat * k)) else none
        | .gptr g off => some (.gptr g (off + i.toNat * k))
        | .eptr r off => some (.eptr r (off + i.toNat * k))
        | _ => none
      else none
    | none => none
  | _, _ => none
def extractA : AV → Nat → Option AV
  | .tuple vs, i => vs[i]?
  | _, _ => none
def natOfA : AV → Option Nat
  | .pv (.sc (.int _ n)) => if 0 ≤ n then some n.toNat else none
  | _ => none
def optNat (d : Nat) : Option AV → Option Nat
  | none => some d
  | some v => natOfA v
def sliceA (P : Program) (s : Sto) (t : TypeId) (x : AV) (lo hi mx : Option AV) : Option AV :=
  match P.underlying t with
  | some (.slice elem) => match sizeA P elem with
    | some k => match x with
      | .ref id off len sz => match optNat len hi, optNat 0 lo, mx with
        | some h, some l, none => if l ≤ h ∧ h ≤ len ∧ sz = k ∧ k ≠ 0 ∧ alive s id = true then (if l = h then some (.pv (.list [])) else some (.ref id (off + l * k) (h - l) sz)) else none
        | some h, some l, some m => match natOfA m with
          | some m => if l = h ∧ h ≤ len ∧ m = h ∧ hi.isSome = true ∧ alive s id = true then some (.capped []) else none
          | none => none
        | _, _, _ => none
      | x => match rowsOf x with
        | some rows => match optNat rows.length hi, optNat 0 lo with
          | some h, some l =>
            if l ≤ h ∧ h ≤ rows.length ∧ (rows.all fun r => r.length == k) = true then match mx with
              | none => some (.pv (.list ((rows.take h).drop l)))
              | some m => match natOfA m with
                | some m => if m = h ∧ hi.isSome then some (.capped ((rows.take h).drop l)) else none
                | none => none
            else none
          | _, _ => none
        | none => none
    | none => none
  | _ => none
def lenA (s : Sto) : AV → Option Nat
  | .ref id _ len _ => bif alive s id then some len else none
  | v => match rowsOf v with
    | some rows => some rows.length
    | none => none
def srcCells (s : Sto) (k : Nat) : AV → Option (List AV)
  | .pv (.sc (.string b)) => if k = 1 then some (b.data.toList.map fun b => scv (.int .u8 b.toNat)) else none
  | .ref id off len sz => match s.bs[id]? with
    | some cs => if off + len * sz ≤ cs.length ∧ sz = k ∧ alive s id = true then some ((cs.drop off).take (len * sz)) else none
    | none => none
  | v => match rowsOf v with
    | some rows => if (rows.all fun r => r.length == k) = true then some (rows.flatten.map .pv) else none
    | none => none
def appendA (P : Program) (L : Lim) (s : Sto) (t : TypeId) (x y : AV) : Option (AV × Sto) :=
  match P.underlying t with
  | some (.slice elem) => match P.info? elem with
    | some i => if (zeroOf P elem).map List.length = some i.size ∧ i.size ≠ 0 then
        match srcCells s i.size y with
        | some [] => match x with
          | .ref id _ _ _ => bif alive s id then some (x, s) else none
          | _ => match rowsOf x with
            | some _ => some (x, s)
            | none => none
        | some (c :: cs) => if (c :: cs).all okCell = true then
          let new := c :: cs
          let n := new.length / i.size
          match x with
          | .ref id off len sz => match s.bs[id]? with
            | some old => if off = 0 ∧ sz = i.size ∧ len * sz ≤ old.length ∧ alive s id = true ∧ (len + n) * i.bytes ≤ 2 ^ 45 ∧ len + n ≤ 2 ^ 45 ∧ L.ro ≤ id then
                some (.ref s.bs.length 0 (len + n) sz, { s with bs := s.bs.set id [] ++ [old.take (len * sz) ++ new] }) else none
            | none => none
          | .capped rows =>
            if (rows.length + n) * i.bytes ≤ 2 ^ 45 ∧ rows.length + n ≤ 2 ^ 45 ∧ (rows.all fun r => r.length == i.size) = true then
              bif L.mu elem then some (.ref s.bs.length 0 (rows.length + n) i.size, { s with bs := s.bs ++ [rows.flatten.map .pv ++ new] })
              else match toPVs new with
              | some ps => some (.own s.ts.length (rows ++ rowsBy i.size n ps), { s with ts := s.ts ++ [(rows.length + n, elem)] })
              | none => none
            else none
          | .own k rows =>
            if (rows.length + n) * i.bytes ≤ 2 ^ 45 ∧ rows.length + n ≤ 2 ^ 45 ∧ s.ts[k]? = some (rows.length, elem) ∧ L.rt ≤ k ∧ (rows.all fun r => r.length == i.size) = true then
              match toPVs new with
              | some ps => some (.own k (rows ++ rowsBy i.size n ps), { s with ts := s.ts.set k (rows.length + n, elem) })
              | none => none
            else none
          | _ => none
          else none
        | none => none
      else none
    | none => none
  | _ => none
def cellBytes : List AV → Option (List UInt8)
  | [] => some []
  | .pv (.sc (.int .u8 n)) :: rest => match cellBytes rest with
    | some l => some (UInt8.ofNat n.toNat :: l)
    | none => none
  | _ => none
def sliceBytes (s : Sto) : AV → Option (List UInt8)
  | .pv (.sc _) => none
  | y => match srcCells s 1 y with
    | some cs => cellBytes cs
    | none => none
def someKind (s : Sto) : AV → Option Nat
  | .ptr id _ => bif alive s id then some 0 else none
  | .gptr _ _ => some 0
  | .eptr _ _ => some 0
  | .func _ _ _ => some 2
  | .iface _ _ => some 3
  | .ref id _ _ _ => bif alive s id then some 1 else none
  | v => match rowsOf v with
    | some ((_ :: _) :: _) => some 1
    | _ => none
def nilKind (ρ : Nat → AV) : Operand → Option Nat
  | .const (.slice none 0 0) => some 1
  | x => match evalO ρ x with
    | .pv (.sc (.pointer none)) => some 0
    | .pv (.sc .nilFunc) => some 2
    | .pv (.sc .nilIface) => some 3
    | _ => none
def typeKind (P : Program) (t : TypeId) : Option Nat := match P.underlying t with
  | some (.pointer _) => some 0
  | some (.slice _) => some 1
  | some (.func _ _ _) => some 2
  | some (.interface _) => some 3
  | _ => none
def sameKind : Option Nat → Option Nat → Option Nat → Bool
  | some a, some b, some c => Nat.beq a b && Nat.beq a c
  | _, _, _ => false
def eqNilA (P : Program) (s : Sto) (ρ : Nat → AV) (op : BinOp) (t : TypeId) (x y : Operand) : Option AV :=
  bif sameKind (typeKind P t) (someKind s (evalO ρ x)) (nilKind ρ y) || sameKind (typeKind P t) (nilKind ρ x) (someKind s (evalO ρ y)) then match op with
    | .eql => some (scv (.bool false))
    | .neq => some (scv (.bool true))
    | _ => none
  else none
def allConc (ρ : Nat → AV) (xs : List Operand) : Bool := xs.all fun x => (conc (evalO ρ x)).isSome
def quickOp (E : Env) (ρ : Nat → AV) (o : Oper) : Option AV :=
  if allConc ρ o.op.operands.toList then
    match quick E.P (execOp (fun x => (conc (evalO ρ x)).getD undef) o) with
    | some (.value v) => some (ofVal v)
    | _ => none
  else none
def bytesEq : List UInt8 → List UInt8 → Bool
  | [], [] => true
  | a :: xs, b :: ys => Nat.beq a.toNat b.toNat && bytesEq xs ys
  | _, _ => false
def kindNo : IntKind → Nat
  | .i8 => 0 | .i16 => 1 | .i32 => 2 | .i64 => 3 | .u8 => 4 | .u16 => 5 | .u32 => 6 | .u64 => 7
def concC : AV → Option Value
  | .pv (.sc v) => some v
  | .func (.func f) [] [] => some (.func (.func f) #[] #[])
  | _ => none
def concCs : List AV → Option (List Value)
  | [] => some []
  | c :: cs => match concC c, concCs cs with
    | some v, some vs => some (v :: vs)
    | _, _ => none
def concE : AV → Option Value
  | .agg cs => match concCs cs with
    | some vs => some (.agg vs.toArray)
    | none => none
  | c => concC c
def ofCellE : Value → AV
  | .func fn a b => .func fn (a.toList.map scv) (b.toList.map scv)
  | v => scv v
def ofEl : Value → AV
  | .agg cs => .agg (cs.toList.map ofCellE)
  | .func fn a b => .func fn (a.toList.map scv) (b.toList.map scv)
  | v => ofVal v
def findStr (k : List UInt8) : List MapEntry → Nat → Option (Option (Nat × Value))
  | [], _ => some none
  | e :: es, i => match e.key with
    | .string b => bif bytesEq k b.data.toList then some (some (i, e.val)) else findStr k es (i + 1)
    | _ => none
def findA (P : Program) (t : TypeId) (k : Value) (es : List MapEntry) : Option (Option (Nat × Value)) :=
  match P.underlying t with
  | some (.int i) => Instr.findNow (.int i) k es 0
  | some .string => match k with
    | .string b => findStr b.data.toList es 0
    | _ => none
  | _ => none
def lookMap (s : Sto) : AV → Option (List MapEntry × Nat)
  | .mref id => match s.bs[id]? with
    | some [.mobj es clock] => some (es, clock)
    | _ => none
  | _ => none
def lookupA (P : Program) (s : Sto) (t : TypeId) (m k : AV) (commaOk : Bool) : Option AV :=
  match P.underlying t, lookMap s m, conc k with
  | some (.map kt elem), some (es, _), some key => match findA P kt key es with
    | some (some (_, v)) => some (bif commaOk then .tuple [ofEl v, scv (.bool true)] else ofEl v)
    | some none => match P.info? elem with
      | some i => match i.zero with
        | some z => some (bif commaOk then .tuple [ofConst z, scv (.bool false)] else ofConst z)
        | none => none
      | none => none
    | none => none
  | _, _, _ => none
def setMap (L : Lim) (s : Sto) (es : List MapEntry) (clock : Nat) : AV → Option Sto
  | .mref id => bif Nat.ble L.ro id then some { s with bs := s.bs.set id [.mobj es clock] } else none
  | _ => none
def mapUpdateA (P : Program) (L : Lim) (s : Sto) (t : TypeId) (m k x : AV) : Option Sto :=
  match P.underlying t, lookMap s m, conc k, concE x with
  | some (.map kt _), some (es, clock), some key, some v => match findA P kt key es with
    | some (some (i, _)) => match (es[i]?).map (·.key) with
      | some old => bif Instr.sameBits 10000 old key then setMap L s (es.modify i fun e => { e with key := key, val := v }) clock m else none
      | none => none
    | some none => setMap L s (es ++ [{ key := key, val := v, born := clock }]) (clock + 1) m
    | none => none
  | _, _, _, _ => none
def deleteA (P : Program) (L : Lim) (s : Sto) (t : TypeId) (m k : AV) : Option Sto :=
  match P.underlying t, lookMap s m, conc k with
  | some (.map kt _), some (es, clock), some key => match findA P kt key es with
    | some (some (i, _)) => setMap L s (es.eraseIdx i) clock m
    | some none => setMap L s es clock m
    | none => none
  | _, _, _ => none
def bytesLt : List UInt8 → List UInt8 → Bool
  | _, [] => false
  | [], _ :: _ => true
  | a :: x, b :: y => Nat.blt a.toNat b.toNat || (Nat.beq a.toNat b.toNat && bytesLt x y)
def fastInt (k : IntKind) (op : BinOp) (a b : Nat) : Option Value := match op with
  | .eql => some (.bool (Nat.beq a b))
  | .neq => some (.bool (!Nat.beq a b))
  | .lss => some (.bool (Nat.blt a b))
  | .leq => some (.bool (Nat.ble a b))
  | .gtr => some (.bool (Nat.blt b a))
  | .geq => some (.bool (Nat.ble b a))
  | .add => bif Nat.beq (kindNo k) 3 && Nat.blt (a + b) 9223372036854775808 then some (.int .i64 (.ofNat (a + b))) else none
  | .sub => bif Nat.beq (kindNo k) 3 && (Nat.ble b a && Nat.blt a 9223372036854775808) then some (.int .i64 (.ofNat (a - b))) else none
  | _ => none
def fastStr (op : BinOp) (a b : List UInt8) : Option Value := match op with
  | .eql => some (.bool (bytesEq a b))
  | .neq => some (.bool (!bytesEq a b))
  | .lss => some (.bool (bytesLt a b))
  | .leq => some (.bool (bytesLt a b || bytesEq a b))
  | .gtr => some (.bool (!(bytesLt a b || bytesEq a b)))
  | .geq => some (.bool (!bytesLt a b))
  | _ => none
def fastBin (op : BinOp) : AV → AV → Option Value
  | .pv (.sc (.int k (.ofNat a))), .pv (.sc (.int k' (.ofNat b))) => bif Nat.beq (kindNo k) (kindNo k') then fastInt k op a b else none
  | .pv (.sc (.string a)), .pv (.sc (.string b)) => fastStr op a.data.toList b.data.toList
  | _, _ => none
def fastUn (op : UnOp) : AV → Option Value
  | .pv (.sc (.bool b)) => match op with
    | .not => some (.bool !b)
    | _ => none
  | _ => none
def fastIndex (P : Program) (t : TypeId) : AV → AV → Option Value
  | .pv (.sc (.string b)), .pv (.sc (.int _ (.ofNat n))) => match P.underlying t, b.data.toList[n]? with
    | some .string, some c => some (.int .u8 c.toNat)
    | _, _ => none
  | _, _ => none
def fastLen (P : Program) (t : TypeId) : AV → Option Value
  | .pv (.sc (.string b)) => match P.underlying t with
    | some .string => some (.int .i64 (.ofNat b.data.toList.length))
    | _ => none
  | _ => none
def opA (E : Env) (L : Lim) (ρ : Nat → AV) (s : Sto) (o : Oper) : Option (AV × Sto) :=
  let q (r : Option AV) : Option (AV × Sto) := match r with | some v => some (v, s) | none => none
  match o.op with
  | .move x | .assign x => some (evalO ρ x, s)
  | .pick c a b => match evalO ρ c with
    | .pv (.sc (.bool t)) => some (bif t then evalO ρ a else evalO ρ b, s)
    | _ => none
  | .alloc t => match zeroOf E.P t with
    | some z => some (newB s (markZ E s.bs.length t z))
    | none => none
  | .box t x => if (cellsOf (evalO ρ x)).all okCell then some (newB s (markZ E s.bs.length t (cellsOf (evalO ρ x)))) else none
  | .build t parts => q (buildA E.P t (parts.toList.map fun p => (p.1, evalO ρ p.2)))
  | .buildSlice t len parts => buildSliceA E.P L s t len (parts.toList.map fun p => (p.1, evalO ρ p.2))
  | .makeSlice t l c => makeSliceA E.P s t (evalO ρ l) (evalO ρ c)
  | .load t a => q (loadA E s t (evalO ρ a))
  | .store t a x => match storeA E L s t (evalO ρ a) (evalO ρ x) with
    | some s' => some (.tuple [], s')
    | none => none
  | .nilCheck x => q (nilCheckA s (evalO ρ x))
  | .fieldAddr t x f => q (fieldAddrA E.P s t (evalO ρ x) f)
  | .field t x f => q (fieldA E.P t (evalO ρ x) f)
  | .indexAddr t x i => q (indexAddrA E.P s t (evalO ρ x) (evalO ρ i))
  | .extract t i => q (extractA (evalO ρ t) i)
  | .makeFunc fn first captured => some (.func fn (first.toList.map (evalO ρ)) (captured.toList.map (evalO ρ)), s)
  | .makeInterface t x => match E.P.underlying t with
    | some (.interface _) => none
    | some _ => some (.iface t (evalO ρ x), s)
    | none => none
  | .slice t x lo hi mx =>
    match sliceA E.P s t (evalO ρ x) (lo.map (evalO ρ)) (hi.map (evalO ρ)) (mx.map (evalO ρ)) with
    | some v => some (v, s)
    | none => q (quickOp E ρ o)
  | .call { callee := .builtin .len, args := args, argTypes := ts } =>
    match args.toList, ts.toList with
    | [x], [t] => match fastLen E.P t (evalO ρ x) with
      | some v => some (scv v, s)
      | none => match E.P.underlying t, lenA s (evalO ρ x) with
        | some (.slice _), some n => some (scv (.int .i64 n), s)
        | _, _ => q (quickOp E ρ o)
    | _, _ => none
  | .call { callee := .builtin .append, args := args, argTypes := ts } =>
    match args.toList, ts.toList with
    | [x, y], t :: u :: _ => match E.P.underlying u with
      | some (.int _) => none
      | some _ => appendA E.P L s t (evalO ρ x) (evalO ρ y)
      | none => none
    | _, _ => none
  | .call { callee := .builtin .delete, args := args, argTypes := ts } =>
    match args.toList, ts.toList with
    | [m, k], t :: _ => match deleteA E.P L s t (evalO ρ m) (evalO ρ k) with
      | some s' => some (.tuple [], s')
      | none => none
    | _, _ => none
  | .call { callee := .builtin _, .. } => q (quickOp E ρ o)
  | .makeMap _ none => some (.mref s.bs.length, { s with bs := s.bs ++ [[.mobj [] 0]] })
  | .lookup t m k ok => q (lookupA E.P s t (evalO ρ m) (evalO ρ k) ok)
  | .mapUpdate t m k x | .insert t m k x => match mapUpdateA E.P L s t (evalO ρ m) (evalO ρ k) (evalO ρ x) with
    | some s' => some (.tuple [], s')
    | none => none
  | .binOp op t x y _ => match fastBin op (evalO ρ x) (evalO ρ y) with
    | some v => some (scv v, s)
    | none => match eqNilA E.P s ρ op t x y with
      | some v => some (v, s)
      | none => q (quickOp E ρ o)
  | .convert a b x => match E.P.underlying a, E.P.underlying b, evalO ρ x with
    | some .string, some (.slice e), .pv (.sc (.string t)) => match E.P.underlying e with
      | some (.int .u8) => some (.pv (.list (t.data.toList.map fun b => [.sc (.int .u8 b.toNat)])), s)
      | _ => none
    | some (.slice e), some .string, y => match E.P.underlying e, sliceBytes s y with
      | some (.int .u8), some l => some (scv (.string ⟨l.toArray⟩), s)
      | _, _ => none
    | _, _, _ => q (quickOp E ρ o)
  | .unOp op _ x => match fastUn op (evalO ρ x) with
    | some v => some (scv v, s)
    | none => q (quickOp E ρ o)
  | .index t x i => match fastIndex E.P t (evalO ρ x) (evalO ρ i) with
    | some v => some (scv v, s)
    | none => q (quickOp E ρ o)
  | _ => none
def opLoad (E : Env) (ρ : Nat → AV) (s : Sto) (t : TypeId) (a : Operand) : Option (AV × Sto) := match loadA E s t (evalO ρ a) with
  | some v => some (v, s)
  | none => none
def opFieldAddr (E : Env) (ρ : Nat → AV) (s : Sto) (t : TypeId) (x : Operand) (f : Nat) : Option (AV × Sto) := match fieldAddrA E.P s t (evalO ρ x) f with
  | some v => some (v, s)
  | none => none
def opField (E : Env) (ρ : Nat → AV) (s : Sto) (t : TypeId) (x : Operand) (f : Nat) : Option (AV × Sto) := match fieldA E.P t (evalO ρ x) f with
  | some v => some (v, s)
  | none => none
def opIndexAddr (E : Env) (ρ : Nat → AV) (s : Sto) (t : TypeId) (x i : Operand) : Option (AV × Sto) := match indexAddrA E.P s t (evalO ρ x) (evalO ρ i) with
  | some v => some (v, s)
  | none => none
def opExtract (ρ : Nat → AV) (s : Sto) (x : Operand) (i : Nat) : Option (AV × Sto) := match extractA (evalO ρ x) i with
  | some v => some (v, s)
  | none => none
def opBuild (E : Env) (ρ : Nat → AV) (s : Sto) (t : TypeId) (parts : Array (Nat × Operand)) : Option (AV × Sto) := match buildA E.P t (parts.toList.map fun p => (p.1, evalO ρ p.2)) with
  | some v => some (v, s)
  | none => none
def opStore (E : Env) (L : Lim) (ρ : Nat → AV) (s : Sto) (t : TypeId) (a x : Operand) : Option (AV × Sto) := match storeA E L s t (evalO ρ a) (evalO ρ x) with
  | some s' => some (.tuple [], s')
  | none => none
def opBin (E : Env) (ρ : Nat → AV) (s : Sto) (o : Oper) (op : BinOp) (t : TypeId) (x y : Operand) : Option (AV × Sto) := match fastBin op (evalO ρ x) (evalO ρ y) with
  | some v => some (scv v, s)
  | none => match eqNilA E.P s ρ op t x y with
    | some v => some (v, s)
    | none => match quickOp E ρ o with
      | some v => some (v, s)
      | none => none
def opF (E : Env) (L : Lim) (ρ : Nat → AV) (s : Sto) (o : Oper) : Option (AV × Sto) := match o.op with
  | .move x => some (evalO ρ x, s)
  | .assign x => some (evalO ρ x, s)
  | .load t a => opLoad E ρ s t a
  | .fieldAddr t x f => opFieldAddr E ρ s t x f
  | .field t x f => opField E ρ s t x f
  | .indexAddr t x i => opIndexAddr E ρ s t x i
  | .extract x i => opExtract ρ s x i
  | .build t parts => opBuild E ρ s t parts
  | .store t a x => opStore E L ρ s t a x
  | .binOp op t x y _ => opBin E ρ s o op t x y
  | _ => opA E L ρ s o
theorem opF_eq (E : Env) (L : Lim) (ρ : Nat → AV) (s : Sto) (o : Oper) : opF E L ρ s o = opA E L ρ s o := by
  obtain ⟨dst, op, type, pos, after, guard⟩ := o
  cases op <;> rfl
def calleeA (ρ : Nat → AV) (c : Call) : Option (FuncId × List AV) :=
  match c.callee with
  | .value f => match evalO ρ f with
    | .func (.func g) first captured => some (g, first ++ c.args.toList.map (evalO ρ) ++ captured)
    | _ => none
  | _ => none
inductive Out where
  | norm | exit (id : Nat) | ret
def guardTmp (ops : Array Oper) (o : Oper) : Option Nat := match o.guard with
  | none => none
  | some (j, _) => match ops[j]? with
    | some p => p.dst
    | none => none
def guardOk (ops : Array Oper) (ρ : Nat → AV) (o : Oper) : Option Bool :=
  match o.guard with
  | none => some true
  | some (_, want) => match guardTmp ops o with
    | some d => match ρ d with
      | .pv (.sc (.bool b)) => some (b == want)
      | .tuple [] => some false
      | _ => none
    | none => some false
def putA (st : St) (d : Option Nat) (v : AV) : Option St :=
  match d with
  | none => some st
  | some d => bif Nat.blt d st.N then some { st with ρ := upd st.ρ d v } else none
abbrev CallF := FuncId → List AV → Sto → Option (AV × Sto)
def actO (E : Env) (L : Lim) (cf : CallF) (ρ : Nat → AV) (s : Sto) (o : Oper) : Option (AV × Sto) :=
  match o.op with
  | .call c => match c.callee with
    | .builtin _ => opA E L ρ s o
    | _ => match calleeA ρ c with
      | some (f, args) => cf f args s
      | none => none
  | _ => opA E L ρ s o
def actA (E : Env) (L : Lim) (cf : CallF) (ρ : Nat → AV) (s : Sto) (o : Oper) : Option (AV × Sto) :=
  match o.op with
  | .call c => match c.callee with
    | .builtin _ => opA E L ρ s o
    | _ => match calleeA ρ c with
      | some (f, args) => cf f args s
      | none => none
  | _ => opF E L ρ s o
theorem actA_eq (E : Env) (L : Lim) (cf : CallF) (ρ : Nat → AV) (s : Sto) (o : Oper) : actA E L cf ρ s o = actO E L cf ρ s o := by
  unfold actA actO
  simp only [opF_eq]
def stepA (E : Env) (L : Lim) (cf : CallF) (st : St) (o : Oper) : Option St :=
  match actA E L cf st.ρ st.s o with
  | some (v, s) => putA { st with s := s } o.dst v
  | none => none
def isTmp : Operand → Nat → Bool
  | .tmp t, d => Nat.beq t d
  | _, _ => false
structure Fuse where
  t : TypeId
  x : Operand
  y : Operand
  d : Nat
  ix : Operand
  p : Nat
  te : TypeId
  v : Operand
def fused (o o1 o2 : Oper) : Option Fuse :=
  match o.op, o.dst, o1.op, o1.dst, o2.op, o2.dst with
  | .call { callee := .builtin .append, args := args, argTypes := ts }, some d, .indexAddr t1 (.tmp d1) ix, some p, .store te (.tmp p1) v, none =>
    match args.toList, ts.toList with
    | [x, y], [t, t'] => if d1 = d ∧ p1 = p ∧ t1 = t ∧ t' = t ∧ d ≠ p ∧ o.guard.isNone = true ∧ o1.guard.isNone = true ∧ o2.guard.isNone = true ∧ isTmp ix d = false ∧ isTmp v d = false ∧ isTmp v p = false ∧ isTmp x d = false ∧ isTmp y d = false ∧ isTmp x p = false ∧ isTmp y p = false ∧ isTmp ix p = false then
        some ⟨t, x, y, d, ix, p, te, v⟩ else none
    | _, _ => none
  | _, _, _, _, _, _ => none
def appendRow (L : Lim) (s : Sto) (elem : TypeId) (i : TypeInfo) (x : AV) (row : List PV) : Option (AV × Sto) :=
  match x with
  | .capped rows =>
    if (rows.length + 1) * i.bytes ≤ 2 ^ 45 ∧ rows.length + 1 ≤ 2 ^ 45 ∧ (rows.all fun r => r.length == i.size) = true then
      some (.own s.ts.length (rows ++ [row]), { s with ts := s.ts ++ [(rows.length + 1, elem)] })
    else none
  | .own k rows =>
    if (rows.length + 1) * i.bytes ≤ 2 ^ 45 ∧ rows.length + 1 ≤ 2 ^ 45 ∧ s.ts[k]? = some (rows.length, elem) ∧ L.rt ≤ k ∧ (rows.all fun r => r.length == i.size) = true then
      some (.own k (rows ++ [row]), { s with ts := s.ts.set k (rows.length + 1, elem) })
    else none
  | _ => none
def fuseA (E : Env) (L : Lim) (ρ : Nat → AV) (s : Sto) (k : Fuse) : Option (AV × Sto) :=
  match E.P.underlying k.t with
  | some (.slice elem) =>
    if L.mu elem = false ∧ k.te = elem then
      match E.P.info? elem, rowsOf (evalO ρ k.x), rowsOf (evalO ρ k.y), natOfA (evalO ρ k.ix), toPVs (cellsOf (evalO ρ k.v)) with
      | some i, some rows, some [z], some n, some row =>
        if n = rows.length ∧ z.length = i.size ∧ row.length = i.size ∧ (cellsOf (evalO ρ k.v)).all okCell = true ∧ (z.map AV.pv).all okCell = true ∧ i.size ≠ 0 ∧ (zeroOf E.P elem).map List.length = some i.size then
          appendRow L s elem i (evalO ρ k.x) row
        else none
      | _, _, _, _, _ => none
    else none
  | _ => none
def fuseM (E : Env) (L : Lim) (ρ : Nat → AV) (s : Sto) (k : Fuse) : Option (AV × Sto) :=
  match E.P.underlying k.t with
  | some (.slice elem) =>
    if L.mu elem = true ∧ k.te = elem then
      match E.P.info? elem, evalO ρ k.x, natOfA (evalO ρ k.ix) with
      | some i, .ref id off len sz, some n => match srcCells s i.size (evalO ρ k.y), s.bs[id]? with
        | some zs, some old =>
          if n = len ∧ zs.length = i.size ∧ (cellsOf (evalO ρ k.v)).length = i.size ∧ (cellsOf (evalO ρ k.v)).all okCell = true ∧ zs.all okCell = true ∧ i.size ≠ 0 ∧ (zeroOf E.P elem).map List.length = some i.size ∧
              off = 0 ∧ sz = i.size ∧ len * sz ≤ old.length ∧ alive s id = true ∧ (len + 1) * i.bytes ≤ 2 ^ 45 ∧ len + 1 ≤ 2 ^ 45 ∧ L.ro ≤ id then
            some (.ref s.bs.length 0 (len + 1) sz, { s with bs := s.bs.set id [] ++ [old.take (len * sz) ++ cellsOf (evalO ρ k.v)] })
          else none
        | _, _ => none
      | _, _, _ => none
    else none
  | _ => none
def fuseX (E : Env) (L : Lim) (ρ : Nat → AV) (s : Sto) (k : Fuse) : Option (AV × Sto) := match fuseA E L ρ s k with
  | some r => some r
  | none => fuseM E L ρ s k
def fuseSt (st : St) (k : Fuse) (v : AV) (s : Sto) : Option St :=
  match putA { st with s := s } (some k.d) v with
  | some st => putA st (some k.p) .junk
  | none => none
def opsA (E : Env) (L : Lim) (cf : CallF) (ops : Array Oper) : List Oper → St → Option St
  | [], st => some st
  | o :: rest, st =>
    let one : Option St := match guardOk ops st.ρ o with
      | some true => match stepA E L cf st o with
        | some st => opsA E L cf ops rest st
        | none => none
      | some false => match putA st o.dst (.tuple []) with
        | some st => opsA E L cf ops rest st
        | none => none
      | none => none
    match rest with
    | o1 :: o2 :: rest' => match fused o o1 o2 with
      | some k => match fuseA E L st.ρ st.s k with
        | some (v, s) => match fuseSt st k v s with
          | some st => opsA E L cf ops rest' st
          | none => none
        | none => one
      | none => one
    | _ => one
def hcells (E : Env) (ρ : Nat → AV) (o : Oper) : Option (List AV × (Nat → AV)) :=
  match o.op with
  | .alloc t => match zeroOf E.P t with
    | some z => bif E.bz t then none else some (z, fun id => .ptr id 0)
    | none => none
  | .makeSlice t l c => match E.P.underlying t, evalO ρ l, evalO ρ c with
    | some (.slice elem), .pv (.sc (.int .i64 l)), .pv (.sc (.int .i64 c)) => match E.P.info? elem, zeroOf E.P elem with
      | some i, some z =>
        if 0 < l ∧ l = c ∧ c ≤ 2 ^ 40 ∧ c * i.bytes ≤ 2 ^ 45 ∧ z.length = i.size ∧ i.size ≠ 0 then some (repl l.toNat z, fun id => .ref id 0 l.toNat i.size)
        else none
      | _, _ => none
    | _, _, _ => none
  | _ => none
def idOf : AV → Option Nat
  | .ptr id _ => some id
  | .ref id _ _ _ => some id
  | _ => none
def intEq : Int → Int → Bool
  | .ofNat a, .ofNat b => Nat.beq a b
  | .negSucc a, .negSucc b => Nat.beq a b
  | _, _ => false
def eqV : Value → Value → Bool
  | .int k n, .int k' n' => Nat.beq (kindNo k) (kindNo k') && intEq n n'
  | .bool a, .bool b => a == b
  | .string a, .string b => bytesEq a.data.toList b.data.toList
  | .pointer none, .pointer none => true
  | .nilFunc, .nilFunc => true
  | .nilIface, .nilIface => true
  | .map none, .map none => true
  | .slice none a b, .slice none c d => Nat.beq a c && Nat.beq b d
  | _, _ => false
mutual
def eqP : PV → PV → Bool
  | .sc a, .sc b => eqV a b
  | .list a, .list b => eqPLL a b
  | _, _ => false
def eqPL : List PV → List PV → Bool
  | [], [] => true
  | a :: xs, b :: ys => eqP a b && eqPL xs ys
  | _, _ => false
def eqPLL : List (List PV) → List (List PV) → Bool
  | [], [] => true
  | a :: xs, b :: ys => eqPL a b && eqPLL xs ys
  | _, _ => false
end
def eqMs : List MapEntry → List MapEntry → Bool
  | [], [] => true
  | a :: xs, b :: ys => eqV a.key b.key && eqV a.val b.val && Nat.beq a.born b.born && eqMs xs ys
  | _, _ => false
mutual
def eqA : AV → AV → Bool
  | .pv a, .pv b => eqP a b
  | .ptr a b, .ptr c d => Nat.beq a c && Nat.beq b d
  | .gptr a b, .gptr c d => Nat.beq a c && Nat.beq b d
  | .eptr a b, .eptr c d => eqPL a c && Nat.beq b d
  | .capped a, .capped b => eqPLL a b
  | .own t a, .own u b => Nat.beq t u && eqPLL a b
  | .ref a b c d, .ref a' b' c' d' => Nat.beq a a' && Nat.beq b b' && Nat.beq c c' && Nat.beq d d'
  | .func (.func f) a b, .func (.func g) c d => Nat.beq f g && eqAL a c && eqAL b d
  | .iface t a, .iface u b => Nat.beq t u && eqA a b
  | .agg a, .agg b => eqAL a b
  | .tuple a, .tuple b => eqAL a b
  | .junk, .junk => true
  | .mref a, .mref b => Nat.beq a b
  | .mobj a c, .mobj b d => eqMs a b && Nat.beq c d
  | .bz a t n, .bz b u m => Nat.beq a b && Nat.beq t u && Nat.beq n m
  | _, _ => false
def eqAL : List AV → List AV → Bool
  | [], [] => true
  | a :: xs, b :: ys => eqA a b && eqAL xs ys
  | _, _ => false
end
def quietO (E : Env) (L : Lim) (ρ : Nat → AV) (s : Sto) (o : Oper) : Option AV :=
  match o.op with
  | .alloc _ | .box _ _ | .store _ _ _ | .makeMap _ _ | .mapUpdate _ _ _ _ | .insert _ _ _ _ => none
  | .makeSlice _ _ _ => match opA E L ρ s o with
    | some (.capped [], _) => some (.capped [])
    | _ => none
  | .call { callee := .builtin .delete, .. } => none
  | .buildSlice t _ _ => match E.P.underlying t with
    | some (.slice elem) => bif muL L elem then none else match opA E L ρ s o with
      | some (v, _) => some v
      | none => none
    | _ => none
  | .call { callee := .builtin .append, .. } => none
  | _ => match opA E L ρ s o with
    | some (v, _) => some v
    | none => none
def quietA (E : Env) (L : Lim) (ρ : Nat → AV) (s : Sto) (o : Oper) : Option AV :=
  match o.op with
  | .alloc _ | .box _ _ | .store _ _ _ | .makeMap _ _ | .mapUpdate _ _ _ _ | .insert _ _ _ _ => none
  | .makeSlice _ _ _ => match opA E L ρ s o with
    | some (.capped [], _) => some (.capped [])
    | _ => none
  | .call { callee := .builtin .delete, .. } => none
  | .buildSlice t _ _ => match E.P.underlying t with
    | some (.slice elem) => bif muL L elem then none else match opA E L ρ s o with
      | some (v, _) => some v
      | none => none
    | _ => none
  | .call { callee := .builtin .append, .. } => none
  | _ => match opF E L ρ s o with
    | some (v, _) => some v
    | none => none
theorem quietA_eq (E : Env) (L : Lim) (ρ : Nat → AV) (s : Sto) (o : Oper) : quietA E L ρ s o = quietO E L ρ s o := by
  unfold quietA quietO
  simp only [opF_eq]
def quietG (E : Env) (L : Lim) (ops : Array Oper) (ρ : Nat → AV) (s : Sto) (o : Oper) : Option AV :=
  match guardOk ops ρ o with
  | some true => quietA E L ρ s o
  | some false => some (.tuple [])
  | none => none
def actG (E : Env) (L : Lim) (cf : CallF) (ops : Array Oper) (ρ : Nat → AV) (s : Sto) (o : Oper) : Option (AV × Sto) :=
  match guardOk ops ρ o with
  | some true => actA E L cf ρ s o
  | some false => some (.tuple [], s)
  | none => none
def firstA (E : Env) (L : Lim) (ops : Array Oper) (cls : List Cls) : List Nat → St → Option St
  | [], st => some st
  | i :: rest, st => match ops[i]?, cls[i]? with
    | some o, some (.q _) => match quietG E L ops st.ρ st.s o with
      | some v => match putA st o.dst v with
        | some st => firstA E L ops cls rest st
        | none => none
      | none => none
    | some o, some (.h _) => match hcells E st.ρ o with
      | some (cs, mk) => match putA { st with s := { st.s with bs := st.s.bs ++ [cs] } } o.dst (mk st.s.bs.length) with
        | some st => firstA E L ops cls rest st
        | none => none
      | none => none
    | _, _ => none
def restA (E : Env) (L : Lim) (cf : CallF) (ops : Array Oper) (cls : List Cls) : List Nat → St → List Sto → Option (St × List Sto)
  | [], st, acc => some (st, acc)
  | i :: rest, st, acc => match ops[i]?, cls[i]? with
    | some o, some (.q _) => match quietG E L ops st.ρ st.s o with
      | some v => match putA st o.dst v with
        | some st => restA E L cf ops cls rest st acc
        | none => none
      | none => none
    | some o, some (.w _) => match actG E L cf ops st.ρ st.s o with
      | some (v, s) => match putA { st with s := s } o.dst v with
        | some st => restA E L cf ops cls rest st (s :: acc)
        | none => none
      | none => none
    | some o, some (.fa _ j x) => match ops[j]?, ops[x]? with
      | some o1, some o2 => match fused o o1 o2 with
        | some k => match fuseX E L st.ρ st.s k with
          | some (v, s) => match fuseSt st k v s with
            | some st => restA E L cf ops cls rest st (s :: acc)
            | none => none
          | none => none
        | none => none
      | _, _ => none
    | some _, some .fj => restA E L cf ops cls rest st acc
    | some _, some .fx => restA E L cf ops cls rest st acc
    | _, _ => none
def warOf (war : List (List Nat)) (i : Nat) : List Nat := match war[i]? with
  | some l => l
  | none => []
def has (l : List Nat) (x : Nat) : Bool := l.any fun y => Nat.beq y x
def envAt (war : List (List Nat)) (ρ0 ρf : Nat → AV) (i t : Nat) : AV := bif has (warOf war i) t then ρ0 t else ρf t
def chkA (E : Env) (L : Lim) (ops : Array Oper) (cls : List Cls) (war : List (List Nat)) (ρ0 ρf : Nat → AV) (σ : List Sto) : List (Nat × Nat) → Bool
  | [] => true
  | (i, k) :: rest => (match ops[i]?, cls[i]?, σ[k]? with
    | some o, some (.q _), some s => match quietG E L ops (envAt war ρ0 ρf i) s o with
      | some v => match o.dst with
        | some d => eqA v (ρf d)
        | none => true
      | none => false
    | some o, some (.h _), some s => match hcells E (envAt war ρ0 ρf i) o, o.dst with
      | some (cs, _), some d => match idOf (ρf d) with
        | some id => match s.bs[id]? with
          | some cs' => eqAL cs' cs
          | none => false
        | none => false
      | _, _ => false
    | _, _, _ => false) && chkA E L ops cls war ρ0 ρf σ rest
def muRow (ops : Array Oper) (p : Plan) (ρ0 ρf : Nat → AV) (id0 : Nat) : List Nat → Bool
  | [] => true
  | m :: rest => (match ops[m]?, p.cls[m]? with
    | some om, some (.w _) => match om.op with
      | .store _ y _ => match evalO (envAt p.war ρ0 ρf m) y with
        | .ptr id _ => !(Nat.beq id id0)
        | _ => true
      | _ => true
    | _, _ => true) && muRow ops p ρ0 ρf id0 rest
def muFa (E : Env) (L : Lim) (ops : Array Oper) (i j x : Nat) : Bool := match ops[i]?, ops[j]?, ops[x]? with
  | some o, some o1, some o2 => match fused o o1 o2 with
    | some k => match E.P.underlying k.t with
      | some (.slice elem) => L.mu elem
      | _ => false
    | none => false
  | _, _, _ => false
def noMu (E : Env) (L : Lim) (ops : Array Oper) (cls : List Cls) : List Nat → Bool
  | [] => true
  | i :: rest => (match cls[i]? with
    | some (.fa _ j x) => !(muFa E L ops i j x)
    | _ => true) && noMu E L ops cls rest
def muAll (E : Env) (L : Lim) (ops : Array Oper) (p : Plan) (ρ0 ρf : Nat → AV) : List Nat → Bool
  | [] => true
  | i :: rest => (match p.cls[i]? with
    | some (.fa _ j x) => bif muFa E L ops i j x then match ops[i]? with
      | some o => match o.dst with
        | some d => match ρf d with
          | .ref id0 _ _ _ => muRow ops p ρ0 ρf id0 p.rest
          | _ => true
        | none => true
      | none => true
      else true
    | _ => true) && muAll E L ops p ρ0 ρf rest
def muChk (E : Env) (L : Lim) (ops : Array Oper) (p : Plan) (ρ0 ρf : Nat → AV) : Bool := noMu E L ops p.cls p.rest || muAll E L ops p ρ0 ρf p.rest
def regA (E : Env) (L : Lim) (cf : CallF) (p : Plan) (ops : Array Oper) (st0 : St) : Option St :=
  match firstA E L ops p.cls p.first st0 with
  | some st => match restA E L cf ops p.cls p.rest st [st.s] with
    | some (st, acc) => bif chkA E L ops p.cls p.war st0.ρ st.ρ acc.reverse p.chk && muChk E L ops p st0.ρ st.ρ then some st else none
    | none => none
  | none => none
def planned (E : Env) (L : Lim) (cf : CallF) (ops : Array Oper) (st : St) : Option Plan → Option St
  | some p => regA E L cf p ops st
  | none => none
def pickP (E : Env) (L : Lim) (ops : Array Oper) (st : St) (p q : Option Plan) : Option Plan := match p with
  | some p => match firstA E L ops p.cls p.first st with
    | some _ => some p
    | none => q
  | none => q
def initρ : List AV → Nat → AV
  | [], _ => .tuple []
  | v :: _, 0 => v
  | _ :: vs, n + 1 => initρ vs n
def resultA (E : Env) (st : St) : ResultVar → Option AV
  | .tmp t => some (st.ρ t)
  | .cell a t => loadA E st.s t (st.ρ a)
def resultsA (E : Env) (st : St) : List ResultVar → Option (List AV)
  | [] => some []
  | r :: rs => match resultA E st r, resultsA E st rs with
    | some v, some vs => some (v :: vs)
    | _, _ => none
def packA : List AV → AV
  | [v] => v
  | vs => .tuple vs
def noRF : Code → Bool
  | .rangeFunc _ _ _ _ => false
  | .seq a b => noRF a && noRF b
  | .cond _ a b => noRF a && noRF b
  | .block _ b => noRF b
  | .loop b => noRF b
  | _ => true
def elemA (P : Program) (el : TypeId) (row : List PV) : Option AV :=
  if sizeA P el = some row.length ∧ row.length ≠ 0 then partOf P el (row.map .pv) 0 else none
def evW (E : Env) (cf : Lim → CallF) : Nat → Lim → Code → St → Option (Out × St)
  | 0, _, _, _ => none
  | n + 1, L, c, st => match c with
    | .skip => some (.norm, st)
    | .ret => some (.ret, st)
    | .exit id => some (.exit id, st)
    | .region _ ops false => match opsA E L (cf L) ops ops.toList st with
      | some st => some (.norm, st)
      | none => none
    | .region id ops true => match planned E L (cf L) ops st (pickP E L ops st (L.pl id) (L.pl (id + 1000000))) with
      | some st => some (.norm, st)
      | none => none
    | .seq a b => match evW E cf n L a st with
      | some (.norm, st) => evW E cf n L b st
      | r => r
    | .cond c a b => match evalO st.ρ c with
      | .pv (.sc (.bool t)) => evW E cf n L (bif t then a else b) st
      | _ => none
    | .block id b => match evW E cf n L b st with
      | some (.exit j, st) => bif Nat.beq j id then some (.norm, st) else some (.exit j, st)
      | r => r
    | .loop b => match evW E cf n L b st with
      | some (.norm, st) => evW E cf n L (.loop b) st
      | r => r
    | _ => none
def bodyA (E : Env) (cf : Lim → CallF) (n : Nat) (fn : Func) (L : Lim) (args : List AV) (s : Sto) : Option (AV × Sto) :=
  match fn.body with
  | none => none
  | some body => match evW E cf n L body ⟨fn.ntmps, initρ args, s⟩ with
    | some (.exit _, _) => none
    | some (_, st) => match resultsA E st fn.results.toList with
      | some vs => some (packA vs, st.s)
      | none => none
    | none => none
mutual
def idsLt (n : Nat) : AV → Bool
  | .ptr id _ | .ref id _ _ _ | .mref id | .bz id _ _ => Nat.blt id n
  | .func _ first captured => idsLtL n first && idsLtL n captured
  | .iface _ v => idsLt n v
  | .agg cs => idsLtL n cs
  | .tuple vs => idsLtL n vs
  | _ => true
def idsLtL (n : Nat) : List AV → Bool
  | [] => true
  | c :: cs => idsLt n c && idsLtL n cs
end
def newRef (r : Bool) (n : Nat) : AV → Option (Nat × Nat × Nat × Nat)
  | .ref id off len sz => bif r && Nat.ble n id then some (id, off, len, sz) else none
  | _ => none
def keepA (r : Bool) (n : Nat) (v : AV) (s : Sto) : Option (AV × Sto) :=
  bif (s.bs.take n).all (idsLtL n) then match newRef r n v with
    | some (id, off, len, sz) => match s.bs[id]? with
      | some (c :: cs) => bif idsLtL n (c :: cs) then some (.ref n off len sz, ⟨s.bs.take n ++ [c :: cs], s.ts⟩) else none
      | _ => none
    | none => match close s.bs n s.ts.length v with
      | some v => some (v, ⟨s.bs.take n, s.ts⟩)
      | none => none
  else none
def pureA (E : Env) (cf : Lim → CallF) (n : Nat) (f : FuncId) (fn : Func) (args : List AV) (s : Sto) : Option (AV × Sto) :=
  match bodyA E cf n fn ⟨0, 0, 0, E.mu f, E.rr f, E.plan f⟩ args ⟨[], []⟩ with
  | some (v, s') => match close s'.bs 0 0 v with
    | some v => some (v, s)
    | none => none
  | none => none
def enterA (E : Env) (cf : Lim → CallF) (n : Nat) (L : Lim) (f : FuncId) (fn : Func) (args : List AV) (s : Sto) : Option (AV × Sto) :=
  if args.length ≤ fn.ntmps then
    match E.kind f with
    | .esc => bodyA E cf n fn { L with mu := E.mu f, rr := E.rr f, pl := E.plan f } args s
    | .rd => match closeL [] 0 0 args with
      | some args => pureA E cf n f fn args s
      | none => match bodyA E cf n fn ⟨s.bs.length, s.bs.length, s.ts.length, E.mu f, E.rr f, E.plan f⟩ args s with
        | some (v, s') => match close s'.bs s.bs.length s.ts.length v with
          | some v => some (v, s)
          | none => none
        | none => none
    | k => bif (match k with | .im => noIdL args | _ => false) then pureA E cf n f fn args s else
      match bodyA E cf n fn ⟨0, L.ro, L.rt, E.mu f, E.rr f, E.plan f⟩ args s with
      | some (v, s') => keepA (L.rr f) s.bs.length v s'
      | none => none
  else none
def emptyArg : List AV → Bool
  | [x] => match rowsOf x with
    | some [] => true
    | _ => false
  | _ => false
def toldA (E : Env) (L : Lim) (f : FuncId) (args : List AV) (s : Sto) (r : Option (AV × Sto)) : Option (AV × Sto) := match E.told f with
  | some T => T L args s
  | none => bif emptyArg args then some (.capped [], s) else r
def callN (E : Env) : Nat → Lim → CallF
  | 0, _, _, _, _ => none
  | n + 1, L, f, args, s => match E.P.funcs[f]? with
    | some fn => bif E.clone f then toldA E L f args s (enterA E (callN E n) n L f fn args s) else enterA E (callN E n) n L f fn args s
    | none => none
end Go.Tel
