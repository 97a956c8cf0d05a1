/-
  Arguments that are not known: what a single operation needs so that it answers as wanted.
-/
import Derived.Test.YtcmeadgdojfhnaaGreatDoorEvI
set_option linter.unusedSimpArgs false
set_option linter.unusedVariables false
namespace Go.Tel
abbrev Lk := Nat → Option AV
abbrev I64 (n : Int) : AV := .pv (.sc (.int .i64 n))
abbrev BB (b : Bool) : AV := .pv (.sc (.bool b))
abbrev SS (l : List UInt8) : AV := .pv (.sc (.string ⟨l.toArray⟩))
def CallE (E : Env) (L : Lim) (f : FuncId) (args : List AV) (s : Sto) (v : AV) (s' : Sto) : Prop :=
  ∃ n, ∀ m, n ≤ m → callN E m L f args s = some (v, s')
def Agr (lk : Lk) (ρ : Nat → AV) : Prop := ∀ t v, lk t = some v → ρ t = v
abbrev wO {α : Type} (x : Option α) (K : α → Prop) : Prop := match x with
  | some a => K a
  | none => False
theorem wO_inv {α : Type} {x : Option α} {K : α → Prop} (h : wO x K) : ∃ a, x = some a ∧ K a := by grind
abbrev evL (lk : Lk) : Operand → Option AV
  | .tmp t => lk t
  | .const v => some (ofConst v)
  | .global g => some (.gptr g 0)
  | .func f => some (.func (.func f) [] [])
theorem evL_eq {lk : Lk} {ρ : Nat → AV} (hA : Agr lk ρ) {x : Operand} {v : AV} (h : evL lk x = some v) : evalO ρ x = v := by
  cases x with
  | tmp t => exact hA t v h
  | const u => grind[evalO]
  | global g => grind[evalO]
  | func f => grind[evalO]
abbrev evLs (lk : Lk) : List Operand → Option (List AV)
  | [] => some []
  | x :: xs => match evL lk x, evLs lk xs with
    | some a, some as => some (a :: as)
    | _, _ => none
theorem evLs_eq {lk : Lk} {ρ : Nat → AV} (hA : Agr lk ρ) : ∀ {xs : List Operand} {vs : List AV}, evLs lk xs = some vs → xs.map (evalO ρ) = vs
  | [], vs, h => by grind
  | x :: xs, vs, h => by
    simp only [evLs] at h
    split at h
    · rename_i a as h1 h2
      simp at h; subst h
      simp [evL_eq hA h1, evLs_eq hA h2]
    grind
abbrev evPs (lk : Lk) (place : Nat → Option (Nat × Nat)) : List (Nat × Operand) → Option (List (Nat × Nat × AV))
  | [] => some []
  | (i, x) :: xs => match place i, evL lk x, evPs lk place xs with
    | some (off, size), some a, some as => some ((off, size, a) :: as)
    | _, _, _ => none
def fillS (cells : List AV) : List (Nat × Nat × AV) → Option (List AV)
  | [] => some cells
  | (off, size, v) :: rest => if (cellsOf v).length = size ∧ off + size ≤ cells.length ∧ (cellsOf v).all okCell = true then fillS (setCells cells off (cellsOf v)) rest else none
theorem fillS_eq {lk : Lk} {ρ : Nat → AV} (hA : Agr lk ρ) {place : Nat → Option (Nat × Nat)} : ∀ {parts : List (Nat × Operand)} {ps : List (Nat × Nat × AV)} {cells : List AV}, evPs lk place parts = some ps →
    fillA place cells (parts.map fun p => (p.1, evalO ρ p.2)) = fillS cells ps
  | [], ps, cells, h => by
    simp [evPs] at h; subst h
    rfl
  | (i, x) :: parts, ps, cells, h => by
    simp only [evPs] at h
    split at h
    · rename_i off size a as h1 h2 h3
      simp at h; subst h
      simp only [List.map_cons, fillA, h1, evL_eq hA h2, fillS]
      split
      · exact fillS_eq hA h3
      rfl
    grind
def wPick (c a b : AV) (K : AV → Prop) : Prop := match c with
  | .pv (.sc (.bool t)) => K (bif t then a else b)
  | _ => False
def wNew (s : Sto) (cs : List AV) (K : AV → Sto → Prop) : Prop := K (.ptr s.bs.length 0) ⟨s.bs ++ [cs], s.ts⟩
def wBox (s : Sto) (x : AV) (K : AV → Sto → Prop) : Prop := (cellsOf x).all okCell = true ∧ wNew s (cellsOf x) K
def markT (id : Nat) (t : TypeId) : List AV → List AV
  | .pv (.sc (.pointer none)) :: r => .bz id t (r.length + 1) :: r
  | z => z
def wBoxZ (s : Sto) (t : TypeId) (x : AV) (K : AV → Sto → Prop) : Prop := (cellsOf x).all okCell = true ∧ wNew s (markT s.bs.length t (cellsOf x)) K
def wBuild (z : List AV) (ps : List (Nat × Nat × AV)) (K : AV → Prop) : Prop := wO (fillS z ps) fun cs => K (.agg cs)
def wBsl (mu : Bool) (s : Sto) (k : Nat) (z : List AV) (len : Nat) (ps : List (Nat × Nat × AV)) (K : AV → Sto → Prop) : Prop :=
  (len * k ≤ 2 ^ 24 ∧ z.length = k ∧ k ≠ 0) ∧ wO (fillS (repl len z) ps) fun cs =>
    bif mu && Nat.blt 0 len then K (.ref s.bs.length 0 len k) ⟨s.bs ++ [cs], s.ts⟩ else wO (toPVs cs) fun ps => K (.capped (rowsBy k len ps)) s
def wPart (k : Option Nat) (cs : List AV) (off : Nat) (K : AV → Prop) : Prop := match k with
  | some k => off + k ≤ cs.length ∧ K (.agg ((cs.drop off).take k))
  | none => wO cs[off]? K
def wLd (E : Env) (s : Sto) (k : Option Nat) (x : AV) (K : AV → Prop) : Prop := match x with
  | .ptr id off => wO s.bs[id]? fun cs => wPart k cs off K
  | .gptr g off => wO (E.G g) fun row => wPart k (row.map .pv) off K
  | .eptr row off => wPart k (row.map .pv) off K
  | _ => False
def wSt (L : Lim) (s : Sto) (k : Nat) (a x : AV) (K : Sto → Prop) : Prop := match a with
  | .ptr id off => wO s.bs[id]? fun cs => ((cellsOf x).length = k ∧ off + (cellsOf x).length ≤ cs.length ∧ L.ro ≤ id ∧ (cellsOf x).all okCell = true ∧ (L.n0 ≤ id ∨ noBlkL (cellsOf x) = true) ∧ k ≠ 0) ∧ K ⟨s.bs.set id (setCells cs off (cellsOf x)), s.ts⟩
  | _ => False
def wNil (s : Sto) (x : AV) (K : AV → Prop) : Prop := match x with
  | .ptr id off => alive s id = true ∧ K (.ptr id off)
  | .gptr g off => K (.gptr g off)
  | .eptr r off => K (.eptr r off)
  | .func (.func f) a b => K (.func (.func f) a b)
  | _ => False
def wFad (s : Sto) (x : AV) (d : Nat) (K : AV → Prop) : Prop := match x with
  | .ptr id off => alive s id = true ∧ K (.ptr id (off + d))
  | .gptr g off => K (.gptr g (off + d))
  | .eptr r off => K (.eptr r (off + d))
  | _ => False
def wFld (k : Option Nat) (x : AV) (off : Nat) (K : AV → Prop) : Prop := match x with
  | .agg cs => wPart k cs off K
  | _ => False
def wIdx (s : Sto) (k : Nat) (x ix : AV) (K : AV → Prop) : Prop := match ix with
  | .pv (.sc (.int _ i)) => match x with
    | .ref id off len sz => (0 ≤ i ∧ i < len ∧ sz = k ∧ alive s id = true) ∧ K (.ptr id (off + i.toNat * k))
    | x => wO (rowsOf x) fun rows => 0 ≤ i ∧ ∃ row, rows[i.toNat]? = some row ∧ row.length = k ∧ k ≠ 0 ∧ K (.eptr row 0)
  | _ => False
def wExt (x : AV) (i : Nat) (K : AV → Prop) : Prop := match x with
  | .tuple vs => wO vs[i]? K
  | _ => False
def wLen (s : Sto) (x : AV) (K : AV → Prop) : Prop := wO (lenA s x) fun n => K (I64 n)
def wSlen (x : AV) (K : AV → Prop) : Prop := match x with
  | .pv (.sc (.string b)) => K (I64 b.data.toList.length)
  | _ => False
def wSidx (x i : AV) (K : AV → Prop) : Prop := match x, i with
  | .pv (.sc (.string b)), .pv (.sc (.int _ n)) => 0 ≤ n ∧ ∃ c, b.data.toList[n.toNat]? = some c ∧ K (.pv (.sc (.int .u8 c.toNat)))
  | _, _ => False
def wAri (k : IntKind) (n : Int) (K : AV → Prop) : Prop := K (.pv (.sc (.int k (k.wrap n))))
def wInt (k : IntKind) (op : BinOp) (x y : AV) (K : AV → Prop) : Prop := match x, y with
  | .pv (.sc (.int k1 a)), .pv (.sc (.int k2 b)) => (k1 = k ∧ k2 = k) ∧ match op with
    | .add => wAri k (a + b) K
    | .sub => wAri k (a - b) K
    | .mul => wAri k (a * b) K
    | .quo => b ≠ 0 ∧ wAri k (a.tdiv b) K
    | .rem => b ≠ 0 ∧ K (.pv (.sc (.int k (a.tmod b))))
    | .eql => K (BB (a == b))
    | .neq => K (BB (a != b))
    | .lss => K (BB (a < b))
    | .leq => K (BB (a ≤ b))
    | .gtr => K (BB (a > b))
    | .geq => K (BB (a ≥ b))
    | .shr => 0 ≤ b ∧ K (.pv (.sc (.int k (a.fdiv (2 ^ (min b.toNat k.bits))))))
    | _ => False
  | _, _ => False
def wStr (op : BinOp) (x y : AV) (K : AV → Prop) : Prop := match x, y with
  | .pv (.sc (.string a)), .pv (.sc (.string b)) => match op with
    | .add => a.data.toList.length + b.data.toList.length < 2 ^ 63 ∧ K (.pv (.sc (.string ⟨(a.data.toList ++ b.data.toList).toArray⟩)))
    | .eql => K (BB (a.data.toList == b.data.toList))
    | .neq => K (BB (!(a.data.toList == b.data.toList)))
    | .lss => K (BB (Op.bytesLess a.data.toList b.data.toList))
    | .leq => K (BB (Op.bytesLess a.data.toList b.data.toList || (a.data.toList == b.data.toList)))
    | .gtr => K (BB (!(Op.bytesLess a.data.toList b.data.toList || (a.data.toList == b.data.toList))))
    | .geq => K (BB (!(Op.bytesLess a.data.toList b.data.toList)))
    | _ => False
  | _, _ => False
def wBool (op : BinOp) (x y : AV) (K : AV → Prop) : Prop := match x, y with
  | .pv (.sc (.bool a)), .pv (.sc (.bool b)) => match op with
    | .eql => K (BB (a == b))
    | .neq => K (BB (!(a == b)))
    | _ => False
  | _, _ => False
def wNot (x : AV) (K : AV → Prop) : Prop := match x with
  | .pv (.sc (.bool b)) => K (BB (!b))
  | _ => False
def nilV : AV → Option Nat
  | .pv (.sc (.pointer none)) => some 0
  | .pv (.sc .nilFunc) => some 2
  | .pv (.sc .nilIface) => some 3
  | _ => none
abbrev nilL (lk : Lk) : Operand → Option Nat
  | .const v => match v with
    | .slice none 0 0 => some 1
    | v => nilV (ofConst v)
  | .tmp t => match lk t with
    | some v => nilV v
    | none => none
  | _ => none
def wNeN (s : Sto) (k : Option Nat) (n m : Option Nat) (op : BinOp) (x y : AV) (K : AV → Prop) : Prop :=
  (sameKind k (someKind s x) m || sameKind k n (someKind s y)) = true ∧ match op with
    | .eql => K (BB false)
    | .neq => K (BB true)
    | _ => False
def isNilP : AV → Bool
  | .pv (.sc (.pointer none)) => true
  | _ => false
def wNeP (s : Sto) (n m : Option Nat) (op : BinOp) (x y : AV) (K : AV → Prop) : Prop := match isNilP x && isNilP y with
  | true => match op with
    | .eql => K (BB true)
    | .neq => K (BB false)
    | _ => False
  | false => wNeN s (some 0) n m op x y K
def wApp (mu : Bool) (L : Lim) (s : Sto) (e : TypeId) (k bytes : Nat) (x y : AV) (K : AV → Sto → Prop) : Prop :=
  wO (srcCells s k y) fun new => match new with
    | [] => match x with
      | .ref id _ _ _ => alive s id = true ∧ K x s
      | x => wO (rowsOf x) fun _ => K x s
    | c :: cs => ((c :: cs).all okCell = true) ∧ match x with
      | .ref id off len sz => wO s.bs[id]? fun old => (off = 0 ∧ sz = k ∧ len * sz ≤ old.length ∧ alive s id = true ∧ (len + (c :: cs).length / k) * bytes ≤ 2 ^ 45 ∧ len + (c :: cs).length / k ≤ 2 ^ 45 ∧ L.ro ≤ id) ∧
          K (.ref s.bs.length 0 (len + (c :: cs).length / k) sz) ⟨s.bs.set id [] ++ [old.take (len * sz) ++ (c :: cs)], s.ts⟩
      | .capped rows => ((rows.length + (c :: cs).length / k) * bytes ≤ 2 ^ 45 ∧ rows.length + (c :: cs).length / k ≤ 2 ^ 45 ∧ (rows.all fun r => r.length == k) = true) ∧
          bif mu then K (.ref s.bs.length 0 (rows.length + (c :: cs).length / k) k) ⟨s.bs ++ [rows.flatten.map .pv ++ (c :: cs)], s.ts⟩
          else wO (toPVs (c :: cs)) fun ps => K (.own s.ts.length (rows ++ rowsBy k ((c :: cs).length / k) ps)) ⟨s.bs, s.ts ++ [(rows.length + (c :: cs).length / k, e)]⟩
      | .own t rows => ((rows.length + (c :: cs).length / k) * bytes ≤ 2 ^ 45 ∧ rows.length + (c :: cs).length / k ≤ 2 ^ 45 ∧ s.ts[t]? = some (rows.length, e) ∧ L.rt ≤ t ∧ (rows.all fun r => r.length == k) = true) ∧
          wO (toPVs (c :: cs)) fun ps => K (.own t (rows ++ rowsBy k ((c :: cs).length / k) ps)) ⟨s.bs, s.ts.set t (rows.length + (c :: cs).length / k, e)⟩
      | _ => False
def wRow (L : Lim) (s : Sto) (e : TypeId) (k bytes : Nat) (x v : AV) (K : AV → Sto → Prop) : Prop :=
  (cellsOf v).all okCell = true ∧ wO (toPVs (cellsOf v)) fun row => row.length = k ∧ match x with
    | .capped rows => ((rows.length + 1) * bytes ≤ 2 ^ 45 ∧ rows.length + 1 ≤ 2 ^ 45 ∧ (rows.all fun r => r.length == k) = true) ∧ K (.own s.ts.length (rows ++ [row])) ⟨s.bs, s.ts ++ [(rows.length + 1, e)]⟩
    | .own t rows => ((rows.length + 1) * bytes ≤ 2 ^ 45 ∧ rows.length + 1 ≤ 2 ^ 45 ∧ s.ts[t]? = some (rows.length, e) ∧ L.rt ≤ t ∧ (rows.all fun r => r.length == k) = true) ∧ K (.own t (rows ++ [row])) ⟨s.bs, s.ts.set t (rows.length + 1, e)⟩
    | _ => False
def wSlc (s : Sto) (k : Nat) (x : AV) (lo hi mx : Option AV) (K : AV → Prop) : Prop := match x with
  | .ref id off len sz => ∃ l h, optNat 0 lo = some l ∧ optNat len hi = some h ∧ match mx with
    | none => (l ≤ h ∧ h ≤ len ∧ sz = k ∧ k ≠ 0 ∧ alive s id = true) ∧ K (if l = h then .pv (.list []) else .ref id (off + l * k) (h - l) sz)
    | some m => (l = h ∧ h ≤ len ∧ natOfA m = some h ∧ hi.isSome = true ∧ alive s id = true) ∧ K (.capped [])
  | x => wO (rowsOf x) fun rows => ∃ l h, optNat 0 lo = some l ∧ optNat rows.length hi = some h ∧ (l ≤ h ∧ h ≤ rows.length ∧ (rows.all fun r => r.length == k) = true) ∧ match mx with
    | none => K (.pv (.list ((rows.take h).drop l)))
    | some m => (natOfA m = some h ∧ hi.isSome = true) ∧ K (.capped ((rows.take h).drop l))
def wConvI (k : IntKind) (x : AV) (K : AV → Prop) : Prop := match x with
  | .pv (.sc (.int _ n)) => K (.pv (.sc (.int k (k.wrap n))))
  | _ => False
def wBytes (x : AV) (K : AV → Prop) : Prop := match x with
  | .pv (.sc (.string t)) => K (.pv (.list (t.data.toList.map fun b => [.sc (.int .u8 b.toNat)])))
  | _ => False
def findD (d : TypeDesc) (k : Value) (es : List MapEntry) : Option (Option (Nat × Value)) := match d with
  | .int i => Instr.findNow (.int i) k es 0
  | .string => match k with
    | .string b => findStr b.data.toList es 0
    | _ => none
  | _ => none
def wMk (s : Sto) (K : AV → Sto → Prop) : Prop := K (.mref s.bs.length) ⟨s.bs ++ [[.mobj [] 0]], s.ts⟩
def wLook (s : Sto) (d : TypeDesc) (z : AV) (m k : AV) (ok : Bool) (K : AV → Prop) : Prop :=
  wO (lookMap s m) fun e => wO (conc k) fun key => wO (findD d key e.1) fun r => match r with
    | some (_, v) => K (bif ok then .tuple [ofEl v, BB true] else ofEl v)
    | none => K (bif ok then .tuple [z, BB false] else z)
def wIns1 (L : Lim) (s : Sto) (d : TypeDesc) (m k x : AV) (K : Sto → Prop) : Prop :=
  wO (lookMap s m) fun e => wO (conc k) fun key => wO (concE x) fun v => findD d key e.1 = some none ∧ match m with
    | .mref id => L.ro ≤ id ∧ K ⟨s.bs.set id [.mobj (e.1 ++ [{ key := key, val := v, born := e.2 }]) (e.2 + 1)], s.ts⟩
    | _ => False
def wAny (E : Env) (L : Lim) (lk : Lk) (s : Sto) (o : Oper) (K : AV → Sto → Prop) : Prop :=
  ∃ v s', (∀ ρ, Agr lk ρ → opA E L ρ s o = some (v, s')) ∧ K v s'
def wCall (E : Env) (L : Lim) (f : AV) (args : List AV) (s : Sto) (K : AV → Sto → Prop) : Prop := match f with
  | .func (.func g) first captured => ∃ v s', CallE E L g (first ++ args ++ captured) s v s' ∧ K v s'
  | _ => False
abbrev ldK (P : Program) (t : TypeId) : Option (Option Nat) := match P.underlying t, P.info? t with
  | some d, some i => match d with
    | .struct _ | .array _ _ => if i.size ≠ 0 then some (some i.size) else none
    | _ => some none
  | _, _ => none
abbrev offF (P : Program) (t : TypeId) (f : Nat) : Option Field := match P.underlying t with
  | some (.struct fields) => fields[f]?
  | _ => none
abbrev placeT (P : Program) (t : TypeId) : Option (Nat → Option (Nat × Nat)) := match P.underlying t with
  | some (.struct fields) => bif fields.all (fun f => (sizeA P f.type).isSome) then some (placeF P fields) else none
  | some (.array _ elem) => match sizeA P elem with
    | some k => some fun i => some (i * k, k)
    | none => none
  | _ => none
abbrev elemS (P : Program) (t : TypeId) : Option (TypeId × TypeInfo × List AV) := match P.underlying t with
  | some (.slice e) => match P.info? e, zeroOf P e with
    | some i, some z => some (e, i, z)
    | _, _ => none
  | _ => none
abbrev evLo (lk : Lk) : Option Operand → Option (Option AV)
  | none => some none
  | some x => match evL lk x with
    | some v => some (some v)
    | none => none
abbrev mapK (P : Program) (t : TypeId) : Option (TypeDesc × Option AV) := match P.underlying t with
  | some (.map kt e) => match P.underlying kt with
    | some d => match P.info? e with
      | some i => match i.zero with
        | some z => some (d, some (ofConst z))
        | none => some (d, none)
      | none => some (d, none)
    | none => none
  | _ => none
abbrev wOp (E : Env) (L : Lim) (lk : Lk) (s : Sto) (o : Oper) (K : AV → Sto → Prop) : Prop :=
  match o.op with
  | .move x => wO (evL lk x) fun x => K x s
  | .assign x => wO (evL lk x) fun x => K x s
  | .pick c a b => wO (evL lk c) fun c => wO (evL lk a) fun a => wO (evL lk b) fun b => wPick c a b fun v => K v s
  | .alloc t => wO (zeroOf E.P t) fun z => wNew s (markZ E s.bs.length t z) K
  | .box t x => wO (evL lk x) fun x => match E.bz t with
    | true => wBoxZ s t x K
    | false => wBox s x K
  | .build t parts => wO (zeroOf E.P t) fun z => wO (placeT E.P t) fun pl => wO (evPs lk pl parts.toList) fun ps => wBuild z ps fun v => K v s
  | .buildSlice t len parts => wO (elemS E.P t) fun e => wO (evPs lk (fun i => some (i * e.2.1.size, e.2.1.size)) parts.toList) fun ps => wBsl (muL L e.1) s e.2.1.size e.2.2 len ps K
  | .load t a => wO (evL lk a) fun a => wO (ldK E.P t) fun k => wLd E s k a fun v => K v s
  | .store t a x => wO (evL lk a) fun a => wO (evL lk x) fun x => wO (sizeA E.P t) fun k => wSt L s k a x fun s => K (.tuple []) s
  | .nilCheck x => wO (evL lk x) fun x => wNil s x fun v => K v s
  | .fieldAddr t x f => wO (evL lk x) fun x => wO (offF E.P t f) fun f => wO (sizeA E.P f.type) fun k => match k with
    | 0 => False
    | _ + 1 => wFad s x f.offset fun v => K v s
  | .field t x f => wO (evL lk x) fun x => wO (offF E.P t f) fun f => wO (ldK E.P f.type) fun k => wFld k x f.offset fun v => K v s
  | .indexAddr t x i => wO (evL lk x) fun x => wO (evL lk i) fun i => match E.P.underlying t with
    | some (.slice e) => wO (sizeA E.P e) fun k => wIdx s k x i fun v => K v s
    | _ => wAny E L lk s o K
  | .extract x i => wO (evL lk x) fun x => wExt x i fun v => K v s
  | .makeFunc fn first captured => wO (evLs lk first.toList) fun a => wO (evLs lk captured.toList) fun b => K (.func fn a b) s
  | .makeInterface t x => wO (evL lk x) fun x => match E.P.underlying t with
    | some (.interface _) => False
    | some _ => K (.iface t x) s
    | none => False
  | .slice t x lo hi mx => match E.P.underlying t with
    | some (.slice e) => wO (sizeA E.P e) fun k => wO (evL lk x) fun x => wO (evLo lk lo) fun lo => wO (evLo lk hi) fun hi => wO (evLo lk mx) fun mx => wSlc s k x lo hi mx fun v => K v s
    | _ => wAny E L lk s o K
  | .call { callee := .builtin .len, args := args, argTypes := ts } => match args.toList, ts.toList with
    | [x], [t] => wO (evL lk x) fun x => match E.P.underlying t with
      | some .string => wSlen x fun v => K v s
      | some (.slice _) => wLen s x fun v => K v s
      | _ => wAny E L lk s o K
    | _, _ => False
  | .call { callee := .builtin .append, args := args, argTypes := ts } => match args.toList, ts.toList with
    | [x, y], t :: u :: _ => match E.P.underlying u with
      | some (.int _) => False
      | some _ => wO (evL lk x) fun x => wO (evL lk y) fun y => wO (elemS E.P t) fun e => (e.2.2.length = e.2.1.size ∧ e.2.1.size ≠ 0) ∧ wApp (L.mu e.1) L s e.1 e.2.1.size e.2.1.bytes x y K
      | none => False
    | _, _ => False
  | .binOp op t x y _ => wO (evL lk x) fun a => wO (evL lk y) fun b => match E.P.underlying t with
    | some (.int k) => wInt k op a b fun v => K v s
    | some .string => wStr op a b fun v => K v s
    | some .bool => wBool op a b fun v => K v s
    | some (.interface _) => wAny E L lk s o K
    | some (.pointer _) => wNeP s (nilL lk x) (nilL lk y) op a b fun v => K v s
    | _ => wNeN s (typeKind E.P t) (nilL lk x) (nilL lk y) op a b fun v => K v s
  | .makeSlice t l c => wO (evL lk l) fun l => wO (evL lk c) fun c => wO (makeSliceA E.P s t l c) fun r => K r.1 r.2
  | .makeMap _ none => wMk s K
  | .lookup t m k ok => wO (mapK E.P t) fun d => wO d.2 fun z => wO (evL lk m) fun m => wO (evL lk k) fun k => wLook s d.1 z m k ok fun v => K v s
  | .insert t m k x => wO (mapK E.P t) fun d => wO (evL lk m) fun m => wO (evL lk k) fun k => wO (evL lk x) fun x => wIns1 L s d.1 m k x fun s => K (.tuple []) s
  | .unOp op _ x => match op with
    | .not => wO (evL lk x) fun x => wNot x fun v => K v s
    | _ => wAny E L lk s o K
  | .index t x i => match E.P.underlying t with
    | some .string => wO (evL lk x) fun x => wO (evL lk i) fun i => wSidx x i fun v => K v s
    | _ => wAny E L lk s o K
  | .convert a b x => match E.P.underlying a, E.P.underlying b with
    | some (.int _), some (.int k) => wO (evL lk x) fun x => wConvI k x fun v => K v s
    | some .string, some (.slice e) => match E.P.underlying e with
      | some (.int .u8) => wO (evL lk x) fun x => wBytes x fun v => K v s
      | _ => False
    | some (.slice e), some .string => match E.P.underlying e with
      | some (.int .u8) => wO (evL lk x) fun x => wO (sliceBytes s x) fun l => K (.pv (.sc (.string ⟨l.toArray⟩))) s
      | _ => False
    | _, _ => wAny E L lk s o K
  | _ => wAny E L lk s o K
end Go.Tel
/-
  What a single operation needs is enough: the evaluator answers.
-/
namespace Go.Tel
theorem part_ok {P : Program} {t : TypeId} {k : Option Nat} {cs : List AV} {off : Nat} {K : AV → Prop} (hk : ldK P t = some k) (h : wPart k cs off K) : ∃ v, partOf P t cs off = some v ∧ K v := by
  unfold ldK at hk
  unfold partOf
  grind[wPart]
theorem ld_ok {E : Env} {s : Sto} {t : TypeId} {k : Option Nat} {x : AV} {K : AV → Prop} (hk : ldK E.P t = some k) (h : wLd E s k x K) : ∃ v, loadA E s t x = some v ∧ K v := by
  unfold wLd at h
  grind[loadA,lookB,part_ok]
theorem quick_bind {P : Program} {α β : Type} {x : Sem α} {f : α → Sem β} {a : α} {b : β} (h : quick P x = some a) (k : quick P (f a) = some b) : quick P (x >>= f) = some b := by
  induction x with
  | pure a' => simp only [quick, Option.some.injEq] at h; subst h; exact k
  | program g ih => exact ih _ h
  | mark _ g ih => exact ih h
  | _ => grind[quick]
theorem quick_und {P : Program} {t : TypeId} {d : TypeDesc} (h : P.underlying t = some d) : quick P (underlying t) = some d := by
  unfold underlying
  refine quick_bind (a := P) rfl ?_
  rw [h]
  rfl
theorem bin_sc {E : Env} {L : Lim} {ρ : Nat → AV} {s : Sto} {o : Oper} {op : BinOp} {t : TypeId} {x y : Operand} {c : TypeId} {xv yv v : Value} (ho : o.op = .binOp op t x y c) (hx : evalO ρ x = .pv (.sc xv)) (hy : evalO ρ y = .pv (.sc yv))
    (hk : typeKind E.P t = none) (hg : ∀ a b, quick E.P (eqGuard op t a b xv yv) = some ()) (hq : quick E.P (binOp op t xv yv) = some v) (hv : ofVal v = .pv (.sc v)) : opA E L ρ s o = some (.pv (.sc v), s) := by
  obtain ⟨dst, op', type, pos, after, guard⟩ := o
  simp only at ho
  subst ho
  simp only [opA]
  cases hf : fastBin op (evalO ρ x) (evalO ρ y) with
  | some u =>
    have h1 := (fastBin_sound (P := E.P) (g := Ghost.bare fun _ _ => False) (w := default) (t := t) (by rw [hx]; exact V.scv xv) (by rw [hy]; exact V.scv yv) hf).1
    simp_all[quick_run]
  | none =>
    have hn : eqNilA E.P s ρ op t x y = none := by simp[*,eqNilA,sameKind]
    simp only [hn]
    have hq' : quickOp E ρ ⟨dst, .binOp op t x y c, type, pos, after, guard⟩ = some (.pv (.sc v)) := by
      unfold quickOp
      have hall : allConc ρ (Op.operands (.binOp op t x y c)).toList = true := by grind[allConc,Op.operands,conc]
      rw [if_pos hall]
      have : quick E.P (execOp (fun z => (conc (evalO ρ z)).getD undef) ⟨dst, .binOp op t x y c, type, pos, after, guard⟩) = some (.value v) := by
        simp only [execOp, hx, hy, conc, Option.getD_some]
        exact quick_bind (quick_bind (hg x y) hq) rfl
      grind
    rw [hq']
theorem guard_int {P : Program} {op : BinOp} {t : TypeId} {a b : Operand} {k1 k2 : IntKind} {m n : Int} : quick P (eqGuard op t a b (.int k1 m) (.int k2 n)) = some () := by
  unfold eqGuard
  split <;> rfl
theorem guard_str {P : Program} {op : BinOp} {t : TypeId} {a b : Operand} {m n : ByteArray} : quick P (eqGuard op t a b (.string m) (.string n)) = some () := by
  unfold eqGuard
  split <;> rfl
theorem guard_bool {P : Program} {op : BinOp} {t : TypeId} {a b : Operand} {m n : Bool} : quick P (eqGuard op t a b (.bool m) (.bool n)) = some () := by
  unfold eqGuard
  split <;> rfl
theorem int_ok {E : Env} {L : Lim} {ρ : Nat → AV} {s : Sto} {o : Oper} {op : BinOp} {t : TypeId} {x y : Operand} {c : TypeId} {k : IntKind} {K : AV → Prop} (ho : o.op = .binOp op t x y c) (ht : E.P.underlying t = some (.int k))
    (h : wInt k op (evalO ρ x) (evalO ρ y) K) : ∃ v, opA E L ρ s o = some (v, s) ∧ K v := by
  unfold wInt at h
  split at h
  · rename_i k1 a k2 b hx hy
    obtain ⟨⟨e1, e2⟩, h⟩ := h
    subst e1
    subst e2
    have hk : typeKind E.P t = none := by simp [typeKind, ht]
    have go : ∀ v, quick E.P (binOp op t (.int k2 a) (.int k2 b)) = some v → ofVal v = .pv (.sc v) → K (.pv (.sc v)) → ∃ v, opA E L ρ s o = some (v, s) ∧ K v := fun v h1 h2 h3 =>
      ⟨_, bin_sc ho hx hy hk (fun _ _ => guard_int) h1 h2, h3⟩
    cases op <;> first
      | grind
      | exact go _ (by simp [binOp, Op.intArith]; rfl) rfl h
      | exact go _ (by simp [binOp, Op.intCmp]; rfl) rfl h
      | exact go _ (by simp [binOp, Op.intDiv, h.1]; rfl) rfl h.2
      | exact go _ (by simp [binOp, Op.shift, Int.not_lt.2 h.1]; rfl) rfl h.2
  grind
theorem str_ok {E : Env} {L : Lim} {ρ : Nat → AV} {s : Sto} {o : Oper} {op : BinOp} {t : TypeId} {x y : Operand} {c : TypeId} {K : AV → Prop} (ho : o.op = .binOp op t x y c) (ht : E.P.underlying t = some .string)
    (h : wStr op (evalO ρ x) (evalO ρ y) K) : ∃ v, opA E L ρ s o = some (v, s) ∧ K v := by
  unfold wStr at h
  split at h
  · rename_i a b hx hy
    have hk : typeKind E.P t = none := by simp [typeKind, ht]
    have go : ∀ v, quick E.P (Op.stringOp op a b) = some v → ofVal v = .pv (.sc v) → K (.pv (.sc v)) → ∃ v, opA E L ρ s o = some (v, s) ∧ K v := fun v h1 h2 h3 =>
      ⟨_, bin_sc ho hx hy hk (fun _ _ => guard_str) (by simpa [binOp] using h1) h2, h3⟩
    cases op <;> first
      | grind
      | exact go _ (by simp only [Op.stringOp, Go.ByteArray.toList_eq]; rfl) rfl h
      | skip
    obtain ⟨h1, h2⟩ := h
    have e : (a ++ b) = (⟨(a.data.toList ++ b.data.toList).toArray⟩ : ByteArray) := by rfl
    refine go (.string (a ++ b)) ?_ rfl (by grind)
    have hl : ¬ ((a.size + b.size : Nat) : Int) > IntKind.i64.max := by
      have h3 : a.size = a.data.toList.length := (Array.length_toList (xs := a.data)).symm
      have h4 : b.size = b.data.toList.length := (Array.length_toList (xs := b.data)).symm
      have h5 : IntKind.i64.max = 9223372036854775807 := by rfl
      omega
    simp only [Op.stringOp, if_neg hl]
    rfl
  grind
theorem bool_ok {E : Env} {L : Lim} {ρ : Nat → AV} {s : Sto} {o : Oper} {op : BinOp} {t : TypeId} {x y : Operand} {c : TypeId} {K : AV → Prop} (ho : o.op = .binOp op t x y c) (ht : E.P.underlying t = some .bool)
    (h : wBool op (evalO ρ x) (evalO ρ y) K) : ∃ v, opA E L ρ s o = some (v, s) ∧ K v := by
  unfold wBool at h
  split at h
  · rename_i a b hx hy
    have hk : typeKind E.P t = none := by simp [typeKind, ht]
    have hq : quick E.P (Op.equal t (.bool a) (.bool b)) = some (a == b) := by
      unfold Op.equal
      obtain ⟨m, hm⟩ : ∃ m, Op.maxDepth = m + 1 := ⟨9999, rfl⟩
      rw [hm]
      unfold Op.equalIn
      have hu : quick E.P (underlying t) = some .bool := quick_und ht
      exact quick_bind hu rfl
    have go : ∀ v, quick E.P (binOp op t (.bool a) (.bool b)) = some v → ofVal v = .pv (.sc v) → K (.pv (.sc v)) → ∃ v, opA E L ρ s o = some (v, s) ∧ K v := fun v h1 h2 h3 =>
      ⟨_, bin_sc ho hx hy hk (fun _ _ => guard_bool) h1 h2, h3⟩
    cases op <;> first
      | grind
      | exact go _ (quick_bind hq rfl) rfl h
  grind
theorem nilV_kind {ρ : Nat → AV} {x : Operand} {k : Nat} (hx : ∀ a b c, x ≠ .const (.slice a b c)) (h : nilV (evalO ρ x) = some k) : nilKind ρ x = some k := by grind[nilV,nilKind]
theorem nilV_slice {a : Option Addr} {b c : Nat} : nilV (ofConst (.slice a b c)) = none := by
  show nilV (ofCell (.slice a b c)) = none
  unfold ofCell
  split
  · rfl
  rfl
theorem nilL_eq {lk : Lk} {ρ : Nat → AV} (hA : Agr lk ρ) {x : Operand} {k : Nat} (h : nilL lk x = some k) : nilKind ρ x = some k := by
  cases x with
  | const v =>
    by_cases hz : v = .slice none 0 0
    · subst hz
      exact h
    · have h : nilV (ofConst v) = some k := by grind
      by_cases hs : ∃ a b c, v = .slice a b c
      · grind[nilV_slice]
      · exact nilV_kind (fun a b c e => hs ⟨a, b, c, by grind⟩) h
  | tmp t =>
    grind[nilV_kind,evL_eq]
  | global g => grind
  | func f => grind
theorem nen_ok {E : Env} {L : Lim} {lk : Lk} {ρ : Nat → AV} (hA : Agr lk ρ) {s : Sto} {o : Oper} {op : BinOp} {t : TypeId} {x y : Operand} {c : TypeId} {K : AV → Prop} (ho : o.op = .binOp op t x y c)
    (h : wNeN s (typeKind E.P t) (nilL lk x) (nilL lk y) op (evalO ρ x) (evalO ρ y) K) : ∃ v, opA E L ρ s o = some (v, s) ∧ K v := by
  obtain ⟨dst, op', type, pos, after, guard⟩ := o
  simp only at ho
  subst ho
  obtain ⟨h1, h2⟩ := h
  have hs : (sameKind (typeKind E.P t) (someKind s (evalO ρ x)) (nilKind ρ y) || sameKind (typeKind E.P t) (nilKind ρ x) (someKind s (evalO ρ y))) = true := by
    simp only [Bool.or_eq_true] at h1 ⊢
    rcases h1 with h1 | h1
    · left
      obtain ⟨k, e1, e2, e3⟩ := sameKind_sound h1
      rw [nilL_eq hA e3, e1, e2]
      simp [sameKind]
    · right
      obtain ⟨k, e1, e2, e3⟩ := sameKind_sound h1
      rw [nilL_eq hA e2, e1, e3]
      simp [sameKind]
  have hf : fastBin op (evalO ρ x) (evalO ρ y) = none := by
    simp only [Bool.or_eq_true] at hs
    rcases hs with hs | hs
    · obtain ⟨k, e1, e2, e3⟩ := sameKind_sound hs
      cases hx : evalO ρ x <;> simp [hx, someKind, rowsOf] at e2 ⊢ <;> try rfl
      rename_i p
      cases p with
      | sc v => simp [rowsOf] at e2
      | list rows => rfl
    · obtain ⟨k, e1, e2, e3⟩ := sameKind_sound hs
      cases hy : evalO ρ y <;> simp [hy, someKind, rowsOf] at e3
      all_goals
        unfold fastBin
        grind
  grind[opA,eqNilA]
theorem isNilP_eq {v : AV} (h : isNilP v = true) : v = .pv (.sc (.pointer none)) := by grind[isNilP]
theorem quick_nilp {P : Program} {t e : TypeId} {x y : Operand} (ht : P.underlying t = some (.pointer e)) :
    quick P (do eqGuard .eql t x y (.pointer none) (.pointer none); binOp .eql t (.pointer none) (.pointer none)) = some (.bool true) ∧ quick P (do eqGuard .neq t x y (.pointer none) (.pointer none); binOp .neq t (.pointer none) (.pointer none)) = some (.bool false) := by
  have he : quick P (Op.equal t (.pointer none) (.pointer none)) = some true := by
    show quick P (Op.equalIn (9999 + 1) t (.pointer none) (.pointer none)) = some true
    unfold Op.equalIn
    exact quick_bind (quick_und ht) rfl
  constructor
  · refine quick_bind (a := ()) rfl ?_
    exact quick_bind he rfl
  · refine quick_bind (a := ()) rfl ?_
    exact quick_bind he rfl
theorem nep_ok {E : Env} {L : Lim} {lk : Lk} {ρ : Nat → AV} (hA : Agr lk ρ) {s : Sto} {o : Oper} {op : BinOp} {t e : TypeId} {x y : Operand} {c : TypeId} {K : AV → Prop} (ho : o.op = .binOp op t x y c) (ht : E.P.underlying t = some (.pointer e))
    (h : wNeP s (nilL lk x) (nilL lk y) op (evalO ρ x) (evalO ρ y) K) : ∃ v, opA E L ρ s o = some (v, s) ∧ K v := by
  unfold wNeP at h
  split at h
  · rename_i hb
    simp only [Bool.and_eq_true] at hb
    have hx := isNilP_eq hb.1
    have hy := isNilP_eq hb.2
    obtain ⟨q1, q2⟩ := quick_nilp (x := x) (y := y) ht
    have hf : fastBin op (evalO ρ x) (evalO ρ y) = none := by rw [hx, hy]; rfl
    have hn : eqNilA E.P s ρ op t x y = none := by grind[eqNilA,someKind,sameKind,rowsOf]
    have h1 : allConc ρ o.op.operands.toList = true := by
      have e : o.op.operands.toList = [x, y] := by rw [ho]; rfl
      grind[allConc,conc]
    have key : ∀ (v : Bool), quick E.P (do eqGuard op t x y (.pointer none) (.pointer none); binOp op t (.pointer none) (.pointer none)) = some (.bool v) → opA E L ρ s o = some (.pv (.sc (.bool v)), s) := by
      intro v hq
      have h2 : quickOp E ρ o = some (.pv (.sc (.bool v))) := by
        have : quick E.P (execOp (fun z => (conc (evalO ρ z)).getD undef) o) = some (.value (.bool v)) := by
          unfold execOp
          rw [ho]
          simp only [hx, hy, conc, Option.getD_some]
          exact quick_bind hq rfl
        simp only [quickOp, h1, if_true, this]
        rfl
      grind[opA]
    grind
  · have hk : typeKind E.P t = some 0 := by grind[typeKind]
    rw [← hk] at h
    exact nen_ok hA ho h
end Go.Tel
/-
  What a single operation needs is enough: all operations.
-/
namespace Go.Tel
theorem elemS_inv {P : Program} {t : TypeId} {e : TypeId × TypeInfo × List AV} (h : elemS P t = some e) : P.underlying t = some (.slice e.1) ∧ P.info? e.1 = some e.2.1 ∧ zeroOf P e.1 = some e.2.2 := by grind
theorem evLo_eq {lk : Lk} {ρ : Nat → AV} (hA : Agr lk ρ) {x : Option Operand} {v : Option AV} (h : evLo lk x = some v) : x.map (evalO ρ) = v := by grind[evL_eq]
theorem slc_ok {P : Program} {s : Sto} {t e : TypeId} {k : Nat} {x : AV} {lo hi mx : Option AV} {K : AV → Prop} (ht : P.underlying t = some (.slice e)) (hk : sizeA P e = some k) : wSlc s k x lo hi mx K →
    ∃ v, sliceA P s t x lo hi mx = some v ∧ K v := by
  unfold sliceA
  simp only [ht, hk]
  intro h
  cases x with
  | ref id off len sz =>
    obtain ⟨l, h', h1, h2, h3⟩ := h
    grind
  | pv p =>
    obtain ⟨rows, hr, h⟩ := wO_inv h
    grind
  | capped p =>
    obtain ⟨l, h', h1, h2, h3, h4⟩ := h
    grind[rowsOf]
  | own t p =>
    obtain ⟨l, h', h1, h2, h3, h4⟩ := h
    grind[rowsOf]
  | _ => exact h.elim
theorem app_ok {P : Program} {L : Lim} {s : Sto} {t : TypeId} {e : TypeId × TypeInfo × List AV} {x y : AV} {K : AV → Sto → Prop} (he : elemS P t = some e) (hz : e.2.2.length = e.2.1.size ∧ e.2.1.size ≠ 0)
    (h : wApp (L.mu e.1) L s e.1 e.2.1.size e.2.1.bytes x y K) : ∃ v s', appendA P L s t x y = some (v, s') ∧ K v s' := by
  obtain ⟨e1, e2, e3⟩ := elemS_inv he
  unfold appendA
  simp only [e1, e2, e3, Option.map_some]
  rw [if_pos ⟨by grind, hz.2⟩]
  obtain ⟨new, h1, h⟩ := wO_inv h
  simp only [h1]
  cases new with
  | nil =>
    grind
  | cons c cs =>
    grind
theorem any_ok {E : Env} {L : Lim} {lk : Lk} {ρ : Nat → AV} {s : Sto} {o : Oper} {K : AV → Sto → Prop} (hA : Agr lk ρ) (h : wAny E L lk s o K) : ∃ v s', opA E L ρ s o = some (v, s') ∧ K v s' := by
  obtain ⟨v, s', h1, h2⟩ := h
  grind
theorem sem_int {P : Program} {a b : TypeId} {k k1 k2 : IntKind} {n : Int} (ha : P.underlying a = some (.int k1)) (hb : P.underlying b = some (.int k)) : quick P (convert a b (.int k2 n)) = some (.int k (k.wrap n)) := by
  unfold convert
  have h1 : quick P (underlying a) = some (.int k1) := quick_und ha
  have h2 : quick P (underlying b) = some (.int k) := quick_und hb
  exact quick_bind h1 (quick_bind h2 rfl)
theorem findD_eq {P : Program} {kt : TypeId} {d : TypeDesc} {key : Value} {es : List MapEntry} {r : Option (Nat × Value)} (hd : P.underlying kt = some d) (h : findD d key es = some r) : findA P kt key es = some r := by
  unfold findD at h
  unfold findA
  grind
theorem mapK_inv {P : Program} {t : TypeId} {d : TypeDesc × Option AV} (h : mapK P t = some d) : ∃ kt e, P.underlying t = some (.map kt e) ∧ P.underlying kt = some d.1 ∧ ∀ z, d.2 = some z → ∃ i v, P.info? e = some i ∧ i.zero = some v ∧ z = ofConst v := by grind
theorem wOp_sound {E : Env} {L : Lim} {lk : Lk} {ρ : Nat → AV} {s : Sto} {o : Oper} {K : AV → Sto → Prop} (hA : Agr lk ρ) (h : wOp E L lk s o K) : ∃ v s', opA E L ρ s o = some (v, s') ∧ K v s' := by
  obtain ⟨dst, op, type, pos, after, guard⟩ := o
  cases op with
  | move x =>
    grind[opA,evL_eq]
  | assign x =>
    grind[opA,evL_eq]
  | pick c a b =>
    obtain ⟨cv, h1, h⟩ := wO_inv h
    obtain ⟨av, h2, h⟩ := wO_inv h
    obtain ⟨bv, h3, h⟩ := wO_inv h
    unfold wPick at h
    grind[opA,evL_eq]
  | alloc t =>
    obtain ⟨z, h1, h2⟩ := wO_inv h
    exact ⟨_, _, by simp only [opA, h1]; rfl, h2⟩
  | box t x =>
    obtain ⟨a, h1, h⟩ := wO_inv h
    cases hb : E.bz t with
    | true =>
      rw [hb] at h
      obtain ⟨h2, h3⟩ := h
      exact ⟨_, _, by simp only [opA, evL_eq hA h1, if_pos h2, markZ, hb, cond_true]; rfl, h3⟩
    | false =>
      rw [hb] at h
      obtain ⟨h2, h3⟩ := h
      exact ⟨_, _, by simp only [opA, evL_eq hA h1, if_pos h2, markZ, hb, cond_false]; rfl, h3⟩
  | build t parts =>
    obtain ⟨z, h1, h⟩ := wO_inv h
    obtain ⟨pl, h2, h⟩ := wO_inv h
    obtain ⟨ps, h3, h⟩ := wO_inv h
    obtain ⟨cs, h4, h5⟩ := wO_inv h
    grind[fillS_eq,buildA,opA]
  | buildSlice t len parts =>
    obtain ⟨e, h1, h⟩ := wO_inv h
    obtain ⟨ps, h2, hz, h⟩ := wO_inv h
    obtain ⟨cs, h3, h⟩ := wO_inv h
    obtain ⟨e1, e2, e3⟩ := elemS_inv h1
    have hf := fillS_eq hA (cells := repl len e.2.2) h2
    rw [h3] at hf
    have : ∀ v s', (bif muL L e.1 && Nat.blt 0 len then some (AV.ref s.bs.length 0 len e.2.1.size, { s with bs := s.bs ++ [cs] })
          else match toPVs cs with
          | some ps => some (.capped (rowsBy e.2.1.size len ps), s)
          | none => none) = some (v, s') → opA E L ρ s ⟨dst, .buildSlice t len parts, type, pos, after, guard⟩ = some (v, s') := by grind[opA,buildSliceA,sizeA]
    grind
  | load t a =>
    grind[ld_ok,opA,evL_eq]
  | store t a x =>
    obtain ⟨av, h1, h⟩ := wO_inv h
    obtain ⟨xv, h2, h⟩ := wO_inv h
    obtain ⟨k, h3, h⟩ := wO_inv h
    obtain ⟨i, h4, rfl⟩ := sizeA_info h3
    unfold wSt at h
    split at h
    · obtain ⟨cs, h5, h6, h7⟩ := wO_inv h
      refine ⟨_, _, ?_, h7⟩
      simp only [opA, evL_eq hA h1, evL_eq hA h2, storeA, h4, lookB, h5, if_pos h6]
    grind
  | nilCheck x =>
    obtain ⟨a, h1, h⟩ := wO_inv h
    have : ∃ v, nilCheckA s a = some v ∧ K v s := by
      unfold wNil at h
      grind[nilCheckA]
    grind[opA,evL_eq]
  | fieldAddr t x f =>
    obtain ⟨a, h1, h⟩ := wO_inv h
    obtain ⟨fd, h2, h⟩ := wO_inv h
    obtain ⟨k, h3, h⟩ := wO_inv h
    cases k with
    | zero => grind
    | succ k =>
      simp only at h
      have : ∃ v, fieldAddrA E.P s t a f = some v ∧ K v s := by grind[fieldAddrA,wFad]
      grind[opA,evL_eq]
  | field t x f =>
    obtain ⟨a, h1, h⟩ := wO_inv h
    obtain ⟨fd, h2, h⟩ := wO_inv h
    obtain ⟨k, h3, h⟩ := wO_inv h
    unfold wFld at h
    split at h
    · rename_i cs
      obtain ⟨v, h4, h5⟩ := part_ok h3 h
      refine ⟨v, s, ?_, h5⟩
      unfold offF at h2
      split at h2
      · rename_i fields hu
        simp only [opA, evL_eq hA h1, fieldA, hu, h2, h4]
      grind
    grind
  | indexAddr t x i =>
    obtain ⟨a, h1, h⟩ := wO_inv h
    obtain ⟨b, h2, h⟩ := wO_inv h
    split at h
    · rename_i e ht
      obtain ⟨k, h3, h⟩ := wO_inv h
      have : ∃ v, indexAddrA E.P s t a b = some v ∧ K v s := by
        unfold indexAddrA
        unfold wIdx at h
        grind[intOfA,rowsOf]
      grind[opA,evL_eq]
    grind[any_ok]
  | extract x i =>
    obtain ⟨a, h1, h⟩ := wO_inv h
    unfold wExt at h
    grind[opA,evL_eq,extractA]
  | makeFunc fn first captured =>
    grind[opA,evLs_eq]
  | makeInterface t x =>
    grind[opA,evL_eq]
  | slice t x lo hi mx =>
    simp only [wOp] at h
    split at h
    · rename_i e ht
      obtain ⟨k, h1, h⟩ := wO_inv h
      obtain ⟨a, h2, h⟩ := wO_inv h
      obtain ⟨l, h3, h⟩ := wO_inv h
      obtain ⟨hh, h4, h⟩ := wO_inv h
      obtain ⟨m, h5, h⟩ := wO_inv h
      obtain ⟨v, h6, h7⟩ := slc_ok ht h1 h
      grind[opA,evL_eq,evLo_eq]
    grind[any_ok]
  | call c =>
    obtain ⟨callee, args, ts⟩ := c
    cases callee with
    | builtin b =>
      cases b with
      | len =>
        simp only [wOp] at h
        split at h
        · rename_i x t hx ht
          obtain ⟨a, h1, h⟩ := wO_inv h
          split at h
          · rename_i hu
            unfold wSlen at h
            grind[opA,evL_eq,fastLen]
          · rename_i e hu
            obtain ⟨n, h2, h3⟩ := wO_inv h
            refine ⟨_, s, ?_, h3⟩
            have hf : fastLen E.P t a = none := by
              unfold fastLen
              grind
            grind[opA,evL_eq]
          grind[any_ok]
        grind
      | append =>
        simp only [wOp] at h
        split at h
        · rename_i x y t u us hx ht
          split at h
          · grind
          · rename_i d hne hd
            obtain ⟨a, h1, h⟩ := wO_inv h
            obtain ⟨b, h2, h⟩ := wO_inv h
            obtain ⟨e, h3, h4, h5⟩ := wO_inv h
            grind[app_ok,opA,evL_eq]
          grind
        grind
      | _ => grind[any_ok]
    | _ => grind[any_ok]
  | binOp op t x y c =>
    obtain ⟨a, h1, h⟩ := wO_inv h
    obtain ⟨b, h2, h⟩ := wO_inv h
    have h1' := evL_eq hA h1
    have h2' := evL_eq hA h2
    subst h1' h2'
    split at h
    · rename_i k ht
      obtain ⟨v, h3, h4⟩ := int_ok (L := L) (s := s) (o := ⟨dst, .binOp op t x y c, type, pos, after, guard⟩) rfl ht h
      grind
    · rename_i ht
      obtain ⟨v, h3, h4⟩ := str_ok (L := L) (s := s) (o := ⟨dst, .binOp op t x y c, type, pos, after, guard⟩) rfl ht h
      grind
    · rename_i ht
      obtain ⟨v, h3, h4⟩ := bool_ok (L := L) (s := s) (o := ⟨dst, .binOp op t x y c, type, pos, after, guard⟩) rfl ht h
      grind
    · grind[any_ok]
    · rename_i ht
      obtain ⟨v, h3, h4⟩ := nep_ok (L := L) hA (o := ⟨dst, .binOp op t x y c, type, pos, after, guard⟩) rfl ht h
      grind
    · obtain ⟨v, h3, h4⟩ := nen_ok (L := L) hA (o := ⟨dst, .binOp op t x y c, type, pos, after, guard⟩) rfl h
      grind
  | makeMap t r =>
    cases r with
    | none => exact ⟨_, _, rfl, h⟩
    | some r => grind[any_ok]
  | lookup t m k ok =>
    obtain ⟨d, h1, h⟩ := wO_inv h
    obtain ⟨z, h2, h⟩ := wO_inv h
    obtain ⟨mv, h3, h⟩ := wO_inv h
    obtain ⟨kv, h4, h⟩ := wO_inv h
    obtain ⟨e, h5, h⟩ := wO_inv h
    obtain ⟨key, h6, h⟩ := wO_inv h
    obtain ⟨r, h7, h⟩ := wO_inv h
    obtain ⟨kt, el, e1, e2, e3⟩ := mapK_inv h1
    obtain ⟨i, v, e4, e5, e6⟩ := e3 z h2
    obtain ⟨es, clock⟩ := e
    cases r with
    | none =>
      grind[opA,evL_eq,lookupA,findD_eq]
    | some p =>
      grind[opA,evL_eq,lookupA,findD_eq]
  | insert t m k x =>
    obtain ⟨d, h1, h⟩ := wO_inv h
    obtain ⟨mv, h3, h⟩ := wO_inv h
    obtain ⟨kv, h4, h⟩ := wO_inv h
    obtain ⟨xv, h2, h⟩ := wO_inv h
    obtain ⟨e, h5, h⟩ := wO_inv h
    obtain ⟨key, h6, h⟩ := wO_inv h
    obtain ⟨v, h7, h8, h⟩ := wO_inv h
    obtain ⟨kt, el, e1, e2, e3⟩ := mapK_inv h1
    obtain ⟨es, clock⟩ := e
    cases mv with
    | mref id =>
      grind[Nat.ble_eq_true_of_le,opA,evL_eq,mapUpdateA,findD_eq,setMap]
    | _ => grind
  | unOp op t x =>
    simp only [wOp] at h
    split at h
    · obtain ⟨a, h1, h⟩ := wO_inv h
      unfold wNot at h
      grind[opA,evL_eq,fastUn]
    grind[any_ok]
  | index t x i =>
    simp only [wOp] at h
    split at h
    · rename_i ht
      obtain ⟨a, h1, h⟩ := wO_inv h
      obtain ⟨b, h2, h⟩ := wO_inv h
      unfold wSidx at h
      grind[opA,evL_eq,fastIndex]
    grind[any_ok]
  | makeSlice t l c =>
    grind[opA,evL_eq]
  | convert a b x =>
    simp only [wOp] at h
    split at h
    · rename_i k1 k ha hb
      obtain ⟨v, h1, h⟩ := wO_inv h
      unfold wConvI at h
      split at h
      · rename_i k2 n
        refine ⟨_, s, ?_, h⟩
        have hq : quickOp E ρ ⟨dst, .convert a b x, type, pos, after, guard⟩ = some (.pv (.sc (.int k (k.wrap n)))) := by
          unfold quickOp
          have hall : allConc ρ (Op.operands (.convert a b x)).toList = true := by grind[allConc,Op.operands,evL_eq,conc]
          rw [if_pos hall]
          have : quick E.P (execOp (fun z => (conc (evalO ρ z)).getD undef) ⟨dst, .convert a b x, type, pos, after, guard⟩) = some (.value (.int k (k.wrap n))) := by
            simp only [execOp, evL_eq hA h1, conc, Option.getD_some]
            exact quick_bind (sem_int ha hb) rfl
          rw [this]
          rfl
        grind[opA]
      grind
    · rename_i e ha hb
      split at h
      · rename_i he
        obtain ⟨v, h1, h⟩ := wO_inv h
        unfold wBytes at h
        grind[opA,evL_eq]
      grind
    · rename_i e ha hb
      split at h
      all_goals grind[opA,evL_eq]
    grind[any_ok]
  | _ => grind[any_ok]
end Go.Tel
