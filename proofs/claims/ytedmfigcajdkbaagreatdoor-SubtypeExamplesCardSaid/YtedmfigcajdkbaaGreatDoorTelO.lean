/-
  Which plans for regions with a drawn order are sound: a check by computation.
-/
import Derived.Test.YtedmfigcajdkbaaGreatDoorTelN
namespace Go.Tel

def clsRank : Cls → Option Nat
  | .w r => some r
  | .fa r _ _ => some r
  | _ => none

def rank (p : Plan) (i : Nat) : Option Nat := match p.cls[i]? with
  | some c => clsRank c
  | none => none

def preOf (p : Plan) (i : Nat) : List Nat := match p.pre[i]? with
  | some l => l
  | none => []

def opReads (o : Oper) : List Nat := o.op.operands.toList.filterMap fun
  | .tmp t => some t
  | _ => none

def guardRead (ops : Array Oper) (o : Oper) : List Nat := match guardTmp ops o with
  | some d => [d]
  | none => []

def readsAt (ops : Array Oper) (i : Nat) : List Nat := match ops[i]? with
  | some o => guardRead ops o ++ opReads o
  | none => []

def dstAt (ops : Array Oper) (i : Nat) : Option Nat := match ops[i]? with
  | some o => o.dst
  | none => none

def dstsAt (ops : Array Oper) (i : Nat) : List Nat := match dstAt ops i with
  | some d => [d]
  | none => []

/-- What an operation writes when it is evaluated, and what it reads. -/
def effW (ops : Array Oper) (p : Plan) (i : Nat) : List Nat := match p.cls[i]? with
  | some .fj => []
  | some .fx => []
  | some (.fa _ j _) => dstsAt ops i ++ dstsAt ops j
  | _ => dstsAt ops i

def effR (ops : Array Oper) (p : Plan) (i : Nat) : List Nat := match p.cls[i]? with
  | some .fj => []
  | some .fx => []
  | some (.fa _ j x) => (readsAt ops i ++ readsAt ops j ++ readsAt ops x).filter fun t => !(has (dstsAt ops i ++ dstsAt ops j) t)
  | _ => readsAt ops i

def edgeOk (ops : Array Oper) (p : Plan) (i : Nat) : Bool := match ops[i]? with
  | some o => (o.after.toList.all fun e => !(Region.binds .any e) || Nat.blt e.on i) &&
      ((preOf p i).all fun j => o.after.toList.any fun e => Region.binds .any e && (Nat.beq e.on j || has (preOf p e.on) j))
  | none => true

def plainOk (ops : Array Oper) (p : Plan) (i : Nat) : Bool := match ops[i]?, p.cls[i]? with
  | some o, some (.h _) => o.guard.isNone && o.dst.isSome
  | some o, some (.fa _ _ _) => o.guard.isNone && (warOf p.war i).isEmpty
  | some o, some .fj => o.guard.isNone && (warOf p.war i).isEmpty
  | some o, some .fx => o.guard.isNone && (warOf p.war i).isEmpty
  | some _, some _ => true
  | _, _ => false

def dstOk (ops : Array Oper) (n i : Nat) : Bool := (List.range n).all fun j => Nat.beq j i || (dstsAt ops j).all fun d => !(has (dstsAt ops i) d)

def readOk (ops : Array Oper) (p : Plan) (n i : Nat) : Bool := (List.range n).all fun j => (dstsAt ops j).all fun d => !(has (readsAt ops i) d) ||
  bif has (warOf p.war i) d then Nat.beq j i || has (preOf p j) i else has (preOf p i) j

def orderOk (ops : Array Oper) (p : Plan) (done : List Nat) : List Nat → Bool
  | [] => true
  | i :: rest => ((effR ops p i).all fun t => bif has (warOf p.war i) t then !(has done t) else !((i :: rest).any fun j => has (effW ops p j) t)) &&
      ((effW ops p i).all fun t => !(rest.any fun j => has (effW ops p j) t)) && orderOk ops p (effW ops p i ++ done) rest

/-- What it gives does not hang on the store. -/
def pureOp (o : Oper) : Bool := match o.op with
  | .move _ | .assign _ | .pick _ _ _ | .build _ _ | .buildSlice _ _ _ | .field _ _ _ | .extract _ _ | .makeFunc _ _ _ | .makeInterface _ _ | .unOp _ _ _ | .index _ _ _ => true
  | _ => false

def pureAt (ops : Array Oper) (i : Nat) : Bool := match ops[i]? with
  | some o => pureOp o
  | none => false

def hasPair (l : List (Nat × Nat)) (i k : Nat) : Bool := l.any fun y => Nat.beq y.1 i && Nat.beq y.2 k

def firstOk (ops : Array Oper) (p : Plan) : List Nat → Bool
  | [] => true
  | i :: rest => (match p.cls[i]? with
    | some (.q ts) => ts.all fun t => pureAt ops i || hasPair p.chk i t
    | some (.h ts) => ts.all fun t => hasPair p.chk i t
    | _ => false) && firstOk ops p rest

/-- How many writers there are, if the rest is in order from the k-th on. -/
def restOk (ops : Array Oper) (p : Plan) : List Nat → Nat → Option Nat
  | [], k => some k
  | i :: rest, k => match p.cls[i]? with
    | some (.q ts) => bif ts.all fun t => Nat.beq t k || pureAt ops i || hasPair p.chk i t then restOk ops p rest k else none
    | some (.w r) => bif Nat.beq r k then restOk ops p rest (k + 1) else none
    | some (.fa r _ _) => bif Nat.beq r k then restOk ops p rest (k + 1) else none
    | some .fj => restOk ops p rest k
    | some .fx => restOk ops p rest k
    | _ => none

def rankOk (p : Plan) (n i : Nat) : Bool := match rank p i with
  | some r => (List.range n).all fun j => match rank p j with
    | some r' => Nat.beq i j || (!(Nat.beq r r') && (!(Nat.blt r r') || has (preOf p j) i))
    | none => true
  | none => true

def timeOk (p : Plan) (n K i : Nat) : Bool :=
  let f (ts : List Nat) : Bool := (List.range (K + 1)).all fun k => has ts k || (List.range n).any fun j => match rank p j with
    | some r => (has (preOf p i) j && Nat.ble k r) || (has (preOf p j) i && Nat.blt r k)
    | none => false
  match p.cls[i]? with
  | some (.q ts) => f ts && ts.all fun k => Nat.ble k K
  | some (.h ts) => f ts && ts.all fun k => Nat.ble k K
  | _ => true

/-- It may run while a row is appended but not yet written. -/
def safeOp (ops : Array Oper) (p : Plan) (i : Nat) : Bool := match ops[i]?, p.cls[i]? with
  | some o, some (.q _) => match o.op with
    | .nilCheck _ | .fieldAddr _ _ _ | .move _ => true
    | _ => false
  | some o, some (.w _) => match o.op with
    | .store _ _ _ => true
    | _ => false
  | _, _ => false

def fuseOk (ops : Array Oper) (p : Plan) (n i : Nat) : Bool := match p.cls[i]? with
  | some (.fa _ j x) => (match p.cls[j]?, p.cls[x]?, ops[i]?, ops[j]?, ops[x]? with
      | some .fj, some .fx, some o, some o1, some o2 => (fused o o1 o2).isSome
      | _, _, _, _, _ => false) &&
      has (preOf p j) i && has (preOf p x) j && has (preOf p x) i &&
      (List.range n).all fun m => Nat.beq m i || Nat.beq m j || Nat.beq m x || (has (preOf p i) m || (has (preOf p m) x || safeOp ops p m)) &&
        ((dstsAt ops m).all fun d => !(has (readsAt ops j) d || has (readsAt ops x) d) || has (preOf p i) m)
  | some .fj => (List.range n).any fun m => match p.cls[m]? with
    | some (.fa _ j _) => Nat.beq j i
    | _ => false
  | some .fx => (List.range n).any fun m => match p.cls[m]? with
    | some (.fa _ _ x) => Nat.beq x i
    | _ => false
  | _ => true

def planOk (ops : Array Oper) (p : Plan) : Bool :=
  let n := ops.size
  match restOk ops p p.rest 0 with
  | none => false
  | some K =>
    Nat.beq (p.first ++ p.rest).length n && ((List.range n).all fun i => has (p.first ++ p.rest) i) &&
    ((List.range n).all fun i => edgeOk ops p i && plainOk ops p i && dstOk ops n i && readOk ops p n i && rankOk p n i && timeOk p n K i && fuseOk ops p n i) &&
    orderOk ops p [] (p.first ++ p.rest) && firstOk ops p p.first

def plansOk (pl : Nat → Option Plan) : Code → Bool
  | .region id ops true => (match pl id with
    | some p => planOk ops p
    | none => true) && (match pl (id + 1000000) with
    | some p => planOk ops p
    | none => true)
  | .seq a b => plansOk pl a && plansOk pl b
  | .cond _ a b => plansOk pl a && plansOk pl b
  | .block _ b => plansOk pl b
  | .loop b => plansOk pl b
  | _ => true

def allPlans (E : Env) : Bool := (List.range E.P.funcs.size).all fun f => match E.P.funcs[f]? with
  | some fn => match fn.body with
    | some c => plansOk (E.plan f) c
    | none => true
  | none => true

end Go.Tel
