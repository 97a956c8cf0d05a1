/-
  A deterministic evaluator for the model's code on abstract values: definitions only.
-/
import Derived.Test.YtpgfpakdnijngaaGreatDoorAl
set_option linter.all false
namespace Go.Tel
inductive PV where
 | sc (v:Value)
 | list (rows:List (List PV))
inductive AV where
 | pv (p:PV)
 | ptr (id off:Nat)
 | Dt (g off:Nat)
 | Ct (row:List PV) (off:Nat)
 | AE (rows:List (List PV))
 | own (tok:Nat) (rows:List (List PV))
 | ref (id off len sz:Nat)
 | func (fn:Fn) (first captured:List AV)
 | iface (t:TypeId) (v:AV)
 | agg (cs:List AV)
 | tuple (vs:List AV)
 | Gm
 | HY (id:Nat)
 | PN (es:List MapEntry) (clock:Nat)
 | bz (id:Nat) (t:TypeId) (n:Nat)
inductive Kind where
 | rd|im|st|esc
inductive bU where
 | w (r:Nat)
 | q (ts:List Nat)
 | h (ts:List Nat)
 | fa (r j x:Nat)
 | fj|fx
structure Bl where
 first:List Nat
 rest:List Nat
 cls:List bU
 pre:List (List Nat)
 GI:List (List Nat)
 WV:List (Nat×Nat)
structure BI where
 n0:Nat
 ro:Nat
 rt:Nat
 mu:TypeId->Bool
 rr:FuncId->Bool
 pl:Nat->Option Bl
structure AQ where
 bs:List (List AV)
 ts:List (Nat×Nat)
structure Env where
 P:Program
 G:Nat->Option (List PV)
 kind:FuncId->Kind
 mu:FuncId->TypeId->Bool
 rr:FuncId->FuncId->Bool
 clone:FuncId->Bool
 plan:FuncId->Nat->Option Bl
 told:FuncId->Option (BI->List AV->AQ->Option (AV×AQ)):=λ_=>none
 bz:TypeId->Bool:=λ_=>false
 back:FuncId->Option TypeId:=λ_=>none
structure St where
 N:Nat
 U:Nat->AV
 s:AQ
abbrev Kr (v:Value):AV:=.pv (.sc v)
def upd (U:Nat->AV) (i:Nat) (v:AV) (j:Nat):AV:=bif Nat.beq j i then v else U j
def quick (P:Program) {α:Type}:Sem α->Option α
 | .pure a=>some a
 | .program k=>quick P (k P)
 | .mark _ k=>quick P k
 | _=>none
def Ht:AV->Option Value
 | .pv (.sc v)=>some v
 | _=>none
def N6:Value->AV
 | .agg cs=>.agg (cs.toList.map Kr)
 | .tuple vs=>.tuple (vs.toList.map Kr)
 | v=>Kr v
def H9:Value->AV
 | .slice none 0 0=>.AE []
 | v=>Kr v
def ofConst:Value->AV
 | .agg cs=>.agg (cs.toList.map H9)
 | .tuple vs=>.tuple (vs.toList.map Kr)
 | v=>H9 v
def Am (U:Nat->AV):Operand->AV
 | .tmp t=>U t
 | .const v=>ofConst v
 | .global g=>.Dt g 0
 | .func f=>.func (.func f) [] []
def cellsOf:AV->List AV
 | .agg cs=>cs
 | v=>[v]
def KM:AV->Option PV
 | .pv p=>some p
 | .AE rows=>some (.list rows)
 | .own _ rows=>some (.list rows)
 | _=>none
def CD:List AV->Option (List PV)
 | []=>some []
 | c::cs=>match KM c,CD cs with
  | some p,some ps=>some (p::ps)
  | _,_=>none
def rowsOf:AV->Option (List (List PV))
 | .pv (.list rows)=>some rows
 | .AE rows=>some rows
 | .own _ rows=>some rows
 | _=>none
def CJ (k:Nat):Nat->List PV->List (List PV)
 | 0,_=>[]
 | n+1,cs=>cs.take k::CJ k n (cs.drop k)
def IZ (bs:List (List AV)) (id off len sz:Nat):Option (List (List PV)):=
 match bs[id]? with
 | some cs=>if off+len*sz<=cs.length/\cs.isEmpty=false then match CD ((cs.drop off).take (len*sz)) with
   | some ps=>some (CJ sz len ps)
   | none=>none
  else none
 | none=>none
mutual
def close (bs:List (List AV)) (n m:Nat):AV->Option AV
 | .pv p=>some (.pv p)
 | .ptr id off=>if id<n then some (.ptr id off) else none
 | .Dt g off=>some (.Dt g off)
 | .Ct row off=>some (.Ct row off)
 | .AE rows=>some (.AE rows)
 | .own t rows=>if t<m then some (.own t rows) else some (.pv (.list rows))
 | .ref id off len sz=>if id<n then some (.ref id off len sz) else match IZ bs id off len sz with
  | some rows=>some (.pv (.list rows))
  | none=>none
 | .func fn first captured=>match BK bs n m first,BK bs n m captured with
  | some a,some b=>some (.func fn a b)
  | _,_=>none
 | .iface t v=>match close bs n m v with
  | some v=>some (.iface t v)
  | none=>none
 | .agg cs=>match BK bs n m cs with
  | some cs=>some (.agg cs)
  | none=>none
 | .tuple vs=>match BK bs n m vs with
  | some vs=>some (.tuple vs)
  | none=>none
 | .Gm=>some .Gm
 | .HY id=>if id<n then some (.HY id) else none
 | .PN _ _=>none
 | .bz id t k=>if id<n then some (.bz id t k) else none
def BK (bs:List (List AV)) (n m:Nat):List AV->Option (List AV)
 | []=>some []
 | c::cs=>match close bs n m c,BK bs n m cs with
  | some c,some cs=>some (c::cs)
  | _,_=>none
end
mutual
def FR:AV->Bool
 | .ptr _ _|.ref _ _ _ _|.own _ _|.HY _|.PN _ _|.bz _ _ _=>false
 | .func _ first captured=>C7 first&&C7 captured
 | .iface _ v=>FR v
 | .agg cs=>C7 cs
 | .tuple vs=>C7 vs
 | _=>true
def C7:List AV->Bool
 | []=>true
 | c::cs=>FR c&&C7 cs
end
mutual
def Jk:AV->Bool
 | .ptr _ _|.ref _ _ _ _|.HY _|.PN _ _|.bz _ _ _=>false
 | .func _ first captured=>I2 first&&I2 captured
 | .iface _ v=>Jk v
 | .agg cs=>I2 cs
 | .tuple vs=>I2 vs
 | _=>true
def I2:List AV->Bool
 | []=>true
 | c::cs=>Jk c&&I2 cs
end
def Rp (s:AQ) (id:Nat):Option (List AV):=s.bs[id]?
def alive (s:AQ) (id:Nat):Bool:=match s.bs[id]? with
 | some (_::_)=>true
 | _=>false
def partOf (P:Program) (t:TypeId) (cs:List AV) (off:Nat):Option AV:=
 match P.underlying t,P.info? t with
 | some d,some i=>match d with
  | .struct _|.array _ _=>if off+i.size<=cs.length/\i.size≠0 then some (.agg ((cs.drop off).take i.size)) else none
  | _=>cs[off]?
 | _,_=>none
def Tf (E:Env) (s:AQ) (t:TypeId):AV->Option AV
 | .ptr id off=>match Rp s id with
  | some cs=>partOf E.P t cs off
  | none=>none
 | .Dt g off=>match E.G g with
  | some row=>partOf E.P t (row.map .pv) off
  | none=>none
 | .Ct row off=>partOf E.P t (row.map .pv) off
 | _=>none
def setCells (cs:List AV) (off:Nat):List AV->List AV
 | []=>cs
 | v::vs=>setCells (cs.set off v) (off+1) vs
def A7:AV->Bool
 | .agg _|.tuple _|.PN _ _|.bz _ _ _=>false
 | .pv (.sc (.agg _))|.pv (.sc (.tuple _))=>false
 | _=>true
def OP (E:Env) (L:BI) (s:AQ) (t:TypeId) (a x:AV):Option AQ:=
 match a,E.P.info? t with
 | .ptr id off,some i=>match Rp s id with
  | some cs=>
   let vs:=cellsOf x
   if vs.length=i.size/\off+vs.length<=cs.length/\L.ro<=id/\(vs.all A7)=true/\(L.n0<=id\/I2 vs=true)/\i.size≠0 then
    some { s with bs:=s.bs.set id (setCells cs off vs) } else none
  | none=>none
 | _,_=>none
def N7 (E:Env) (id:Nat) (t:TypeId) (z:List AV):List AV:=bif E.bz t then match z with
  | .pv (.sc (.pointer none))::r=>.bz id t (r.length+1)::r
  | z=>z
 else z
def HZ (s:AQ) (cs:List AV):AV×AQ:=(.ptr s.bs.length 0,{ s with bs:=s.bs++[cs] })
def MO (place:Nat->Option (Nat×Nat)) (cells:List AV):List (Nat×AV)->Option (List AV)
 | []=>some cells
 | (i,v)::rest=>match place i with
  | none=>none
  | some (off,size)=>
   if (cellsOf v).length=size/\off+size<=cells.length/\(cellsOf v).all A7=true then
    MO place (setCells cells off (cellsOf v)) rest
   else none
def zeroOf (P:Program) (t:TypeId):Option (List AV):=
 match P.info? t with
 | some i=>match i.zero with
  | some v=>some (cellsOf (ofConst v))
  | none=>none
 | none=>none
def D2 (P:Program) (t:TypeId):Option Nat:=match P.info? t with|some i=>some i.size|none=>none
def Tg (P:Program) (fields:Array Field) (i:Nat):Option (Nat×Nat):=
 match fields[i]? with
 | some f=>match D2 P f.type with|some k=>some (f.offset,k)|none=>none
 | none=>none
def Th (P:Program) (t:TypeId) (parts:List (Nat×AV)):Option AV:=
 match zeroOf P t,P.underlying t with
 | some z,some (.struct fields)=>
  match MO (Tg P fields) z parts with
  | some cs=>if fields.all (λf=>(D2 P f.type).isSome) then some (.agg cs) else none
  | none=>none
 | some z,some (.array _ elem)=>
  match D2 P elem with
  | some k=>match MO (λi=>some (i*k,k)) z parts with
   | some cs=>some (.agg cs)
   | none=>none
  | none=>none
 | _,_=>none
def Fx {α:Type} (n:Nat) (l:List α):List α:=match n with
 | 0=>[]
 | n+1=>l++Fx n l
def muL (L:BI) (e:TypeId):Bool:=L.mu e&&!L.mu (e+1000000)
def HE (P:Program) (L:BI) (s:AQ) (t:TypeId) (len:Nat) (parts:List (Nat×AV)):Option (AV×AQ):=
 match P.underlying t with
 | some (.slice elem)=>match D2 P elem,zeroOf P elem with
  | some k,some z=>
   if len*k<=2 ^ 24/\z.length=k/\k≠0 then
    match MO (λi=>some (i*k,k)) (Fx len z) parts with
    | some cs=>bif muL L elem&&Nat.blt 0 len then some (.ref s.bs.length 0 len k,{ s with bs:=s.bs++[cs] })
     else match CD cs with
     | some ps=>some (.AE (CJ k len ps),s)
     | none=>none
    | none=>none
   else none
  | _,_=>none
 | _=>none
def iK (P:Program) (s:AQ) (t:TypeId) (len cap:AV):Option (AV×AQ):=
 match P.underlying t,len,cap with
 | some (.slice elem),.pv (.sc (.int .i64 l)),.pv (.sc (.int .i64 c))=>match P.info? elem,zeroOf P elem with
  | some i,some z=>
   if 0<=l/\l<=c/\c<=2 ^ 40/\c*i.bytes<=2 ^ 45/\z.length=i.size/\i.size≠0 then
    if c=0 then some (.AE [],s)
    else if l=c then some (.ref s.bs.length 0 l.toNat i.size,{ s with bs:=s.bs++[Fx l.toNat z] })
    else if l=0 then some (.own s.ts.length [],{ s with ts:=s.ts++[(0,elem)] })
    else none
   else none
  | _,_=>none
 | _,_,_=>none
def K6 (s:AQ):AV->Option AV
 | .ptr id off=>bif alive s id then some (.ptr id off) else none
 | .Dt g off=>some (.Dt g off)
 | .Ct r off=>some (.Ct r off)
 | .func (.func f) a b=>some (.func (.func f) a b)
 | _=>none
def IA (P:Program) (s:AQ) (t:TypeId) (x:AV) (field:Nat):Option AV:=
 match P.underlying t with
 | some (.struct fields)=>match fields[field]? with
  | some f=>match D2 P f.type with
   | some k=>if k=0 then none else match x with
    | .ptr id off=>bif alive s id then some (.ptr id (off+f.offset)) else none
    | .Dt g off=>some (.Dt g (off+f.offset))
    | .Ct r off=>some (.Ct r (off+f.offset))
    | _=>none
   | none=>none
  | none=>none
 | _=>none
def Ti (P:Program) (t:TypeId) (x:AV) (field:Nat):Option AV:=
 match P.underlying t,x with
 | some (.struct fields),.agg cs=>match fields[field]? with
  | some f=>partOf P f.type cs f.offset
  | none=>none
 | _,_=>none
def ZK:AV->Option Int
 | .pv (.sc (.int _ n))=>some n
 | _=>none
def IB (P:Program) (s:AQ) (t:TypeId) (x ix:AV):Option AV:=
 match P.underlying t,ZK ix with
 | some (.slice elem),some i=>match D2 P elem with
  | some k=>match rowsOf x with
   | some rows=>if 0<=i then match rows[i.toNat]? with
     | some row=>if row.length=k/\k≠0 then some (.Ct row 0) else none
     | none=>none
    else none
   | none=>match x with
    | .ref id off len sz=>if 0<=i/\i<len/\sz=k/\alive s id=true then some (.ptr id (off+i.toNat*k)) else none
    | _=>none
  | none=>none
 | some (.array len elem),some i=>match D2 P elem with
  | some k=>if 0<=i/\i<len then match x with
    | .ptr id off=>bif alive s id then some (.ptr id (off+i.toNat*k)) else none
    | .Dt g off=>some (.Dt g (off+i.toNat*k))
    | .Ct r off=>some (.Ct r (off+i.toNat*k))
    | _=>none
   else none
  | none=>none
 | _,_=>none
def Mh:AV->Nat->Option AV
 | .tuple vs,i=>vs[i]?
 | _,_=>none
def He:AV->Option Nat
 | .pv (.sc (.int _ n))=>if 0<=n then some n.toNat else none
 | _=>none
def Fz (d:Nat):Option AV->Option Nat
 | none=>some d
 | some v=>He v
def Ql (P:Program) (s:AQ) (t:TypeId) (x:AV) (lo hi mx:Option AV):Option AV:=
 match P.underlying t with
 | some (.slice elem)=>match D2 P elem with
  | some k=>match x with
   | .ref id off len sz=>match Fz len hi,Fz 0 lo,mx with
    | some h,some l,none=>if l<=h/\h<=len/\sz=k/\k≠0/\alive s id=true then(if l=h then some (.pv (.list [])) else some (.ref id (off+l*k) (h-l) sz)) else none
    | some h,some l,some m=>match He m with
     | some m=>if l=h/\h<=len/\m=h/\hi.isSome=true/\alive s id=true then some (.AE []) else none
     | none=>none
    | _,_,_=>none
   | x=>match rowsOf x with
    | some rows=>match Fz rows.length hi,Fz 0 lo with
     | some h,some l=>
      if l<=h/\h<=rows.length/\(rows.all λr=>r.length==k)=true then match mx with
       | none=>some (.pv (.list ((rows.take h).drop l)))
       | some m=>match He m with
        | some m=>if m=h/\hi.isSome then some (.AE ((rows.take h).drop l)) else none
        | none=>none
      else none
     | _,_=>none
    | none=>none
  | none=>none
 | _=>none
def BD (s:AQ):AV->Option Nat
 | .ref id _ len _=>bif alive s id then some len else none
 | v=>match rowsOf v with
  | some rows=>some rows.length
  | none=>none
def Cz (s:AQ) (k:Nat):AV->Option (List AV)
 | .pv (.sc (.string b))=>if k=1 then some (b.data.toList.map λb=>Kr (.int .u8 b.toNat)) else none
 | .ref id off len sz=>match s.bs[id]? with
  | some cs=>if off+len*sz<=cs.length/\sz=k/\alive s id=true then some ((cs.drop off).take (len*sz)) else none
  | none=>none
 | v=>match rowsOf v with
  | some rows=>if (rows.all λr=>r.length==k)=true then some (rows.flatten.map .pv) else none
  | none=>none
def JM (P:Program) (L:BI) (s:AQ) (t:TypeId) (x y:AV):Option (AV×AQ):=
 match P.underlying t with
 | some (.slice elem)=>match P.info? elem with
  | some i=>if (zeroOf P elem).map List.length=some i.size/\i.size≠0 then
    match Cz s i.size y with
    | some []=>match x with
     | .ref id _ _ _=>bif alive s id then some (x,s) else none
     | _=>match rowsOf x with
      | some _=>some (x,s)
      | none=>none
    | some (c::cs)=>if (c::cs).all A7=true then
     let new:=c::cs
     let n:=new.length / i.size
     match x with
     | .ref id off len sz=>match s.bs[id]? with
      | some old=>if off=0/\sz=i.size/\len*sz<=old.length/\alive s id=true/\(len+n)*i.bytes<=2 ^ 45/\len+n<=2 ^ 45/\L.ro<=id then
        some (.ref s.bs.length 0 (len+n) sz,{ s with bs:=s.bs.set id []++[old.take (len*sz)++new] }) else none
      | none=>none
     | .AE rows=>
      if (rows.length+n)*i.bytes<=2 ^ 45/\rows.length+n<=2 ^ 45/\(rows.all λr=>r.length==i.size)=true then
       bif L.mu elem then some (.ref s.bs.length 0 (rows.length+n) i.size,{ s with bs:=s.bs++[rows.flatten.map .pv++new] })
       else match CD new with
       | some ps=>some (.own s.ts.length (rows++CJ i.size n ps),{ s with ts:=s.ts++[(rows.length+n,elem)] })
       | none=>none
      else none
     | .own k rows=>
      if (rows.length+n)*i.bytes<=2 ^ 45/\rows.length+n<=2 ^ 45/\s.ts[k]?=some (rows.length,elem)/\L.rt<=k/\(rows.all λr=>r.length==i.size)=true then
       match CD new with
       | some ps=>some (.own k (rows++CJ i.size n ps),{ s with ts:=s.ts.set k (rows.length+n,elem) })
       | none=>none
      else none
     | _=>none
     else none
    | none=>none
   else none
  | none=>none
 | _=>none
def XJ:List AV->Option (List UInt8)
 | []=>some []
 | .pv (.sc (.int .u8 n))::rest=>match XJ rest with
  | some l=>some (UInt8.ofNat n.toNat::l)
  | none=>none
 | _=>none
def AGe (s:AQ):AV->Option (List UInt8)
 | .pv (.sc _)=>none
 | y=>match Cz s 1 y with
  | some cs=>XJ cs
  | none=>none
def EI (s:AQ):AV->Option Nat
 | .ptr id _=>bif alive s id then some 0 else none
 | .Dt _ _=>some 0
 | .Ct _ _=>some 0
 | .func _ _ _=>some 2
 | .iface _ _=>some 3
 | .ref id _ _ _=>bif alive s id then some 1 else none
 | v=>match rowsOf v with
  | some ((_::_)::_)=>some 1
  | _=>none
def Fu (U:Nat->AV):Operand->Option Nat
 | .const (.slice none 0 0)=>some 1
 | x=>match Am U x with
  | .pv (.sc (.pointer none))=>some 0
  | .pv (.sc .nilFunc)=>some 2
  | .pv (.sc .nilIface)=>some 3
  | _=>none
def C8 (P:Program) (t:TypeId):Option Nat:=match P.underlying t with
 | some (.pointer _)=>some 0
 | some (.slice _)=>some 1
 | some (.func _ _ _)=>some 2
 | some (.interface _)=>some 3
 | _=>none
def sameKind:Option Nat->Option Nat->Option Nat->Bool
 | some a,some b,some c=>Nat.beq a b&&Nat.beq a c
 | _,_,_=>false
def I3 (P:Program) (s:AQ) (U:Nat->AV) (op:BinOp) (t:TypeId) (x y:Operand):Option AV:=
 bif sameKind (C8 P t) (EI s (Am U x)) (Fu U y)||sameKind (C8 P t) (Fu U x) (EI s (Am U y)) then match op with
  | .eql=>some (Kr (.bool false))
  | .neq=>some (Kr (.bool true))
  | _=>none
 else none
def E2 (U:Nat->AV) (xs:List Operand):Bool:=xs.all λx=>(Ht (Am U x)).isSome
def C5 (E:Env) (U:Nat->AV) (o:Oper):Option AV:=
 if E2 U o.op.operands.toList then
  match quick E.P (execOp (λx=>(Ht (Am U x)).getD undef) o) with
  | some (.value v)=>some (N6 v)
  | _=>none
 else none
def Fv:List UInt8->List UInt8->Bool
 | [],[]=>true
 | a::xs,b::ys=>Nat.beq a.toNat b.toNat&&Fv xs ys
 | _,_=>false
def Gh:IntKind->Nat
 | .i8=>0|.i16=>1|.i32=>2|.i64=>3|.u8=>4|.u16=>5|.u32=>6|.u64=>7
def ADM:AV->Option Value
 | .pv (.sc v)=>some v
 | .func (.func f) [] []=>some (.func (.func f) #[] #[])
 | _=>none
def uE:List AV->Option (List Value)
 | []=>some []
 | c::cs=>match ADM c,uE cs with
  | some v,some vs=>some (v::vs)
  | _,_=>none
def AOD:AV->Option Value
 | .agg cs=>match uE cs with
  | some vs=>some (.agg vs.toArray)
  | none=>none
 | c=>ADM c
def ABC:Value->AV
 | .func fn a b=>.func fn (a.toList.map Kr) (b.toList.map Kr)
 | v=>Kr v
def AOE:Value->AV
 | .agg cs=>.agg (cs.toList.map ABC)
 | .func fn a b=>.func fn (a.toList.map Kr) (b.toList.map Kr)
 | v=>N6 v
def lX (k:List UInt8):List MapEntry->Nat->Option (Option (Nat×Value))
 | [],_=>some none
 | e::es,i=>match e.key with
  | .string b=>bif Fv k b.data.toList then some (some (i,e.val)) else lX k es (i+1)
  | _=>none
def uF (P:Program) (t:TypeId) (k:Value) (es:List MapEntry):Option (Option (Nat×Value)):=
 match P.underlying t with
 | some (.int i)=>Instr.findNow (.int i) k es 0
 | some .string=>match k with
  | .string b=>lX b.data.toList es 0
  | _=>none
 | _=>none
def ZL (s:AQ):AV->Option (List MapEntry×Nat)
 | .HY id=>match s.bs[id]? with
  | some [.PN es clock]=>some (es,clock)
  | _=>none
 | _=>none
def AXX (P:Program) (s:AQ) (t:TypeId) (m k:AV) (commaOk:Bool):Option AV:=
 match P.underlying t,ZL s m,Ht k with
 | some (.map kt elem),some (es,_),some key=>match uF P kt key es with
  | some (some (_,v))=>some (bif commaOk then .tuple [AOE v,Kr (.bool true)] else AOE v)
  | some none=>match P.info? elem with
   | some i=>match i.zero with
    | some z=>some (bif commaOk then .tuple [ofConst z,Kr (.bool false)] else ofConst z)
    | none=>none
   | none=>none
  | none=>none
 | _,_,_=>none
def ZM (L:BI) (s:AQ) (es:List MapEntry) (clock:Nat):AV->Option AQ
 | .HY id=>bif Nat.ble L.ro id then some { s with bs:=s.bs.set id [.PN es clock] } else none
 | _=>none
def AGf (P:Program) (L:BI) (s:AQ) (t:TypeId) (m k x:AV):Option AQ:=
 match P.underlying t,ZL s m,Ht k,AOD x with
 | some (.map kt _),some (es,clock),some key,some v=>match uF P kt key es with
  | some (some (i,_))=>match (es[i]?).map (·.key) with
   | some old=>bif Instr.sameBits 10000 old key then ZM L s (es.modify i λe=>{ e with key:=key,val:=v }) clock m else none
   | none=>none
  | some none=>ZM L s (es++[{ key:=key,val:=v,born:=clock }]) (clock+1) m
  | none=>none
 | _,_,_,_=>none
def AXY (P:Program) (L:BI) (s:AQ) (t:TypeId) (m k:AV):Option AQ:=
 match P.underlying t,ZL s m,Ht k with
 | some (.map kt _),some (es,clock),some key=>match uF P kt key es with
  | some (some (i,_))=>ZM L s (es.eraseIdx i) clock m
  | some none=>ZM L s es clock m
  | none=>none
 | _,_,_=>none
def Lq:List UInt8->List UInt8->Bool
 | _,[]=>false
 | [],_::_=>true
 | a::x,b::y=>Nat.blt a.toNat b.toNat||(Nat.beq a.toNat b.toNat&&Lq x y)
def ZN (k:IntKind) (op:BinOp) (a b:Nat):Option Value:=match op with
 | .eql=>some (.bool (Nat.beq a b))
 | .neq=>some (.bool (!Nat.beq a b))
 | .lss=>some (.bool (Nat.blt a b))
 | .leq=>some (.bool (Nat.ble a b))
 | .gtr=>some (.bool (Nat.blt b a))
 | .geq=>some (.bool (Nat.ble b a))
 | .add=>bif Nat.beq (Gh k) 3&&Nat.blt (a+b) 9223372036854775808 then some (.int .i64 (.ofNat (a+b))) else none
 | .sub=>bif Nat.beq (Gh k) 3&&(Nat.ble b a&&Nat.blt a 9223372036854775808) then some (.int .i64 (.ofNat (a-b))) else none
 | _=>none
def ZO (op:BinOp) (a b:List UInt8):Option Value:=match op with
 | .eql=>some (.bool (Fv a b))
 | .neq=>some (.bool (!Fv a b))
 | .lss=>some (.bool (Lq a b))
 | .leq=>some (.bool (Lq a b||Fv a b))
 | .gtr=>some (.bool (!(Lq a b||Fv a b)))
 | .geq=>some (.bool (!Lq a b))
 | _=>none
def JN (op:BinOp):AV->AV->Option Value
 | .pv (.sc (.int k (.ofNat a))),.pv (.sc (.int k' (.ofNat b)))=>bif Nat.beq (Gh k) (Gh k') then ZN k op a b else none
 | .pv (.sc (.string a)),.pv (.sc (.string b))=>ZO op a.data.toList b.data.toList
 | _,_=>none
def ZP (op:UnOp):AV->Option Value
 | .pv (.sc (.bool b))=>match op with
  | .not=>some (.bool !b)
  | _=>none
 | _=>none
def Ng (P:Program) (t:TypeId):AV->AV->Option Value
 | .pv (.sc (.string b)),.pv (.sc (.int _ (.ofNat n)))=>match P.underlying t,b.data.toList[n]? with
  | some .string,some c=>some (.int .u8 c.toNat)
  | _,_=>none
 | _,_=>none
def Nh (P:Program) (t:TypeId):AV->Option Value
 | .pv (.sc (.string b))=>match P.underlying t with
  | some .string=>some (.int .i64 (.ofNat b.data.toList.length))
  | _=>none
 | _=>none
def Cl (E:Env) (L:BI) (U:Nat->AV) (s:AQ) (o:Oper):Option (AV×AQ):=
 let q (r:Option AV):Option (AV×AQ):=match r with|some v=>some (v,s)|none=>none
 match o.op with
 | .move x|.assign x=>some (Am U x,s)
 | .pick c a b=>match Am U c with
  | .pv (.sc (.bool t))=>some (bif t then Am U a else Am U b,s)
  | _=>none
 | .alloc t=>match zeroOf E.P t with
  | some z=>some (HZ s (N7 E s.bs.length t z))
  | none=>none
 | .box t x=>if (cellsOf (Am U x)).all A7 then some (HZ s (N7 E s.bs.length t (cellsOf (Am U x)))) else none
 | .build t parts=>q (Th E.P t (parts.toList.map λp=>(p.1,Am U p.2)))
 | .buildSlice t len parts=>HE E.P L s t len (parts.toList.map λp=>(p.1,Am U p.2))
 | .load t a=>q (Tf E s t (Am U a))
 | .store t a x=>match OP E L s t (Am U a) (Am U x) with
  | some s'=>some (.tuple [],s')
  | none=>none
 | .nilCheck x=>q (K6 s (Am U x))
 | .fieldAddr t x f=>q (IA E.P s t (Am U x) f)
 | .field t x f=>q (Ti E.P t (Am U x) f)
 | .indexAddr t x i=>q (IB E.P s t (Am U x) (Am U i))
 | .extract t i=>q (Mh (Am U t) i)
 | .makeFunc fn first captured=>some (.func fn (first.toList.map (Am U)) (captured.toList.map (Am U)),s)
 | .makeInterface t x=>match E.P.underlying t with
  | some (.interface _)=>none
  | some _=>some (.iface t (Am U x),s)
  | none=>none
 | .slice t x lo hi mx=>
  match Ql E.P s t (Am U x) (lo.map (Am U)) (hi.map (Am U)) (mx.map (Am U)) with
  | some v=>some (v,s)
  | none=>q (C5 E U o)
 | .call { callee:=.builtin .len,args:=args,argTypes:=ts }=>
  match args.toList,ts.toList with
  | [x],[t]=>match Nh E.P t (Am U x) with
   | some v=>some (Kr v,s)
   | none=>match E.P.underlying t,BD s (Am U x) with
    | some (.slice _),some n=>some (Kr (.int .i64 n),s)
    | _,_=>q (C5 E U o)
  | _,_=>none
 | .call { callee:=.builtin .append,args:=args,argTypes:=ts }=>
  match args.toList,ts.toList with
  | [x,y],t::u::_=>match E.P.underlying u with
   | some (.int _)=>none
   | some _=>JM E.P L s t (Am U x) (Am U y)
   | none=>none
  | _,_=>none
 | .call { callee:=.builtin .delete,.. }=>none
 | .call { callee:=.builtin _,.. }=>q (C5 E U o)
 | .binOp op t x y _=>match JN op (Am U x) (Am U y) with
  | some v=>some (Kr v,s)
  | none=>match I3 E.P s U op t x y with
   | some v=>some (v,s)
   | none=>q (C5 E U o)
 | .convert _ _ _=>q (C5 E U o)
 | .unOp op _ x=>match ZP op (Am U x) with
  | some v=>some (Kr v,s)
  | none=>q (C5 E U o)
 | .index t x i=>match Ng E.P t (Am U x) (Am U i) with
  | some v=>some (Kr v,s)
  | none=>q (C5 E U o)
 | _=>none
def AGg (E:Env) (U:Nat->AV) (s:AQ) (t:TypeId) (a:Operand):Option (AV×AQ):=match Tf E s t (Am U a) with
 | some v=>some (v,s)
 | none=>none
def bh (E:Env) (U:Nat->AV) (s:AQ) (t:TypeId) (x:Operand) (f:Nat):Option (AV×AQ):=match IA E.P s t (Am U x) f with
 | some v=>some (v,s)
 | none=>none
def ABD (E:Env) (U:Nat->AV) (s:AQ) (t:TypeId) (x:Operand) (f:Nat):Option (AV×AQ):=match Ti E.P t (Am U x) f with
 | some v=>some (v,s)
 | none=>none
def bk (E:Env) (U:Nat->AV) (s:AQ) (t:TypeId) (x i:Operand):Option (AV×AQ):=match IB E.P s t (Am U x) (Am U i) with
 | some v=>some (v,s)
 | none=>none
def pN (U:Nat->AV) (s:AQ) (x:Operand) (i:Nat):Option (AV×AQ):=match Mh (Am U x) i with
 | some v=>some (v,s)
 | none=>none
def ABE (E:Env) (U:Nat->AV) (s:AQ) (t:TypeId) (parts:Array (Nat×Operand)):Option (AV×AQ):=match Th E.P t (parts.toList.map λp=>(p.1,Am U p.2)) with
 | some v=>some (v,s)
 | none=>none
def ABF (E:Env) (L:BI) (U:Nat->AV) (s:AQ) (t:TypeId) (a x:Operand):Option (AV×AQ):=match OP E L s t (Am U a) (Am U x) with
 | some s'=>some (.tuple [],s')
 | none=>none
def AOF (E:Env) (U:Nat->AV) (s:AQ) (o:Oper) (op:BinOp) (t:TypeId) (x y:Operand):Option (AV×AQ):=match JN op (Am U x) (Am U y) with
 | some v=>some (Kr v,s)
 | none=>match I3 E.P s U op t x y with
  | some v=>some (v,s)
  | none=>match C5 E U o with
   | some v=>some (v,s)
   | none=>none
def opF (E:Env) (L:BI) (U:Nat->AV) (s:AQ) (o:Oper):Option (AV×AQ):=match o.op with
 | .move x=>some (Am U x,s)
 | .assign x=>some (Am U x,s)
 | .load t a=>AGg E U s t a
 | .fieldAddr t x f=>bh E U s t x f
 | .field t x f=>ABD E U s t x f
 | .indexAddr t x i=>bk E U s t x i
 | .extract x i=>pN U s x i
 | .build t parts=>ABE E U s t parts
 | .store t a x=>ABF E L U s t a x
 | .binOp op t x y _=>AOF E U s o op t x y
 | _=>Cl E L U s o
theorem uG (E:Env) (L:BI) (U:Nat->AV) (s:AQ) (o:Oper):opF E L U s o=Cl E L U s o:=by
 obtain⟨dst,op,type,pos,after,guard⟩:=o;cases op <;> rfl
def Lr (U:Nat->AV) (c:Call):Option (FuncId×List AV):=
 match c.callee with
 | .value f=>match Am U f with
  | .func (.func g) first captured=>some (g,first++c.args.toList.map (Am U)++captured)
  | _=>none
 | _=>none
inductive Out where
 | norm|exit (id:Nat)|ret
def Mi (ops:Array Oper) (o:Oper):Option Nat:=match o.guard with
 | none=>none
 | some (j,_)=>match ops[j]? with
  | some p=>p.dst
  | none=>none
def FT (ops:Array Oper) (U:Nat->AV) (o:Oper):Option Bool:=
 match o.guard with
 | none=>some true
 | some (_,want)=>match Mi ops o with
  | some d=>match U d with
   | .pv (.sc (.bool b))=>some (b==want)
   | .tuple []=>some false
   | _=>none
  | none=>some false
def K7 (st:St) (d:Option Nat) (v:AV):Option St:=
 match d with
 | none=>some st
 | some d=>bif Nat.blt d st.N then some { st with U:=upd st.U d v } else none
abbrev Cu:=FuncId->List AV->AQ->Option (AV×AQ)
def pO (E:Env) (L:BI) (cf:Cu) (U:Nat->AV) (s:AQ) (o:Oper):Option (AV×AQ):=
 match o.op with
 | .call c=>match c.callee with
  | .builtin _=>Cl E L U s o
  | _=>match Lr U c with
   | some (f,args)=>cf f args s
   | none=>none
 | _=>Cl E L U s o
def OQ (E:Env) (L:BI) (cf:Cu) (U:Nat->AV) (s:AQ) (o:Oper):Option (AV×AQ):=
 match o.op with
 | .call c=>match c.callee with
  | .builtin _=>Cl E L U s o
  | _=>match Lr U c with
   | some (f,args)=>cf f args s
   | none=>none
 | _=>opF E L U s o
theorem PO (E:Env) (L:BI) (cf:Cu) (U:Nat->AV) (s:AQ) (o:Oper):OQ E L cf U s o=pO E L cf U s o:=by
 unfold OQ pO;simp only[uG]
def N8 (E:Env) (L:BI) (cf:Cu) (st:St) (o:Oper):Option St:=
 match OQ E L cf st.U st.s o with
 | some (v,s)=>K7 { st with s:=s } o.dst v
 | none=>none
def MP:Operand->Nat->Bool
 | .tmp t,d=>Nat.beq t d
 | _,_=>false
structure JO where
 t:TypeId
 x:Operand
 y:Operand
 d:Nat
 ix:Operand
 p:Nat
 te:TypeId
 v:Operand
def fused (o o1 o2:Oper):Option JO:=
 match o.op,o.dst,o1.op,o1.dst,o2.op,o2.dst with
 | .call { callee:=.builtin .append,args:=args,argTypes:=ts },some d,.indexAddr t1 (.tmp d1) ix,some p,.store te (.tmp p1) v,none=>
  match args.toList,ts.toList with
  | [x,y],[t,t']=>if d1=d/\p1=p/\t1=t/\t'=t/\d≠p/\o.guard.isNone=true/\o1.guard.isNone=true/\o2.guard.isNone=true/\MP ix d=false/\MP v d=false/\MP v p=false/\MP x d=false/\MP y d=false/\MP x p=false/\MP y p=false/\MP ix p=false then
    some ⟨t,x,y,d,ix,p,te,v⟩ else none
  | _,_=>none
 | _,_,_,_,_,_=>none
def K8 (L:BI) (s:AQ) (elem:TypeId) (i:TypeInfo) (x:AV) (row:List PV):Option (AV×AQ):=
 match x with
 | .AE rows=>
  if (rows.length+1)*i.bytes<=2 ^ 45/\rows.length+1<=2 ^ 45/\(rows.all λr=>r.length==i.size)=true then
   some (.own s.ts.length (rows++[row]),{ s with ts:=s.ts++[(rows.length+1,elem)] })
  else none
 | .own k rows=>
  if (rows.length+1)*i.bytes<=2 ^ 45/\rows.length+1<=2 ^ 45/\s.ts[k]?=some (rows.length,elem)/\L.rt<=k/\(rows.all λr=>r.length==i.size)=true then
   some (.own k (rows++[row]),{ s with ts:=s.ts.set k (rows.length+1,elem) })
  else none
 | _=>none
def Jl (E:Env) (L:BI) (U:Nat->AV) (s:AQ) (k:JO):Option (AV×AQ):=
 match E.P.underlying k.t with
 | some (.slice elem)=>
  if L.mu elem=false/\k.te=elem then
   match E.P.info? elem,rowsOf (Am U k.x),rowsOf (Am U k.y),He (Am U k.ix),CD (cellsOf (Am U k.v)) with
   | some i,some rows,some [z],some n,some row=>
    if n=rows.length/\z.length=i.size/\row.length=i.size/\(cellsOf (Am U k.v)).all A7=true/\(z.map AV.pv).all A7=true/\i.size≠0/\(zeroOf E.P elem).map List.length=some i.size then
     K8 L s elem i (Am U k.x) row
    else none
   | _,_,_,_,_=>none
  else none
 | _=>none
def XK (E:Env) (L:BI) (U:Nat->AV) (s:AQ) (k:JO):Option (AV×AQ):=
 match E.P.underlying k.t with
 | some (.slice elem)=>
  if L.mu elem=true/\k.te=elem then
   match E.P.info? elem,Am U k.x,He (Am U k.ix) with
   | some i,.ref id off len sz,some n=>match Cz s i.size (Am U k.y),s.bs[id]? with
    | some zs,some old=>
     if n=len/\zs.length=i.size/\(cellsOf (Am U k.v)).length=i.size/\(cellsOf (Am U k.v)).all A7=true/\zs.all A7=true/\i.size≠0/\(zeroOf E.P elem).map List.length=some i.size /\
       off=0/\sz=i.size/\len*sz<=old.length/\alive s id=true/\(len+1)*i.bytes<=2 ^ 45/\len+1<=2 ^ 45/\L.ro<=id then
      some (.ref s.bs.length 0 (len+1) sz,{ s with bs:=s.bs.set id []++[old.take (len*sz)++cellsOf (Am U k.v)] })
     else none
    | _,_=>none
   | _,_,_=>none
  else none
 | _=>none
def K9 (E:Env) (L:BI) (U:Nat->AV) (s:AQ) (k:JO):Option (AV×AQ):=match Jl E L U s k with
 | some r=>some r
 | none=>XK E L U s k
def Ks (st:St) (k:JO) (v:AV) (s:AQ):Option St:=
 match K7 { st with s:=s } (some k.d) v with
 | some st=>K7 st (some k.p) .Gm
 | none=>none
def I4 (E:Env) (L:BI) (cf:Cu) (ops:Array Oper):List Oper->St->Option St
 | [],st=>some st
 | o::rest,st=>
  let one:Option St:=match FT ops st.U o with
   | some true=>match N8 E L cf st o with
    | some st=>I4 E L cf ops rest st
    | none=>none
   | some false=>match K7 st o.dst (.tuple []) with
    | some st=>I4 E L cf ops rest st
    | none=>none
   | none=>none
  match rest with
  | o1::o2::rest'=>match fused o o1 o2 with
   | some k=>match Jl E L st.U st.s k with
    | some (v,s)=>match Ks st k v s with
     | some st=>I4 E L cf ops rest' st
     | none=>none
    | none=>one
   | none=>one
  | _=>one
def hcells (E:Env) (U:Nat->AV) (o:Oper):Option (List AV×(Nat->AV)):=
 match o.op with
 | .alloc t=>match zeroOf E.P t with
  | some z=>bif E.bz t then none else some (z,λid=>.ptr id 0)
  | none=>none
 | .makeSlice t l c=>match E.P.underlying t,Am U l,Am U c with
  | some (.slice elem),.pv (.sc (.int .i64 l)),.pv (.sc (.int .i64 c))=>match E.P.info? elem,zeroOf E.P elem with
   | some i,some z=>
    if 0<l/\l=c/\c<=2 ^ 40/\c*i.bytes<=2 ^ 45/\z.length=i.size/\i.size≠0 then some (Fx l.toNat z,λid=>.ref id 0 l.toNat i.size)
    else none
   | _,_=>none
  | _,_,_=>none
 | _=>none
def KN:AV->Option Nat
 | .ptr id _=>some id
 | .ref id _ _ _=>some id
 | _=>none
def bl:Int->Int->Bool
 | .ofNat a,.ofNat b=>Nat.beq a b
 | .negSucc a,.negSucc b=>Nat.beq a b
 | _,_=>false
def eqV:Value->Value->Bool
 | .int k n,.int k' n'=>Nat.beq (Gh k) (Gh k')&&bl n n'
 | .bool a,.bool b=>a==b
 | .string a,.string b=>Fv a.data.toList b.data.toList
 | .pointer none,.pointer none=>true
 | .nilFunc,.nilFunc=>true
 | .nilIface,.nilIface=>true
 | .map none,.map none=>true
 | .slice none a b,.slice none c d=>Nat.beq a c&&Nat.beq b d
 | _,_=>false
mutual
def Ni:PV->PV->Bool
 | .sc a,.sc b=>eqV a b
 | .list a,.list b=>JA a b
 | _,_=>false
def Mj:List PV->List PV->Bool
 | [],[]=>true
 | a::xs,b::ys=>Ni a b&&Mj xs ys
 | _,_=>false
def JA:List (List PV)->List (List PV)->Bool
 | [],[]=>true
 | a::xs,b::ys=>Mj a b&&JA xs ys
 | _,_=>false
end
def pP:List MapEntry->List MapEntry->Bool
 | [],[]=>true
 | a::xs,b::ys=>eqV a.key b.key&&eqV a.val b.val&&Nat.beq a.born b.born&&pP xs ys
 | _,_=>false
mutual
def C1:AV->AV->Bool
 | .pv a,.pv b=>Ni a b
 | .ptr a b,.ptr c d=>Nat.beq a c&&Nat.beq b d
 | .Dt a b,.Dt c d=>Nat.beq a c&&Nat.beq b d
 | .Ct a b,.Ct c d=>Mj a c&&Nat.beq b d
 | .AE a,.AE b=>JA a b
 | .own t a,.own u b=>Nat.beq t u&&JA a b
 | .ref a b c d,.ref a' b' c' d'=>Nat.beq a a'&&Nat.beq b b'&&Nat.beq c c'&&Nat.beq d d'
 | .func (.func f) a b,.func (.func g) c d=>Nat.beq f g&&Ij a c&&Ij b d
 | .iface t a,.iface u b=>Nat.beq t u&&C1 a b
 | .agg a,.agg b=>Ij a b
 | .tuple a,.tuple b=>Ij a b
 | .Gm,.Gm=>true
 | .HY a,.HY b=>Nat.beq a b
 | .PN a c,.PN b d=>pP a b&&Nat.beq c d
 | .bz a t n,.bz b u m=>Nat.beq a b&&Nat.beq t u&&Nat.beq n m
 | _,_=>false
def Ij:List AV->List AV->Bool
 | [],[]=>true
 | a::xs,b::ys=>C1 a b&&Ij xs ys
 | _,_=>false
end
def Em (E:Env) (L:BI) (U:Nat->AV) (s:AQ) (o:Oper):Option AV:=
 match o.op with
 | .alloc _|.box _ _|.store _ _ _|.makeMap _ _|.mapUpdate _ _ _ _|.insert _ _ _ _=>none
 | .makeSlice _ _ _=>match Cl E L U s o with
  | some (.AE [],_)=>some (.AE [])
  | _=>none
 | .call { callee:=.builtin .delete,.. }=>none
 | .buildSlice t _ _=>match E.P.underlying t with
  | some (.slice elem)=>bif muL L elem then none else match Cl E L U s o with
   | some (v,_)=>some v
   | none=>none
  | _=>none
 | .call { callee:=.builtin .append,.. }=>none
 | _=>match Cl E L U s o with
  | some (v,_)=>some v
  | none=>none
def Jm (E:Env) (L:BI) (U:Nat->AV) (s:AQ) (o:Oper):Option AV:=
 match o.op with
 | .alloc _|.box _ _|.store _ _ _|.makeMap _ _|.mapUpdate _ _ _ _|.insert _ _ _ _=>none
 | .makeSlice _ _ _=>match Cl E L U s o with
  | some (.AE [],_)=>some (.AE [])
  | _=>none
 | .call { callee:=.builtin .delete,.. }=>none
 | .buildSlice t _ _=>match E.P.underlying t with
  | some (.slice elem)=>bif muL L elem then none else match Cl E L U s o with
   | some (v,_)=>some v
   | none=>none
  | _=>none
 | .call { callee:=.builtin .append,.. }=>none
 | _=>match opF E L U s o with
  | some (v,_)=>some v
  | none=>none
theorem LA (E:Env) (L:BI) (U:Nat->AV) (s:AQ) (o:Oper):Jm E L U s o=Em E L U s o:=by
 unfold Jm Em;simp only[uG]
def FU (E:Env) (L:BI) (ops:Array Oper) (U:Nat->AV) (s:AQ) (o:Oper):Option AV:=
 match FT ops U o with
 | some true=>Jm E L U s o
 | some false=>some (.tuple [])
 | none=>none
def OS (E:Env) (L:BI) (cf:Cu) (ops:Array Oper) (U:Nat->AV) (s:AQ) (o:Oper):Option (AV×AQ):=
 match FT ops U o with
 | some true=>OQ E L cf U s o
 | some false=>some (.tuple [],s)
 | none=>none
def Jn (E:Env) (L:BI) (ops:Array Oper) (cls:List bU):List Nat->St->Option St
 | [],st=>some st
 | i::rest,st=>match ops[i]?,cls[i]? with
  | some o,some (.q _)=>match FU E L ops st.U st.s o with
   | some v=>match K7 st o.dst v with
    | some st=>Jn E L ops cls rest st
    | none=>none
   | none=>none
  | some o,some (.h _)=>match hcells E st.U o with
   | some (cs,mk)=>match K7 { st with s:={ st.s with bs:=st.s.bs++[cs] } } o.dst (mk st.s.bs.length) with
    | some st=>Jn E L ops cls rest st
    | none=>none
   | none=>none
  | _,_=>none
def Hf (E:Env) (L:BI) (cf:Cu) (ops:Array Oper) (cls:List bU):List Nat->St->List AQ->Option (St×List AQ)
 | [],st,acc=>some (st,acc)
 | i::rest,st,acc=>match ops[i]?,cls[i]? with
  | some o,some (.q _)=>match FU E L ops st.U st.s o with
   | some v=>match K7 st o.dst v with
    | some st=>Hf E L cf ops cls rest st acc
    | none=>none
   | none=>none
  | some o,some (.w _)=>match OS E L cf ops st.U st.s o with
   | some (v,s)=>match K7 { st with s:=s } o.dst v with
    | some st=>Hf E L cf ops cls rest st (s::acc)
    | none=>none
   | none=>none
  | some o,some (.fa _ j x)=>match ops[j]?,ops[x]? with
   | some o1,some o2=>match fused o o1 o2 with
    | some k=>match K9 E L st.U st.s k with
     | some (v,s)=>match Ks st k v s with
      | some st=>Hf E L cf ops cls rest st (s::acc)
      | none=>none
     | none=>none
    | none=>none
   | _,_=>none
  | some _,some .fj=>Hf E L cf ops cls rest st acc
  | some _,some .fx=>Hf E L cf ops cls rest st acc
  | _,_=>none
def Hx (GI:List (List Nat)) (i:Nat):List Nat:=match GI[i]? with
 | some l=>l
 | none=>[]
def has (l:List Nat) (x:Nat):Bool:=l.any λy=>Nat.beq y x
def Fw (GI:List (List Nat)) (U0 Uf:Nat->AV) (i t:Nat):AV:=bif has (Hx GI i) t then U0 t else Uf t
def iL (E:Env) (L:BI) (ops:Array Oper) (cls:List bU) (GI:List (List Nat)) (U0 Uf:Nat->AV) (σ:List AQ):List (Nat×Nat)->Bool
 | []=>true
 | (i,k)::rest=>(match ops[i]?,cls[i]?,σ[k]? with
  | some o,some (.q _),some s=>match FU E L ops (Fw GI U0 Uf i) s o with
   | some v=>match o.dst with
    | some d=>C1 v (Uf d)
    | none=>true
   | none=>false
  | some o,some (.h _),some s=>match hcells E (Fw GI U0 Uf i) o,o.dst with
   | some (cs,_),some d=>match KN (Uf d) with
    | some id=>match s.bs[id]? with
     | some cs'=>Ij cs' cs
     | none=>false
    | none=>false
   | _,_=>false
  | _,_,_=>false)&&iL E L ops cls GI U0 Uf σ rest
def Rq (ops:Array Oper) (p:Bl) (U0 Uf:Nat->AV) (FV:Nat):List Nat->Bool
 | []=>true
 | m::rest=>(match ops[m]?,p.cls[m]? with
  | some om,some (.w _)=>match om.op with
   | .store _ y _=>match Am (Fw p.GI U0 Uf m) y with
    | .ptr id _=>!(Nat.beq id FV)
    | _=>true
   | _=>true
  | _,_=>true)&&Rq ops p U0 Uf FV rest
def Qm (E:Env) (L:BI) (ops:Array Oper) (i j x:Nat):Bool:=match ops[i]?,ops[j]?,ops[x]? with
 | some o,some o1,some o2=>match fused o o1 o2 with
  | some k=>match E.P.underlying k.t with
   | some (.slice elem)=>L.mu elem
   | _=>false
  | none=>false
 | _,_,_=>false
def pQ (E:Env) (L:BI) (ops:Array Oper) (cls:List bU):List Nat->Bool
 | []=>true
 | i::rest=>(match cls[i]? with
  | some (.fa _ j x)=>!(Qm E L ops i j x)
  | _=>true)&&pQ E L ops cls rest
def Tj (E:Env) (L:BI) (ops:Array Oper) (p:Bl) (U0 Uf:Nat->AV):List Nat->Bool
 | []=>true
 | i::rest=>(match p.cls[i]? with
  | some (.fa _ j x)=>bif Qm E L ops i j x then match ops[i]? with
   | some o=>match o.dst with
    | some d=>match Uf d with
     | .ref FV _ _ _=>Rq ops p U0 Uf FV p.rest
     | _=>true
    | none=>true
   | none=>true
   else true
  | _=>true)&&Tj E L ops p U0 Uf rest
def XL (E:Env) (L:BI) (ops:Array Oper) (p:Bl) (U0 Uf:Nat->AV):Bool:=pQ E L ops p.cls p.rest||Tj E L ops p U0 Uf p.rest
def ZQ (E:Env) (L:BI) (cf:Cu) (p:Bl) (ops:Array Oper) (st0:St):Option St:=
 match Jn E L ops p.cls p.first st0 with
 | some st=>match Hf E L cf ops p.cls p.rest st [st.s] with
  | some (st,acc)=>bif iL E L ops p.cls p.GI st0.U st.U acc.reverse p.WV&&XL E L ops p st0.U st.U then some st else none
  | none=>none
 | none=>none
def KW (E:Env) (L:BI) (cf:Cu) (ops:Array Oper) (st:St):Option Bl->Option St
 | some p=>ZQ E L cf p ops st
 | none=>none
def uH (E:Env) (L:BI) (ops:Array Oper) (st:St) (p q:Option Bl):Option Bl:=match p with
 | some p=>match Jn E L ops p.cls p.first st with
  | some _=>some p
  | none=>q
 | none=>q
def Rr:List AV->Nat->AV
 | [],_=>.tuple []
 | v::_,0=>v
 | _::vs,n+1=>Rr vs n
def Nj (E:Env) (st:St):ResultVar->Option AV
 | .tmp t=>some (st.U t)
 | .cell a t=>Tf E st.s t (st.U a)
def F0 (E:Env) (st:St):List ResultVar->Option (List AV)
 | []=>some []
 | r::rs=>match Nj E st r,F0 E st rs with
  | some v,some vs=>some (v::vs)
  | _,_=>none
def JB:List AV->AV
 | [v]=>v
 | vs=>.tuple vs
def PR:Code->Bool
 | .rangeFunc _ _ _ _=>false
 | .seq a b=>PR a&&PR b
 | .cond _ a b=>PR a&&PR b
 | .block _ b=>PR b
 | .loop b=>PR b
 | _=>true
def Ac4 (P:Program) (el:TypeId) (row:List PV):Option AV:=
 if D2 P el=some row.length/\row.length≠0 then partOf P el (row.map .pv) 0 else none
def Mc (E:Env) (cf:BI->Cu):Nat->BI->Code->St->Option (Out×St)
 | 0,_,_,_=>none
 | n+1,L,c,st=>match c with
  | .skip=>some (.norm,st)
  | .ret=>some (.ret,st)
  | .exit id=>some (.exit id,st)
  | .region _ ops false=>match I4 E L (cf L) ops ops.toList st with
   | some st=>some (.norm,st)
   | none=>none
  | .region id ops true=>match KW E L (cf L) ops st (uH E L ops st (L.pl id) (L.pl (id+1000000))) with
   | some st=>some (.norm,st)
   | none=>none
  | .seq a b=>match Mc E cf n L a st with
   | some (.norm,st)=>Mc E cf n L b st
   | r=>r
  | .cond c a b=>match Am st.U c with
   | .pv (.sc (.bool t))=>Mc E cf n L (bif t then a else b) st
   | _=>none
  | .block id b=>match Mc E cf n L b st with
   | some (.exit j,st)=>bif Nat.beq j id then some (.norm,st) else some (.exit j,st)
   | r=>r
  | .loop b=>match Mc E cf n L b st with
   | some (.norm,st)=>Mc E cf n L (.loop b) st
   | r=>r
  | _=>none
def Jo (E:Env) (cf:BI->Cu) (n:Nat) (fn:Func) (L:BI) (args:List AV) (s:AQ):Option (AV×AQ):=
 match fn.body with
 | none=>none
 | some body=>match Mc E cf n L body ⟨fn.ntmps,Rr args,s⟩ with
  | some (.exit _,_)=>none
  | some (_,st)=>match F0 E st fn.results.toList with
   | some vs=>some (JB vs,st.s)
   | none=>none
  | none=>none
mutual
def Ax (n:Nat):AV->Bool
 | .ptr id _|.ref id _ _ _|.HY id|.bz id _ _=>Nat.blt id n
 | .func _ first captured=>Ag n first&&Ag n captured
 | .iface _ v=>Ax n v
 | .agg cs=>Ag n cs
 | .tuple vs=>Ag n vs
 | _=>true
def Ag (n:Nat):List AV->Bool
 | []=>true
 | c::cs=>Ax n c&&Ag n cs
end
def IC (r:Bool) (n:Nat):AV->Option (Nat×Nat×Nat×Nat)
 | .ref id off len sz=>bif r&&Nat.ble n id then some (id,off,len,sz) else none
 | _=>none
def Hy (r:Bool) (n:Nat) (v:AV) (s:AQ):Option (AV×AQ):=
 bif (s.bs.take n).all (Ag n) then match IC r n v with
  | some (id,off,len,sz)=>match s.bs[id]? with
   | some (c::cs)=>bif Ag n (c::cs) then some (.ref n off len sz,⟨s.bs.take n++[c::cs],s.ts⟩) else none
   | _=>none
  | none=>match close s.bs n s.ts.length v with
   | some v=>some (v,⟨s.bs.take n,s.ts⟩)
   | none=>none
 else none
def JC (E:Env) (cf:BI->Cu) (n:Nat) (f:FuncId) (fn:Func) (args:List AV) (s:AQ):Option (AV×AQ):=
 match Jo E cf n fn ⟨0,0,0,E.mu f,E.rr f,E.plan f⟩ args ⟨[],[]⟩ with
 | some (v,s')=>match close s'.bs 0 0 v with
  | some v=>some (v,s)
  | none=>none
 | none=>none
def EJ (E:Env) (cf:BI->Cu) (n:Nat) (L:BI) (f:FuncId) (fn:Func) (args:List AV) (s:AQ):Option (AV×AQ):=
 if args.length<=fn.ntmps then
  match E.kind f with
  | .esc=>Jo E cf n fn { L with mu:=E.mu f,rr:=E.rr f,pl:=E.plan f } args s
  | .rd=>match BK [] 0 0 args with
   | some args=>JC E cf n f fn args s
   | none=>match Jo E cf n fn ⟨s.bs.length,s.bs.length,s.ts.length,E.mu f,E.rr f,E.plan f⟩ args s with
    | some (v,s')=>match close s'.bs s.bs.length s.ts.length v with
     | some v=>some (v,s)
     | none=>none
    | none=>none
  | k=>bif (match k with|.im=>C7 args|_=>false) then JC E cf n f fn args s else
   match Jo E cf n fn ⟨0,L.ro,L.rt,E.mu f,E.rr f,E.plan f⟩ args s with
   | some (v,s')=>Hy (L.rr f) s.bs.length v s'
   | none=>none
 else none
def Jp:List AV->Bool
 | [x]=>match rowsOf x with
  | some []=>true
  | _=>false
 | _=>false
def N9 (E:Env) (L:BI) (f:FuncId) (args:List AV) (s:AQ) (r:Option (AV×AQ)):Option (AV×AQ):=match E.told f with
 | some T=>T L args s
 | none=>bif Jp args then some (.AE [],s) else r
def Dw (E:Env):Nat->BI->Cu
 | 0,_,_,_,_=>none
 | n+1,L,f,args,s=>match E.P.funcs[f]? with
  | some fn=>bif E.clone f then N9 E L f args s (EJ E (Dw E n) n L f fn args s) else EJ E (Dw E n) n L f fn args s
  | none=>none
end Go.Tel
