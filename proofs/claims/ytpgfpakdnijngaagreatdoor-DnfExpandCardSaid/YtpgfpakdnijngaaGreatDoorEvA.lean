/-
  A deterministic evaluator for the model's code on abstract values: definitions only.
-/
import Derived.Test.YtpgfpakdnijngaaGreatDoorAl
set_option linter.all false
namespace Go.Tel
inductive PV where
 | sc (v:Value)
 | list (rows:List (List PV))
inductive AV where
 | pv (p:PV)
 | ptr (id off:Nat)
 | DS (g off:Nat)
 | Cq (row:List PV) (off:Nat)
 | AB (rows:List (List PV))
 | own (tok:Nat) (rows:List (List PV))
 | ref (id off len sz:Nat)
 | func (fn:Fn) (first captured:List AV)
 | iface (t:TypeId) (v:AV)
 | agg (cs:List AV)
 | tuple (vs:List AV)
 | Gw
 | G8 (id:Nat)
 | N8 (es:List MapEntry) (clock:Nat)
 | bz (id:Nat) (t:TypeId) (n:Nat)
inductive Kind where
 | rd|im|st|esc
inductive dW where
 | w (r:Nat)
 | q (ts:List Nat)
 | h (ts:List Nat)
 | fa (r j x:Nat)
 | fj|fx
structure Bb where
 first:List Nat
 rest:List Nat
 cls:List dW
 pre:List (List Nat)
 GQ:List (List Nat)
 XG:List (Nat×Nat)
structure A8 where
 n0:Nat
 ro:Nat
 rt:Nat
 mu:TypeId->Bool
 rr:FuncId->Bool
 pl:Nat->Option Bb
structure AM where
 bs:List (List AV)
 ts:List (Nat×Nat)
structure Env where
 P:Program
 G:Nat->Option (List PV)
 kind:FuncId->Kind
 mu:FuncId->TypeId->Bool
 rr:FuncId->FuncId->Bool
 clone:FuncId->Bool
 plan:FuncId->Nat->Option Bb
 told:FuncId->Option (A8->List AV->AM->Option (AV×AM)):=λ_=>none
 bz:TypeId->Bool:=λ_=>false
 back:FuncId->Option TypeId:=λ_=>none
structure St where
 N:Nat
 ρ:Nat->AV
 s:AM
abbrev J1 (v:Value):AV:=.pv (.sc v)
def upd (ρ:Nat->AV) (i:Nat) (v:AV) (j:Nat):AV:=bif Nat.beq j i then v else ρ j
def quick (P:Program) {α:Type}:Sem α->Option α
 | .pure a=>some a
 | .program k=>quick P (k P)
 | .mark _ k=>quick P k
 | _=>none
def HJ:AV->Option Value
 | .pv (.sc v)=>some v
 | _=>none
def Ms:Value->AV
 | .agg cs=>.agg (cs.toList.map J1)
 | .tuple vs=>.tuple (vs.toList.map J1)
 | v=>J1 v
def HS:Value->AV
 | .slice none 0 0=>.AB []
 | v=>J1 v
def ofConst:Value->AV
 | .agg cs=>.agg (cs.toList.map HS)
 | .tuple vs=>.tuple (vs.toList.map J1)
 | v=>HS v
def Ag (ρ:Nat->AV):Operand->AV
 | .tmp t=>ρ t
 | .const v=>ofConst v
 | .global g=>.DS g 0
 | .func f=>.func (.func f) [] []
def cellsOf:AV->List AV
 | .agg cs=>cs
 | v=>[v]
def Jg:AV->Option PV
 | .pv p=>some p
 | .AB rows=>some (.list rows)
 | .own _ rows=>some (.list rows)
 | _=>none
def Cm:List AV->Option (List PV)
 | []=>some []
 | c::cs=>match Jg c,Cm cs with
  | some p,some ps=>some (p::ps)
  | _,_=>none
def rowsOf:AV->Option (List (List PV))
 | .pv (.list rows)=>some rows
 | .AB rows=>some rows
 | .own _ rows=>some rows
 | _=>none
def CB (k:Nat):Nat->List PV->List (List PV)
 | 0,_=>[]
 | n+1,cs=>cs.take k::CB k n (cs.drop k)
def Ii (bs:List (List AV)) (id off len sz:Nat):Option (List (List PV)):=
 match bs[id]? with
 | some cs=>if off+len*sz<=cs.length/\cs.isEmpty=false then match Cm ((cs.drop off).take (len*sz)) with
   | some ps=>some (CB sz len ps)
   | none=>none
  else none
 | none=>none
mutual
def close (bs:List (List AV)) (n m:Nat):AV->Option AV
 | .pv p=>some (.pv p)
 | .ptr id off=>if id<n then some (.ptr id off) else none
 | .DS g off=>some (.DS g off)
 | .Cq row off=>some (.Cq row off)
 | .AB rows=>some (.AB rows)
 | .own t rows=>if t<m then some (.own t rows) else some (.pv (.list rows))
 | .ref id off len sz=>if id<n then some (.ref id off len sz) else match Ii bs id off len sz with
  | some rows=>some (.pv (.list rows))
  | none=>none
 | .func fn first captured=>match AY bs n m first,AY bs n m captured with
  | some a,some b=>some (.func fn a b)
  | _,_=>none
 | .iface t v=>match close bs n m v with
  | some v=>some (.iface t v)
  | none=>none
 | .agg cs=>match AY bs n m cs with
  | some cs=>some (.agg cs)
  | none=>none
 | .tuple vs=>match AY bs n m vs with
  | some vs=>some (.tuple vs)
  | none=>none
 | .Gw=>some .Gw
 | .G8 id=>if id<n then some (.G8 id) else none
 | .N8 _ _=>none
 | .bz id t k=>if id<n then some (.bz id t k) else none
def AY (bs:List (List AV)) (n m:Nat):List AV->Option (List AV)
 | []=>some []
 | c::cs=>match close bs n m c,AY bs n m cs with
  | some c,some cs=>some (c::cs)
  | _,_=>none
end
mutual
def F1:AV->Bool
 | .ptr _ _|.ref _ _ _ _|.own _ _|.G8 _|.N8 _ _|.bz _ _ _=>false
 | .func _ first captured=>Bi first&&Bi captured
 | .iface _ v=>F1 v
 | .agg cs=>Bi cs
 | .tuple vs=>Bi vs
 | _=>true
def Bi:List AV->Bool
 | []=>true
 | c::cs=>F1 c&&Bi cs
end
mutual
def JA:AV->Bool
 | .ptr _ _|.ref _ _ _ _|.G8 _|.N8 _ _|.bz _ _ _=>false
 | .func _ first captured=>IG first&&IG captured
 | .iface _ v=>JA v
 | .agg cs=>IG cs
 | .tuple vs=>IG vs
 | _=>true
def IG:List AV->Bool
 | []=>true
 | c::cs=>JA c&&IG cs
end
def QN (s:AM) (id:Nat):Option (List AV):=s.bs[id]?
def alive (s:AM) (id:Nat):Bool:=match s.bs[id]? with
 | some (_::_)=>true
 | _=>false
def partOf (P:Program) (t:TypeId) (cs:List AV) (off:Nat):Option AV:=
 match P.underlying t,P.info? t with
 | some d,some i=>match d with
  | .struct _|.array _ _=>if off+i.size<=cs.length/\i.size≠0 then some (.agg ((cs.drop off).take i.size)) else none
  | _=>cs[off]?
 | _,_=>none
def Ru (E:Env) (s:AM) (t:TypeId):AV->Option AV
 | .ptr id off=>match QN s id with
  | some cs=>partOf E.P t cs off
  | none=>none
 | .DS g off=>match E.G g with
  | some row=>partOf E.P t (row.map .pv) off
  | none=>none
 | .Cq row off=>partOf E.P t (row.map .pv) off
 | _=>none
def setCells (cs:List AV) (off:Nat):List AV->List AV
 | []=>cs
 | v::vs=>setCells (cs.set off v) (off+1) vs
def A9:AV->Bool
 | .agg _|.tuple _|.N8 _ _|.bz _ _ _=>false
 | .pv (.sc (.agg _))|.pv (.sc (.tuple _))=>false
 | _=>true
def M8 (E:Env) (L:A8) (s:AM) (t:TypeId) (a x:AV):Option AM:=
 match a,E.P.info? t with
 | .ptr id off,some i=>match QN s id with
  | some cs=>
   let vs:=cellsOf x
   if vs.length=i.size/\off+vs.length<=cs.length/\L.ro<=id/\(vs.all A9)=true/\(L.n0<=id\/IG vs=true)/\i.size≠0 then
    some { s with bs:=s.bs.set id (setCells cs off vs) } else none
  | none=>none
 | _,_=>none
def Mt (E:Env) (id:Nat) (t:TypeId) (z:List AV):List AV:=bif E.bz t then match z with
  | .pv (.sc (.pointer none))::r=>.bz id t (r.length+1)::r
  | z=>z
 else z
def G9 (s:AM) (cs:List AV):AV×AM:=(.ptr s.bs.length 0,{ s with bs:=s.bs++[cs] })
def LL (place:Nat->Option (Nat×Nat)) (cells:List AV):List (Nat×AV)->Option (List AV)
 | []=>some cells
 | (i,v)::rest=>match place i with
  | none=>none
  | some (off,size)=>
   if (cellsOf v).length=size/\off+size<=cells.length/\(cellsOf v).all A9=true then
    LL place (setCells cells off (cellsOf v)) rest
   else none
def zeroOf (P:Program) (t:TypeId):Option (List AV):=
 match P.info? t with
 | some i=>match i.zero with
  | some v=>some (cellsOf (ofConst v))
  | none=>none
 | none=>none
def D3 (P:Program) (t:TypeId):Option Nat:=match P.info? t with|some i=>some i.size|none=>none
def XI (P:Program) (fields:Array Field) (i:Nat):Option (Nat×Nat):=
 match fields[i]? with
 | some f=>match D3 P f.type with|some k=>some (f.offset,k)|none=>none
 | none=>none
def Rv (P:Program) (t:TypeId) (parts:List (Nat×AV)):Option AV:=
 match zeroOf P t,P.underlying t with
 | some z,some (.struct fields)=>
  match LL (XI P fields) z parts with
  | some cs=>if fields.all (λf=>(D3 P f.type).isSome) then some (.agg cs) else none
  | none=>none
 | some z,some (.array _ elem)=>
  match D3 P elem with
  | some k=>match LL (λi=>some (i*k,k)) z parts with
   | some cs=>some (.agg cs)
   | none=>none
  | none=>none
 | _,_=>none
def FY {α:Type} (n:Nat) (l:List α):List α:=match n with
 | 0=>[]
 | n+1=>l++FY n l
def Gj (P:Program) (L:A8) (s:AM) (t:TypeId) (len:Nat) (parts:List (Nat×AV)):Option (AV×AM):=
 match P.underlying t with
 | some (.slice elem)=>match D3 P elem,zeroOf P elem with
  | some k,some z=>
   if len*k<=2 ^ 24/\z.length=k/\k≠0 then
    match LL (λi=>some (i*k,k)) (FY len z) parts with
    | some cs=>bif L.mu elem&&Nat.blt 0 len then some (.ref s.bs.length 0 len k,{ s with bs:=s.bs++[cs] })
     else match Cm cs with
     | some ps=>some (.AB (CB k len ps),s)
     | none=>none
    | none=>none
   else none
  | _,_=>none
 | _=>none
def dX (P:Program) (s:AM) (t:TypeId) (len cap:AV):Option (AV×AM):=
 match P.underlying t,len,cap with
 | some (.slice elem),.pv (.sc (.int .i64 l)),.pv (.sc (.int .i64 c))=>match P.info? elem,zeroOf P elem with
  | some i,some z=>
   if 0<=l/\l<=c/\c<=2 ^ 40/\c*i.bytes<=2 ^ 45/\z.length=i.size/\i.size≠0 then
    if c=0 then some (.AB [],s)
    else if l=c then some (.ref s.bs.length 0 l.toNat i.size,{ s with bs:=s.bs++[FY l.toNat z] })
    else if l=0 then some (.own s.ts.length [],{ s with ts:=s.ts++[(0,elem)] })
    else none
   else none
  | _,_=>none
 | _,_,_=>none
def KE (s:AM):AV->Option AV
 | .ptr id off=>bif alive s id then some (.ptr id off) else none
 | .DS g off=>some (.DS g off)
 | .Cq r off=>some (.Cq r off)
 | .func (.func f) a b=>some (.func (.func f) a b)
 | _=>none
def HT (P:Program) (s:AM) (t:TypeId) (x:AV) (field:Nat):Option AV:=
 match P.underlying t with
 | some (.struct fields)=>match fields[field]? with
  | some f=>match D3 P f.type with
   | some k=>if k=0 then none else match x with
    | .ptr id off=>bif alive s id then some (.ptr id (off+f.offset)) else none
    | .DS g off=>some (.DS g (off+f.offset))
    | .Cq r off=>some (.Cq r (off+f.offset))
    | _=>none
   | none=>none
  | none=>none
 | _=>none
def Rw (P:Program) (t:TypeId) (x:AV) (field:Nat):Option AV:=
 match P.underlying t,x with
 | some (.struct fields),.agg cs=>match fields[field]? with
  | some f=>partOf P f.type cs f.offset
  | none=>none
 | _,_=>none
def XJ:AV->Option Int
 | .pv (.sc (.int _ n))=>some n
 | _=>none
def HU (P:Program) (s:AM) (t:TypeId) (x ix:AV):Option AV:=
 match P.underlying t,XJ ix with
 | some (.slice elem),some i=>match D3 P elem with
  | some k=>match rowsOf x with
   | some rows=>if 0<=i then match rows[i.toNat]? with
     | some row=>if row.length=k/\k≠0 then some (.Cq row 0) else none
     | none=>none
    else none
   | none=>match x with
    | .ref id off len sz=>if 0<=i/\i<len/\sz=k/\alive s id=true then some (.ptr id (off+i.toNat*k)) else none
    | _=>none
  | none=>none
 | some (.array len elem),some i=>match D3 P elem with
  | some k=>if 0<=i/\i<len then match x with
    | .ptr id off=>bif alive s id then some (.ptr id (off+i.toNat*k)) else none
    | .DS g off=>some (.DS g (off+i.toNat*k))
    | .Cq r off=>some (.Cq r (off+i.toNat*k))
    | _=>none
   else none
  | none=>none
 | _,_=>none
def Ld:AV->Nat->Option AV
 | .tuple vs,i=>vs[i]?
 | _,_=>none
def HA:AV->Option Nat
 | .pv (.sc (.int _ n))=>if 0<=n then some n.toNat else none
 | _=>none
def Fa (d:Nat):Option AV->Option Nat
 | none=>some d
 | some v=>HA v
def PC (P:Program) (s:AM) (t:TypeId) (x:AV) (lo hi mx:Option AV):Option AV:=
 match P.underlying t with
 | some (.slice elem)=>match D3 P elem with
  | some k=>match x with
   | .ref id off len sz=>match Fa len hi,Fa 0 lo,mx with
    | some h,some l,none=>if l<=h/\h<=len/\sz=k/\k≠0/\alive s id=true then(if l=h then some (.pv (.list [])) else some (.ref id (off+l*k) (h-l) sz)) else none
    | some h,some l,some m=>match HA m with
     | some m=>if l=h/\h<=len/\m=h/\hi.isSome=true/\alive s id=true then some (.AB []) else none
     | none=>none
    | _,_,_=>none
   | x=>match rowsOf x with
    | some rows=>match Fa rows.length hi,Fa 0 lo with
     | some h,some l=>
      if l<=h/\h<=rows.length/\(rows.all λr=>r.length==k)=true then match mx with
       | none=>some (.pv (.list ((rows.take h).drop l)))
       | some m=>match HA m with
        | some m=>if m=h/\hi.isSome then some (.AB ((rows.take h).drop l)) else none
        | none=>none
      else none
     | _,_=>none
    | none=>none
  | none=>none
 | _=>none
def A7 (s:AM):AV->Option Nat
 | .ref id _ len _=>bif alive s id then some len else none
 | v=>match rowsOf v with
  | some rows=>some rows.length
  | none=>none
def Cx (s:AM) (k:Nat):AV->Option (List AV)
 | .pv (.sc (.string b))=>if k=1 then some (b.data.toList.map λb=>J1 (.int .u8 b.toNat)) else none
 | .ref id off len sz=>match s.bs[id]? with
  | some cs=>if off+len*sz<=cs.length/\sz=k/\alive s id=true then some ((cs.drop off).take (len*sz)) else none
  | none=>none
 | v=>match rowsOf v with
  | some rows=>if (rows.all λr=>r.length==k)=true then some (rows.flatten.map .pv) else none
  | none=>none
def Ij (P:Program) (L:A8) (s:AM) (t:TypeId) (x y:AV):Option (AV×AM):=
 match P.underlying t with
 | some (.slice elem)=>match P.info? elem with
  | some i=>if (zeroOf P elem).map List.length=some i.size/\i.size≠0 then
    match Cx s i.size y with
    | some []=>match x with
     | .ref id _ _ _=>bif alive s id then some (x,s) else none
     | _=>match rowsOf x with
      | some _=>some (x,s)
      | none=>none
    | some (c::cs)=>if (c::cs).all A9=true then
     let new:=c::cs
     let n:=new.length / i.size
     match x with
     | .ref id off len sz=>match s.bs[id]? with
      | some old=>if off=0/\sz=i.size/\len*sz<=old.length/\alive s id=true/\(len+n)*i.bytes<=2 ^ 45/\len+n<=2 ^ 45/\L.ro<=id then
        some (.ref s.bs.length 0 (len+n) sz,{ s with bs:=s.bs.set id []++[old.take (len*sz)++new] }) else none
      | none=>none
     | .AB rows=>
      if (rows.length+n)*i.bytes<=2 ^ 45/\rows.length+n<=2 ^ 45/\(rows.all λr=>r.length==i.size)=true then
       bif L.mu elem then some (.ref s.bs.length 0 (rows.length+n) i.size,{ s with bs:=s.bs++[rows.flatten.map .pv++new] })
       else match Cm new with
       | some ps=>some (.own s.ts.length (rows++CB i.size n ps),{ s with ts:=s.ts++[(rows.length+n,elem)] })
       | none=>none
      else none
     | .own k rows=>
      if (rows.length+n)*i.bytes<=2 ^ 45/\rows.length+n<=2 ^ 45/\s.ts[k]?=some (rows.length,elem)/\L.rt<=k/\(rows.all λr=>r.length==i.size)=true then
       match Cm new with
       | some ps=>some (.own k (rows++CB i.size n ps),{ s with ts:=s.ts.set k (rows.length+n,elem) })
       | none=>none
      else none
     | _=>none
     else none
    | none=>none
   else none
  | none=>none
 | _=>none
def U9:List AV->Option (List UInt8)
 | []=>some []
 | .pv (.sc (.int .u8 n))::rest=>match U9 rest with
  | some l=>some (UInt8.ofNat n.toNat::l)
  | none=>none
 | _=>none
def AIi (s:AM):AV->Option (List UInt8)
 | .pv (.sc _)=>none
 | y=>match Cx s 1 y with
  | some cs=>U9 cs
  | none=>none
def D4 (s:AM):AV->Option Nat
 | .ptr id _=>bif alive s id then some 0 else none
 | .DS _ _=>some 0
 | .Cq _ _=>some 0
 | .func _ _ _=>some 2
 | .iface _ _=>some 3
 | .ref id _ _ _=>bif alive s id then some 1 else none
 | v=>match rowsOf v with
  | some ((_::_)::_)=>some 1
  | _=>none
def FT (ρ:Nat->AV):Operand->Option Nat
 | .const (.slice none 0 0)=>some 1
 | x=>match Ag ρ x with
  | .pv (.sc (.pointer none))=>some 0
  | .pv (.sc .nilFunc)=>some 2
  | .pv (.sc .nilIface)=>some 3
  | _=>none
def C5 (P:Program) (t:TypeId):Option Nat:=match P.underlying t with
 | some (.pointer _)=>some 0
 | some (.slice _)=>some 1
 | some (.func _ _ _)=>some 2
 | some (.interface _)=>some 3
 | _=>none
def sameKind:Option Nat->Option Nat->Option Nat->Bool
 | some a,some b,some c=>Nat.beq a b&&Nat.beq a c
 | _,_,_=>false
def II (P:Program) (s:AM) (ρ:Nat->AV) (op:BinOp) (t:TypeId) (x y:Operand):Option AV:=
 bif sameKind (C5 P t) (D4 s (Ag ρ x)) (FT ρ y)||sameKind (C5 P t) (FT ρ x) (D4 s (Ag ρ y)) then match op with
  | .eql=>some (J1 (.bool false))
  | .neq=>some (J1 (.bool true))
  | _=>none
 else none
def Eh (ρ:Nat->AV) (xs:List Operand):Bool:=xs.all λx=>(HJ (Ag ρ x)).isSome
def Cw (E:Env) (ρ:Nat->AV) (o:Oper):Option AV:=
 if Eh ρ o.op.operands.toList then
  match quick E.P (execOp (λx=>(HJ (Ag ρ x)).getD undef) o) with
  | some (.value v)=>some (Ms v)
  | _=>none
 else none
def FU:List UInt8->List UInt8->Bool
 | [],[]=>true
 | a::xs,b::ys=>Nat.beq a.toNat b.toNat&&FU xs ys
 | _,_=>false
def GJ:IntKind->Nat
 | .i8=>0|.i16=>1|.i32=>2|.i64=>3|.u8=>4|.u16=>5|.u32=>6|.u64=>7
def AED:AV->Option Value
 | .pv (.sc v)=>some v
 | .func (.func f) [] []=>some (.func (.func f) #[] #[])
 | _=>none
def rA:List AV->Option (List Value)
 | []=>some []
 | c::cs=>match AED c,rA cs with
  | some v,some vs=>some (v::vs)
  | _,_=>none
def AN2:AV->Option Value
 | .agg cs=>match rA cs with
  | some vs=>some (.agg vs.toArray)
  | none=>none
 | c=>AED c
def AB3:Value->AV
 | .func fn a b=>.func fn (a.toList.map J1) (b.toList.map J1)
 | v=>J1 v
def AN3:Value->AV
 | .agg cs=>.agg (cs.toList.map AB3)
 | .func fn a b=>.func fn (a.toList.map J1) (b.toList.map J1)
 | v=>Ms v
def jP (k:List UInt8):List MapEntry->Nat->Option (Option (Nat×Value))
 | [],_=>some none
 | e::es,i=>match e.key with
  | .string b=>bif FU k b.data.toList then some (some (i,e.val)) else jP k es (i+1)
  | _=>none
def rC (P:Program) (t:TypeId) (k:Value) (es:List MapEntry):Option (Option (Nat×Value)):=
 match P.underlying t with
 | some (.int i)=>Instr.findNow (.int i) k es 0
 | some .string=>match k with
  | .string b=>jP b.data.toList es 0
  | _=>none
 | _=>none
def XK (s:AM):AV->Option (List MapEntry×Nat)
 | .G8 id=>match s.bs[id]? with
  | some [.N8 es clock]=>some (es,clock)
  | _=>none
 | _=>none
def AUa (P:Program) (s:AM) (t:TypeId) (m k:AV) (commaOk:Bool):Option AV:=
 match P.underlying t,XK s m,HJ k with
 | some (.map kt elem),some (es,_),some key=>match rC P kt key es with
  | some (some (_,v))=>some (bif commaOk then .tuple [AN3 v,J1 (.bool true)] else AN3 v)
  | some none=>match P.info? elem with
   | some i=>match i.zero with
    | some z=>some (bif commaOk then .tuple [ofConst z,J1 (.bool false)] else ofConst z)
    | none=>none
   | none=>none
  | none=>none
 | _,_,_=>none
def XL (L:A8) (s:AM) (es:List MapEntry) (clock:Nat):AV->Option AM
 | .G8 id=>bif Nat.ble L.ro id then some { s with bs:=s.bs.set id [.N8 es clock] } else none
 | _=>none
def AIj (P:Program) (L:A8) (s:AM) (t:TypeId) (m k x:AV):Option AM:=
 match P.underlying t,XK s m,HJ k,AN2 x with
 | some (.map kt _),some (es,clock),some key,some v=>match rC P kt key es with
  | some (some (i,_))=>match (es[i]?).map (·.key) with
   | some old=>bif Instr.sameBits 10000 old key then XL L s (es.modify i λe=>{ e with key:=key,val:=v }) clock m else none
   | none=>none
  | some none=>XL L s (es++[{ key:=key,val:=v,born:=clock }]) (clock+1) m
  | none=>none
 | _,_,_,_=>none
def AUb (P:Program) (L:A8) (s:AM) (t:TypeId) (m k:AV):Option AM:=
 match P.underlying t,XK s m,HJ k with
 | some (.map kt _),some (es,clock),some key=>match rC P kt key es with
  | some (some (i,_))=>XL L s (es.eraseIdx i) clock m
  | some none=>XL L s es clock m
  | none=>none
 | _,_,_=>none
def Kv:List UInt8->List UInt8->Bool
 | _,[]=>false
 | [],_::_=>true
 | a::x,b::y=>Nat.blt a.toNat b.toNat||(Nat.beq a.toNat b.toNat&&Kv x y)
def XM (k:IntKind) (op:BinOp) (a b:Nat):Option Value:=match op with
 | .eql=>some (.bool (Nat.beq a b))
 | .neq=>some (.bool (!Nat.beq a b))
 | .lss=>some (.bool (Nat.blt a b))
 | .leq=>some (.bool (Nat.ble a b))
 | .gtr=>some (.bool (Nat.blt b a))
 | .geq=>some (.bool (Nat.ble b a))
 | .add=>bif Nat.beq (GJ k) 3&&Nat.blt (a+b) 9223372036854775808 then some (.int .i64 (.ofNat (a+b))) else none
 | .sub=>bif Nat.beq (GJ k) 3&&(Nat.ble b a&&Nat.blt a 9223372036854775808) then some (.int .i64 (.ofNat (a-b))) else none
 | _=>none
def XN (op:BinOp) (a b:List UInt8):Option Value:=match op with
 | .eql=>some (.bool (FU a b))
 | .neq=>some (.bool (!FU a b))
 | .lss=>some (.bool (Kv a b))
 | .leq=>some (.bool (Kv a b||FU a b))
 | .gtr=>some (.bool (!(Kv a b||FU a b)))
 | .geq=>some (.bool (!Kv a b))
 | _=>none
def Ik (op:BinOp):AV->AV->Option Value
 | .pv (.sc (.int k (.ofNat a))),.pv (.sc (.int k' (.ofNat b)))=>bif Nat.beq (GJ k) (GJ k') then XM k op a b else none
 | .pv (.sc (.string a)),.pv (.sc (.string b))=>XN op a.data.toList b.data.toList
 | _,_=>none
def XO (op:UnOp):AV->Option Value
 | .pv (.sc (.bool b))=>match op with
  | .not=>some (.bool !b)
  | _=>none
 | _=>none
def MR (P:Program) (t:TypeId):AV->AV->Option Value
 | .pv (.sc (.string b)),.pv (.sc (.int _ (.ofNat n)))=>match P.underlying t,b.data.toList[n]? with
  | some .string,some c=>some (.int .u8 c.toNat)
  | _,_=>none
 | _,_=>none
def MS (P:Program) (t:TypeId):AV->Option Value
 | .pv (.sc (.string b))=>match P.underlying t with
  | some .string=>some (.int .i64 (.ofNat b.data.toList.length))
  | _=>none
 | _=>none
def Cc (E:Env) (L:A8) (ρ:Nat->AV) (s:AM) (o:Oper):Option (AV×AM):=
 let q (r:Option AV):Option (AV×AM):=match r with|some v=>some (v,s)|none=>none
 match o.op with
 | .move x|.assign x=>some (Ag ρ x,s)
 | .pick c a b=>match Ag ρ c with
  | .pv (.sc (.bool t))=>some (bif t then Ag ρ a else Ag ρ b,s)
  | _=>none
 | .alloc t=>match zeroOf E.P t with
  | some z=>some (G9 s (Mt E s.bs.length t z))
  | none=>none
 | .box t x=>if (cellsOf (Ag ρ x)).all A9 then some (G9 s (Mt E s.bs.length t (cellsOf (Ag ρ x)))) else none
 | .build t parts=>q (Rv E.P t (parts.toList.map λp=>(p.1,Ag ρ p.2)))
 | .buildSlice t len parts=>Gj E.P L s t len (parts.toList.map λp=>(p.1,Ag ρ p.2))
 | .load t a=>q (Ru E s t (Ag ρ a))
 | .store t a x=>match M8 E L s t (Ag ρ a) (Ag ρ x) with
  | some s'=>some (.tuple [],s')
  | none=>none
 | .nilCheck x=>q (KE s (Ag ρ x))
 | .fieldAddr t x f=>q (HT E.P s t (Ag ρ x) f)
 | .field t x f=>q (Rw E.P t (Ag ρ x) f)
 | .indexAddr t x i=>q (HU E.P s t (Ag ρ x) (Ag ρ i))
 | .extract t i=>q (Ld (Ag ρ t) i)
 | .makeFunc fn first captured=>some (.func fn (first.toList.map (Ag ρ)) (captured.toList.map (Ag ρ)),s)
 | .makeInterface t x=>match E.P.underlying t with
  | some (.interface _)=>none
  | some _=>some (.iface t (Ag ρ x),s)
  | none=>none
 | .slice t x lo hi mx=>
  match PC E.P s t (Ag ρ x) (lo.map (Ag ρ)) (hi.map (Ag ρ)) (mx.map (Ag ρ)) with
  | some v=>some (v,s)
  | none=>q (Cw E ρ o)
 | .call { callee:=.builtin .len,args:=args,argTypes:=ts }=>
  match args.toList,ts.toList with
  | [x],[t]=>match MS E.P t (Ag ρ x) with
   | some v=>some (J1 v,s)
   | none=>match E.P.underlying t,A7 s (Ag ρ x) with
    | some (.slice _),some n=>some (J1 (.int .i64 n),s)
    | _,_=>q (Cw E ρ o)
  | _,_=>none
 | .call { callee:=.builtin .append,args:=args,argTypes:=ts }=>
  match args.toList,ts.toList with
  | [x,y],t::u::_=>match E.P.underlying u with
   | some (.int _)=>none
   | some _=>Ij E.P L s t (Ag ρ x) (Ag ρ y)
   | none=>none
  | _,_=>none
 | .call { callee:=.builtin .delete,.. }=>none
 | .call { callee:=.builtin _,.. }=>q (Cw E ρ o)
 | .binOp op t x y _=>match Ik op (Ag ρ x) (Ag ρ y) with
  | some v=>some (J1 v,s)
  | none=>match II E.P s ρ op t x y with
   | some v=>some (v,s)
   | none=>q (Cw E ρ o)
 | .convert _ _ _=>q (Cw E ρ o)
 | .unOp op _ x=>match XO op (Ag ρ x) with
  | some v=>some (J1 v,s)
  | none=>q (Cw E ρ o)
 | .index t x i=>match MR E.P t (Ag ρ x) (Ag ρ i) with
  | some v=>some (J1 v,s)
  | none=>q (Cw E ρ o)
 | _=>none
def AIk (E:Env) (ρ:Nat->AV) (s:AM) (t:TypeId) (a:Operand):Option (AV×AM):=match Ru E s t (Ag ρ a) with
 | some v=>some (v,s)
 | none=>none
def ZJ (E:Env) (ρ:Nat->AV) (s:AM) (t:TypeId) (x:Operand) (f:Nat):Option (AV×AM):=match HT E.P s t (Ag ρ x) f with
 | some v=>some (v,s)
 | none=>none
def AB4 (E:Env) (ρ:Nat->AV) (s:AM) (t:TypeId) (x:Operand) (f:Nat):Option (AV×AM):=match Rw E.P t (Ag ρ x) f with
 | some v=>some (v,s)
 | none=>none
def ZK (E:Env) (ρ:Nat->AV) (s:AM) (t:TypeId) (x i:Operand):Option (AV×AM):=match HU E.P s t (Ag ρ x) (Ag ρ i) with
 | some v=>some (v,s)
 | none=>none
def nL (ρ:Nat->AV) (s:AM) (x:Operand) (i:Nat):Option (AV×AM):=match Ld (Ag ρ x) i with
 | some v=>some (v,s)
 | none=>none
def AB5 (E:Env) (ρ:Nat->AV) (s:AM) (t:TypeId) (parts:Array (Nat×Operand)):Option (AV×AM):=match Rv E.P t (parts.toList.map λp=>(p.1,Ag ρ p.2)) with
 | some v=>some (v,s)
 | none=>none
def AB6 (E:Env) (L:A8) (ρ:Nat->AV) (s:AM) (t:TypeId) (a x:Operand):Option (AV×AM):=match M8 E L s t (Ag ρ a) (Ag ρ x) with
 | some s'=>some (.tuple [],s')
 | none=>none
def AN4 (E:Env) (ρ:Nat->AV) (s:AM) (o:Oper) (op:BinOp) (t:TypeId) (x y:Operand):Option (AV×AM):=match Ik op (Ag ρ x) (Ag ρ y) with
 | some v=>some (J1 v,s)
 | none=>match II E.P s ρ op t x y with
  | some v=>some (v,s)
  | none=>match Cw E ρ o with
   | some v=>some (v,s)
   | none=>none
def opF (E:Env) (L:A8) (ρ:Nat->AV) (s:AM) (o:Oper):Option (AV×AM):=match o.op with
 | .move x=>some (Ag ρ x,s)
 | .assign x=>some (Ag ρ x,s)
 | .load t a=>AIk E ρ s t a
 | .fieldAddr t x f=>ZJ E ρ s t x f
 | .field t x f=>AB4 E ρ s t x f
 | .indexAddr t x i=>ZK E ρ s t x i
 | .extract x i=>nL ρ s x i
 | .build t parts=>AB5 E ρ s t parts
 | .store t a x=>AB6 E L ρ s t a x
 | .binOp op t x y _=>AN4 E ρ s o op t x y
 | _=>Cc E L ρ s o
theorem rD (E:Env) (L:A8) (ρ:Nat->AV) (s:AM) (o:Oper):opF E L ρ s o=Cc E L ρ s o:=by
 obtain⟨dst,op,type,pos,after,guard⟩:=o;cases op <;> rfl
def Kw (ρ:Nat->AV) (c:Call):Option (FuncId×List AV):=
 match c.callee with
 | .value f=>match Ag ρ f with
  | .func (.func g) first captured=>some (g,first++c.args.toList.map (Ag ρ)++captured)
  | _=>none
 | _=>none
inductive Out where
 | norm|exit (id:Nat)|ret
def N9 (ops:Array Oper) (o:Oper):Option Nat:=match o.guard with
 | none=>none
 | some (j,_)=>match ops[j]? with
  | some p=>p.dst
  | none=>none
def E9 (ops:Array Oper) (ρ:Nat->AV) (o:Oper):Option Bool:=
 match o.guard with
 | none=>some true
 | some (_,want)=>match N9 ops o with
  | some d=>match ρ d with
   | .pv (.sc (.bool b))=>some (b==want)
   | .tuple []=>some false
   | _=>none
  | none=>some false
def KF (st:St) (d:Option Nat) (v:AV):Option St:=
 match d with
 | none=>some st
 | some d=>bif Nat.blt d st.N then some { st with ρ:=upd st.ρ d v } else none
abbrev Cr:=FuncId->List AV->AM->Option (AV×AM)
def nM (E:Env) (L:A8) (cf:Cr) (ρ:Nat->AV) (s:AM) (o:Oper):Option (AV×AM):=
 match o.op with
 | .call c=>match c.callee with
  | .builtin _=>Cc E L ρ s o
  | _=>match Kw ρ c with
   | some (f,args)=>cf f args s
   | none=>none
 | _=>Cc E L ρ s o
def M9 (E:Env) (L:A8) (cf:Cr) (ρ:Nat->AV) (s:AM) (o:Oper):Option (AV×AM):=
 match o.op with
 | .call c=>match c.callee with
  | .builtin _=>Cc E L ρ s o
  | _=>match Kw ρ c with
   | some (f,args)=>cf f args s
   | none=>none
 | _=>opF E L ρ s o
theorem OA (E:Env) (L:A8) (cf:Cr) (ρ:Nat->AV) (s:AM) (o:Oper):M9 E L cf ρ s o=nM E L cf ρ s o:=by
 unfold M9 nM;simp only[rD]
def Mu (E:Env) (L:A8) (cf:Cr) (st:St) (o:Oper):Option St:=
 match M9 E L cf st.ρ st.s o with
 | some (v,s)=>KF { st with s:=s } o.dst v
 | none=>none
def LM:Operand->Nat->Bool
 | .tmp t,d=>Nat.beq t d
 | _,_=>false
structure JB where
 t:TypeId
 x:Operand
 y:Operand
 d:Nat
 ix:Operand
 p:Nat
 te:TypeId
 v:Operand
def fused (o o1 o2:Oper):Option JB:=
 match o.op,o.dst,o1.op,o1.dst,o2.op,o2.dst with
 | .call { callee:=.builtin .append,args:=args,argTypes:=ts },some d,.indexAddr t1 (.tmp d1) ix,some p,.store te (.tmp p1) v,none=>
  match args.toList,ts.toList with
  | [x,y],[t,t']=>if d1=d/\p1=p/\t1=t/\t'=t/\d≠p/\o.guard.isNone=true/\o1.guard.isNone=true/\o2.guard.isNone=true/\LM ix d=false/\LM v d=false/\LM v p=false/\LM x d=false/\LM y d=false/\LM x p=false/\LM y p=false/\LM ix p=false then
    some ⟨t,x,y,d,ix,p,te,v⟩ else none
  | _,_=>none
 | _,_,_,_,_,_=>none
def KG (L:A8) (s:AM) (elem:TypeId) (i:TypeInfo) (x:AV) (row:List PV):Option (AV×AM):=
 match x with
 | .AB rows=>
  if (rows.length+1)*i.bytes<=2 ^ 45/\rows.length+1<=2 ^ 45/\(rows.all λr=>r.length==i.size)=true then
   some (.own s.ts.length (rows++[row]),{ s with ts:=s.ts++[(rows.length+1,elem)] })
  else none
 | .own k rows=>
  if (rows.length+1)*i.bytes<=2 ^ 45/\rows.length+1<=2 ^ 45/\s.ts[k]?=some (rows.length,elem)/\L.rt<=k/\(rows.all λr=>r.length==i.size)=true then
   some (.own k (rows++[row]),{ s with ts:=s.ts.set k (rows.length+1,elem) })
  else none
 | _=>none
def JC (E:Env) (L:A8) (ρ:Nat->AV) (s:AM) (k:JB):Option (AV×AM):=
 match E.P.underlying k.t with
 | some (.slice elem)=>
  if L.mu elem=false/\k.te=elem then
   match E.P.info? elem,rowsOf (Ag ρ k.x),rowsOf (Ag ρ k.y),HA (Ag ρ k.ix),Cm (cellsOf (Ag ρ k.v)) with
   | some i,some rows,some [z],some n,some row=>
    if n=rows.length/\z.length=i.size/\row.length=i.size/\(cellsOf (Ag ρ k.v)).all A9=true/\(z.map AV.pv).all A9=true/\i.size≠0/\(zeroOf E.P elem).map List.length=some i.size then
     KG L s elem i (Ag ρ k.x) row
    else none
   | _,_,_,_,_=>none
  else none
 | _=>none
def VA (E:Env) (L:A8) (ρ:Nat->AV) (s:AM) (k:JB):Option (AV×AM):=
 match E.P.underlying k.t with
 | some (.slice elem)=>
  if L.mu elem=true/\k.te=elem then
   match E.P.info? elem,Ag ρ k.x,HA (Ag ρ k.ix) with
   | some i,.ref id off len sz,some n=>match Cx s i.size (Ag ρ k.y),s.bs[id]? with
    | some zs,some old=>
     if n=len/\zs.length=i.size/\(cellsOf (Ag ρ k.v)).length=i.size/\(cellsOf (Ag ρ k.v)).all A9=true/\zs.all A9=true/\i.size≠0/\(zeroOf E.P elem).map List.length=some i.size /\
       off=0/\sz=i.size/\len*sz<=old.length/\alive s id=true/\(len+1)*i.bytes<=2 ^ 45/\len+1<=2 ^ 45/\L.ro<=id then
      some (.ref s.bs.length 0 (len+1) sz,{ s with bs:=s.bs.set id []++[old.take (len*sz)++cellsOf (Ag ρ k.v)] })
     else none
    | _,_=>none
   | _,_,_=>none
  else none
 | _=>none
def KH (E:Env) (L:A8) (ρ:Nat->AV) (s:AM) (k:JB):Option (AV×AM):=match JC E L ρ s k with
 | some r=>some r
 | none=>VA E L ρ s k
def J2 (st:St) (k:JB) (v:AV) (s:AM):Option St:=
 match KF { st with s:=s } (some k.d) v with
 | some st=>KF st (some k.p) .Gw
 | none=>none
def IJ (E:Env) (L:A8) (cf:Cr) (ops:Array Oper):List Oper->St->Option St
 | [],st=>some st
 | o::rest,st=>
  let one:Option St:=match E9 ops st.ρ o with
   | some true=>match Mu E L cf st o with
    | some st=>IJ E L cf ops rest st
    | none=>none
   | some false=>match KF st o.dst (.tuple []) with
    | some st=>IJ E L cf ops rest st
    | none=>none
   | none=>none
  match rest with
  | o1::o2::rest'=>match fused o o1 o2 with
   | some k=>match JC E L st.ρ st.s k with
    | some (v,s)=>match J2 st k v s with
     | some st=>IJ E L cf ops rest' st
     | none=>none
    | none=>one
   | none=>one
  | _=>one
def hcells (E:Env) (ρ:Nat->AV) (o:Oper):Option (List AV×(Nat->AV)):=
 match o.op with
 | .alloc t=>match zeroOf E.P t with
  | some z=>bif E.bz t then none else some (z,λid=>.ptr id 0)
  | none=>none
 | .makeSlice t l c=>match E.P.underlying t,Ag ρ l,Ag ρ c with
  | some (.slice elem),.pv (.sc (.int .i64 l)),.pv (.sc (.int .i64 c))=>match E.P.info? elem,zeroOf E.P elem with
   | some i,some z=>
    if 0<l/\l=c/\c<=2 ^ 40/\c*i.bytes<=2 ^ 45/\z.length=i.size/\i.size≠0 then some (FY l.toNat z,λid=>.ref id 0 l.toNat i.size)
    else none
   | _,_=>none
  | _,_,_=>none
 | _=>none
def IK:AV->Option Nat
 | .ptr id _=>some id
 | .ref id _ _ _=>some id
 | _=>none
def ZL:Int->Int->Bool
 | .ofNat a,.ofNat b=>Nat.beq a b
 | .negSucc a,.negSucc b=>Nat.beq a b
 | _,_=>false
def eqV:Value->Value->Bool
 | .int k n,.int k' n'=>Nat.beq (GJ k) (GJ k')&&ZL n n'
 | .bool a,.bool b=>a==b
 | .string a,.string b=>FU a.data.toList b.data.toList
 | .pointer none,.pointer none=>true
 | .nilFunc,.nilFunc=>true
 | .nilIface,.nilIface=>true
 | .map none,.map none=>true
 | .slice none a b,.slice none c d=>Nat.beq a c&&Nat.beq b d
 | _,_=>false
mutual
def Mm:PV->PV->Bool
 | .sc a,.sc b=>eqV a b
 | .list a,.list b=>IV a b
 | _,_=>false
def Le:List PV->List PV->Bool
 | [],[]=>true
 | a::xs,b::ys=>Mm a b&&Le xs ys
 | _,_=>false
def IV:List (List PV)->List (List PV)->Bool
 | [],[]=>true
 | a::xs,b::ys=>Le a b&&IV xs ys
 | _,_=>false
end
def nN:List MapEntry->List MapEntry->Bool
 | [],[]=>true
 | a::xs,b::ys=>eqV a.key b.key&&eqV a.val b.val&&Nat.beq a.born b.born&&nN xs ys
 | _,_=>false
mutual
def Bg:AV->AV->Bool
 | .pv a,.pv b=>Mm a b
 | .ptr a b,.ptr c d=>Nat.beq a c&&Nat.beq b d
 | .DS a b,.DS c d=>Nat.beq a c&&Nat.beq b d
 | .Cq a b,.Cq c d=>Le a c&&Nat.beq b d
 | .AB a,.AB b=>IV a b
 | .own t a,.own u b=>Nat.beq t u&&IV a b
 | .ref a b c d,.ref a' b' c' d'=>Nat.beq a a'&&Nat.beq b b'&&Nat.beq c c'&&Nat.beq d d'
 | .func (.func f) a b,.func (.func g) c d=>Nat.beq f g&&Hx a c&&Hx b d
 | .iface t a,.iface u b=>Nat.beq t u&&Bg a b
 | .agg a,.agg b=>Hx a b
 | .tuple a,.tuple b=>Hx a b
 | .Gw,.Gw=>true
 | .G8 a,.G8 b=>Nat.beq a b
 | .N8 a c,.N8 b d=>nN a b&&Nat.beq c d
 | .bz a t n,.bz b u m=>Nat.beq a b&&Nat.beq t u&&Nat.beq n m
 | _,_=>false
def Hx:List AV->List AV->Bool
 | [],[]=>true
 | a::xs,b::ys=>Bg a b&&Hx xs ys
 | _,_=>false
end
def ER (E:Env) (L:A8) (ρ:Nat->AV) (s:AM) (o:Oper):Option AV:=
 match o.op with
 | .alloc _|.box _ _|.store _ _ _|.makeMap _ _|.mapUpdate _ _ _ _|.insert _ _ _ _=>none
 | .makeSlice _ _ _=>match Cc E L ρ s o with
  | some (.AB [],_)=>some (.AB [])
  | _=>none
 | .call { callee:=.builtin .delete,.. }=>none
 | .buildSlice t _ _=>match E.P.underlying t with
  | some (.slice elem)=>bif L.mu elem then none else match Cc E L ρ s o with
   | some (v,_)=>some v
   | none=>none
  | _=>none
 | .call { callee:=.builtin .append,.. }=>none
 | _=>match Cc E L ρ s o with
  | some (v,_)=>some v
  | none=>none
def JD (E:Env) (L:A8) (ρ:Nat->AV) (s:AM) (o:Oper):Option AV:=
 match o.op with
 | .alloc _|.box _ _|.store _ _ _|.makeMap _ _|.mapUpdate _ _ _ _|.insert _ _ _ _=>none
 | .makeSlice _ _ _=>match Cc E L ρ s o with
  | some (.AB [],_)=>some (.AB [])
  | _=>none
 | .call { callee:=.builtin .delete,.. }=>none
 | .buildSlice t _ _=>match E.P.underlying t with
  | some (.slice elem)=>bif L.mu elem then none else match Cc E L ρ s o with
   | some (v,_)=>some v
   | none=>none
  | _=>none
 | .call { callee:=.builtin .append,.. }=>none
 | _=>match opF E L ρ s o with
  | some (v,_)=>some v
  | none=>none
theorem KI (E:Env) (L:A8) (ρ:Nat->AV) (s:AM) (o:Oper):JD E L ρ s o=ER E L ρ s o:=by
 unfold JD ER;simp only[rD]
def FA (E:Env) (L:A8) (ops:Array Oper) (ρ:Nat->AV) (s:AM) (o:Oper):Option AV:=
 match E9 ops ρ o with
 | some true=>JD E L ρ s o
 | some false=>some (.tuple [])
 | none=>none
def NA (E:Env) (L:A8) (cf:Cr) (ops:Array Oper) (ρ:Nat->AV) (s:AM) (o:Oper):Option (AV×AM):=
 match E9 ops ρ o with
 | some true=>M9 E L cf ρ s o
 | some false=>some (.tuple [],s)
 | none=>none
def JE (E:Env) (L:A8) (ops:Array Oper) (cls:List dW):List Nat->St->Option St
 | [],st=>some st
 | i::rest,st=>match ops[i]?,cls[i]? with
  | some o,some (.q _)=>match FA E L ops st.ρ st.s o with
   | some v=>match KF st o.dst v with
    | some st=>JE E L ops cls rest st
    | none=>none
   | none=>none
  | some o,some (.h _)=>match hcells E st.ρ o with
   | some (cs,mk)=>match KF { st with s:={ st.s with bs:=st.s.bs++[cs] } } o.dst (mk st.s.bs.length) with
    | some st=>JE E L ops cls rest st
    | none=>none
   | none=>none
  | _,_=>none
def HB (E:Env) (L:A8) (cf:Cr) (ops:Array Oper) (cls:List dW):List Nat->St->List AM->Option (St×List AM)
 | [],st,acc=>some (st,acc)
 | i::rest,st,acc=>match ops[i]?,cls[i]? with
  | some o,some (.q _)=>match FA E L ops st.ρ st.s o with
   | some v=>match KF st o.dst v with
    | some st=>HB E L cf ops cls rest st acc
    | none=>none
   | none=>none
  | some o,some (.w _)=>match NA E L cf ops st.ρ st.s o with
   | some (v,s)=>match KF { st with s:=s } o.dst v with
    | some st=>HB E L cf ops cls rest st (s::acc)
    | none=>none
   | none=>none
  | some o,some (.fa _ j x)=>match ops[j]?,ops[x]? with
   | some o1,some o2=>match fused o o1 o2 with
    | some k=>match KH E L st.ρ st.s k with
     | some (v,s)=>match J2 st k v s with
      | some st=>HB E L cf ops cls rest st (s::acc)
      | none=>none
     | none=>none
    | none=>none
   | _,_=>none
  | some _,some .fj=>HB E L cf ops cls rest st acc
  | some _,some .fx=>HB E L cf ops cls rest st acc
  | _,_=>none
def HO (GQ:List (List Nat)) (i:Nat):List Nat:=match GQ[i]? with
 | some l=>l
 | none=>[]
def has (l:List Nat) (x:Nat):Bool:=l.any λy=>Nat.beq y x
def FV (GQ:List (List Nat)) (ρ0 ρf:Nat->AV) (i t:Nat):AV:=bif has (HO GQ i) t then ρ0 t else ρf t
def dY (E:Env) (L:A8) (ops:Array Oper) (cls:List dW) (GQ:List (List Nat)) (ρ0 ρf:Nat->AV) (σ:List AM):List (Nat×Nat)->Bool
 | []=>true
 | (i,k)::rest=>(match ops[i]?,cls[i]?,σ[k]? with
  | some o,some (.q _),some s=>match FA E L ops (FV GQ ρ0 ρf i) s o with
   | some v=>match o.dst with
    | some d=>Bg v (ρf d)
    | none=>true
   | none=>false
  | some o,some (.h _),some s=>match hcells E (FV GQ ρ0 ρf i) o,o.dst with
   | some (cs,_),some d=>match IK (ρf d) with
    | some id=>match s.bs[id]? with
     | some cs'=>Hx cs' cs
     | none=>false
    | none=>false
   | _,_=>false
  | _,_,_=>false)&&dY E L ops cls GQ ρ0 ρf σ rest
def QO (ops:Array Oper) (p:Bb) (ρ0 ρf:Nat->AV) (FB:Nat):List Nat->Bool
 | []=>true
 | m::rest=>(match ops[m]?,p.cls[m]? with
  | some om,some (.w _)=>match om.op with
   | .store _ y _=>match Ag (FV p.GQ ρ0 ρf m) y with
    | .ptr id _=>!(Nat.beq id FB)
    | _=>true
   | _=>true
  | _,_=>true)&&QO ops p ρ0 ρf FB rest
def Qx (E:Env) (L:A8) (ops:Array Oper) (i j x:Nat):Bool:=match ops[i]?,ops[j]?,ops[x]? with
 | some o,some o1,some o2=>match fused o o1 o2 with
  | some k=>match E.P.underlying k.t with
   | some (.slice elem)=>L.mu elem
   | _=>false
  | none=>false
 | _,_,_=>false
def rF (E:Env) (L:A8) (ops:Array Oper) (cls:List dW):List Nat->Bool
 | []=>true
 | i::rest=>(match cls[i]? with
  | some (.fa _ j x)=>!(Qx E L ops i j x)
  | _=>true)&&rF E L ops cls rest
def Rx (E:Env) (L:A8) (ops:Array Oper) (p:Bb) (ρ0 ρf:Nat->AV):List Nat->Bool
 | []=>true
 | i::rest=>(match p.cls[i]? with
  | some (.fa _ j x)=>bif Qx E L ops i j x then match ops[i]? with
   | some o=>match o.dst with
    | some d=>match ρf d with
     | .ref FB _ _ _=>QO ops p ρ0 ρf FB p.rest
     | _=>true
    | none=>true
   | none=>true
   else true
  | _=>true)&&Rx E L ops p ρ0 ρf rest
def VB (E:Env) (L:A8) (ops:Array Oper) (p:Bb) (ρ0 ρf:Nat->AV):Bool:=rF E L ops p.cls p.rest||Rx E L ops p ρ0 ρf p.rest
def XP (E:Env) (L:A8) (cf:Cr) (p:Bb) (ops:Array Oper) (st0:St):Option St:=
 match JE E L ops p.cls p.first st0 with
 | some st=>match HB E L cf ops p.cls p.rest st [st.s] with
  | some (st,acc)=>bif dY E L ops p.cls p.GQ st0.ρ st.ρ acc.reverse p.XG&&VB E L ops p st0.ρ st.ρ then some st else none
  | none=>none
 | none=>none
def Jm (E:Env) (L:A8) (cf:Cr) (ops:Array Oper) (st:St):Option Bb->Option St
 | some p=>XP E L cf p ops st
 | none=>none
def rG (E:Env) (L:A8) (ops:Array Oper) (st:St) (p q:Option Bb):Option Bb:=match p with
 | some p=>match JE E L ops p.cls p.first st with
  | some _=>some p
  | none=>q
 | none=>q
def initρ:List AV->Nat->AV
 | [],_=>.tuple []
 | v::_,0=>v
 | _::vs,n+1=>initρ vs n
def MT (E:Env) (st:St):ResultVar->Option AV
 | .tmp t=>some (st.ρ t)
 | .cell a t=>Ru E st.s t (st.ρ a)
def Fb (E:Env) (st:St):List ResultVar->Option (List AV)
 | []=>some []
 | r::rs=>match MT E st r,Fb E st rs with
  | some v,some vs=>some (v::vs)
  | _,_=>none
def KJ:List AV->AV
 | [v]=>v
 | vs=>.tuple vs
def OB:Code->Bool
 | .rangeFunc _ _ _ _=>false
 | .seq a b=>OB a&&OB b
 | .cond _ a b=>OB a&&OB b
 | .block _ b=>OB b
 | .loop b=>OB b
 | _=>true
def AZ9 (P:Program) (el:TypeId) (row:List PV):Option AV:=
 if D3 P el=some row.length/\row.length≠0 then partOf P el (row.map .pv) 0 else none
def LZ (E:Env) (cf:A8->Cr):Nat->A8->Code->St->Option (Out×St)
 | 0,_,_,_=>none
 | n+1,L,c,st=>match c with
  | .skip=>some (.norm,st)
  | .ret=>some (.ret,st)
  | .exit id=>some (.exit id,st)
  | .region _ ops false=>match IJ E L (cf L) ops ops.toList st with
   | some st=>some (.norm,st)
   | none=>none
  | .region id ops true=>match Jm E L (cf L) ops st (rG E L ops st (L.pl id) (L.pl (id+1000000))) with
   | some st=>some (.norm,st)
   | none=>none
  | .seq a b=>match LZ E cf n L a st with
   | some (.norm,st)=>LZ E cf n L b st
   | r=>r
  | .cond c a b=>match Ag st.ρ c with
   | .pv (.sc (.bool t))=>LZ E cf n L (bif t then a else b) st
   | _=>none
  | .block id b=>match LZ E cf n L b st with
   | some (.exit j,st)=>bif Nat.beq j id then some (.norm,st) else some (.exit j,st)
   | r=>r
  | .loop b=>match LZ E cf n L b st with
   | some (.norm,st)=>LZ E cf n L (.loop b) st
   | r=>r
  | _=>none
def JF (E:Env) (cf:A8->Cr) (n:Nat) (fn:Func) (L:A8) (args:List AV) (s:AM):Option (AV×AM):=
 match fn.body with
 | none=>none
 | some body=>match LZ E cf n L body ⟨fn.ntmps,initρ args,s⟩ with
  | some (.exit _,_)=>none
  | some (_,st)=>match Fb E st fn.results.toList with
   | some vs=>some (KJ vs,st.s)
   | none=>none
  | none=>none
mutual
def Ar (n:Nat):AV->Bool
 | .ptr id _|.ref id _ _ _|.G8 id|.bz id _ _=>Nat.blt id n
 | .func _ first captured=>Ab n first&&Ab n captured
 | .iface _ v=>Ar n v
 | .agg cs=>Ab n cs
 | .tuple vs=>Ab n vs
 | _=>true
def Ab (n:Nat):List AV->Bool
 | []=>true
 | c::cs=>Ar n c&&Ab n cs
end
def HV (r:Bool) (n:Nat):AV->Option (Nat×Nat×Nat×Nat)
 | .ref id off len sz=>bif r&&Nat.ble n id then some (id,off,len,sz) else none
 | _=>none
def HP (r:Bool) (n:Nat) (v:AV) (s:AM):Option (AV×AM):=
 bif (s.bs.take n).all (Ab n) then match HV r n v with
  | some (id,off,len,sz)=>match s.bs[id]? with
   | some (c::cs)=>bif Ab n (c::cs) then some (.ref n off len sz,⟨s.bs.take n++[c::cs],s.ts⟩) else none
   | _=>none
  | none=>match close s.bs n s.ts.length v with
   | some v=>some (v,⟨s.bs.take n,s.ts⟩)
   | none=>none
 else none
def IW (E:Env) (cf:A8->Cr) (n:Nat) (f:FuncId) (fn:Func) (args:List AV) (s:AM):Option (AV×AM):=
 match JF E cf n fn ⟨0,0,0,E.mu f,E.rr f,E.plan f⟩ args ⟨[],[]⟩ with
 | some (v,s')=>match close s'.bs 0 0 v with
  | some v=>some (v,s)
  | none=>none
 | none=>none
def D5 (E:Env) (cf:A8->Cr) (n:Nat) (L:A8) (f:FuncId) (fn:Func) (args:List AV) (s:AM):Option (AV×AM):=
 if args.length<=fn.ntmps then
  match E.kind f with
  | .esc=>JF E cf n fn { L with mu:=E.mu f,rr:=E.rr f,pl:=E.plan f } args s
  | .rd=>match AY [] 0 0 args with
   | some args=>IW E cf n f fn args s
   | none=>match JF E cf n fn ⟨s.bs.length,s.bs.length,s.ts.length,E.mu f,E.rr f,E.plan f⟩ args s with
    | some (v,s')=>match close s'.bs s.bs.length s.ts.length v with
     | some v=>some (v,s)
     | none=>none
    | none=>none
  | k=>bif (match k with|.im=>Bi args|_=>false) then IW E cf n f fn args s else
   match JF E cf n fn ⟨0,L.ro,L.rt,E.mu f,E.rr f,E.plan f⟩ args s with
   | some (v,s')=>HP (L.rr f) s.bs.length v s'
   | none=>none
 else none
def JG:List AV->Bool
 | [x]=>match rowsOf x with
  | some []=>true
  | _=>false
 | _=>false
def OC (E:Env) (L:A8) (f:FuncId) (args:List AV) (s:AM) (r:Option (AV×AM)):Option (AV×AM):=match E.told f with
 | some T=>T L args s
 | none=>bif JG args then some (.AB [],s) else r
def Dz (E:Env):Nat->A8->Cr
 | 0,_,_,_,_=>none
 | n+1,L,f,args,s=>match E.P.funcs[f]? with
  | some fn=>bif E.clone f then OC E L f args s (D5 E (Dz E n) n L f fn args s) else D5 E (Dz E n) n L f fn args s
  | none=>none
end Go.Tel
