/-
  A deterministic evaluator for the model's code on abstract values: definitions only.
-/
import Derived.Test.YtpgfpakdnijngaaGreatDoorAl
set_option linter.all false
namespace Go.Tel
inductive PV where
 | sc (v:Value)
 | list (rows:List (List PV))
inductive AV where
 | pv (p:PV)
 | ptr (id off:Nat)
 | DM (g off:Nat)
 | C8 (row:List PV) (off:Nat)
 | AB (rows:List (List PV))
 | own (tok:Nat) (rows:List (List PV))
 | ref (id off len sz:Nat)
 | func (fn:Fn) (first captured:List AV)
 | iface (t:TypeId) (v:AV)
 | agg (cs:List AV)
 | tuple (vs:List AV)
 | Gz
 | G9 (id:Nat)
 | OI (es:List MapEntry) (clock:Nat)
 | bz (id:Nat) (t:TypeId) (n:Nat)
inductive Kind where
 | rd|im|st|esc
inductive eJ where
 | w (r:Nat)
 | q (ts:List Nat)
 | h (ts:List Nat)
 | fa (r j x:Nat)
 | fj|fx
structure BS where
 first:List Nat
 rest:List Nat
 cls:List eJ
 pre:List (List Nat)
 GI:List (List Nat)
 XZ:List (Nat×Nat)
structure A3 where
 n0:Nat
 ro:Nat
 rt:Nat
 mu:TypeId->Bool
 rr:FuncId->Bool
 pl:Nat->Option BS
structure AM where
 bs:List (List AV)
 ts:List (Nat×Nat)
structure Env where
 P:Program
 G:Nat->Option (List PV)
 kind:FuncId->Kind
 mu:FuncId->TypeId->Bool
 rr:FuncId->FuncId->Bool
 clone:FuncId->Bool
 plan:FuncId->Nat->Option BS
 told:FuncId->Option (A3->List AV->AM->Option (AV×AM)):=λ_=>none
 bz:TypeId->Bool:=λ_=>false
 back:FuncId->Option TypeId:=λ_=>none
structure St where
 N:Nat
 ρ:Nat->AV
 s:AM
abbrev Iz (v:Value):AV:=.pv (.sc v)
def Xa (ρ:Nat->AV) (i:Nat) (v:AV) (j:Nat):AV:=bif Nat.beq j i then v else ρ j
def quick (P:Program) {α:Type}:Sem α->Option α
 | .pure a=>some a
 | .program k=>quick P (k P)
 | .mark _ k=>quick P k
 | _=>none
def HJ:AV->Option Value
 | .pv (.sc v)=>some v
 | _=>none
def M5:Value->AV
 | .agg cs=>.agg (cs.toList.map Iz)
 | .tuple vs=>.tuple (vs.toList.map Iz)
 | v=>Iz v
def HR:Value->AV
 | .slice none 0 0=>.AB []
 | v=>Iz v
def ofConst:Value->AV
 | .agg cs=>.agg (cs.toList.map HR)
 | .tuple vs=>.tuple (vs.toList.map Iz)
 | v=>HR v
def AX (ρ:Nat->AV):Operand->AV
 | .tmp t=>ρ t
 | .const v=>ofConst v
 | .global g=>.DM g 0
 | .func f=>.func (.func f) [] []
def cellsOf:AV->List AV
 | .agg cs=>cs
 | v=>[v]
def Ja:AV->Option PV
 | .pv p=>some p
 | .AB rows=>some (.list rows)
 | .own _ rows=>some (.list rows)
 | _=>none
def Cm:List AV->Option (List PV)
 | []=>some []
 | c::cs=>match Ja c,Cm cs with
  | some p,some ps=>some (p::ps)
  | _,_=>none
def rowsOf:AV->Option (List (List PV))
 | .pv (.list rows)=>some rows
 | .AB rows=>some rows
 | .own _ rows=>some rows
 | _=>none
def CD (k:Nat):Nat->List PV->List (List PV)
 | 0,_=>[]
 | n+1,cs=>cs.take k::CD k n (cs.drop k)
def Me (bs:List (List AV)) (id off len sz:Nat):Option (List (List PV)):=
 match bs[id]? with
 | some cs=>if off+len*sz<=cs.length/\cs.isEmpty=false then match Cm ((cs.drop off).take (len*sz)) with
   | some ps=>some (CD sz len ps)
   | none=>none
  else none
 | none=>none
mutual
def close (bs:List (List AV)) (n m:Nat):AV->Option AV
 | .pv p=>some (.pv p)
 | .ptr id off=>if id<n then some (.ptr id off) else none
 | .DM g off=>some (.DM g off)
 | .C8 row off=>some (.C8 row off)
 | .AB rows=>some (.AB rows)
 | .own t rows=>if t<m then some (.own t rows) else some (.pv (.list rows))
 | .ref id off len sz=>if id<n then some (.ref id off len sz) else match Me bs id off len sz with
  | some rows=>some (.pv (.list rows))
  | none=>none
 | .func fn first captured=>match AU bs n m first,AU bs n m captured with
  | some a,some b=>some (.func fn a b)
  | _,_=>none
 | .iface t v=>match close bs n m v with
  | some v=>some (.iface t v)
  | none=>none
 | .agg cs=>match AU bs n m cs with
  | some cs=>some (.agg cs)
  | none=>none
 | .tuple vs=>match AU bs n m vs with
  | some vs=>some (.tuple vs)
  | none=>none
 | .Gz=>some .Gz
 | .G9 id=>if id<n then some (.G9 id) else none
 | .OI _ _=>none
 | .bz id t k=>if id<n then some (.bz id t k) else none
def AU (bs:List (List AV)) (n m:Nat):List AV->Option (List AV)
 | []=>some []
 | c::cs=>match close bs n m c,AU bs n m cs with
  | some c,some cs=>some (c::cs)
  | _,_=>none
end
mutual
def Ep:AV->Bool
 | .ptr _ _|.ref _ _ _ _|.own _ _|.G9 _|.OI _ _|.bz _ _ _=>false
 | .func _ first captured=>Bb first&&Bb captured
 | .iface _ v=>Ep v
 | .agg cs=>Bb cs
 | .tuple vs=>Bb vs
 | _=>true
def Bb:List AV->Bool
 | []=>true
 | c::cs=>Ep c&&Bb cs
end
mutual
def I7:AV->Bool
 | .ptr _ _|.ref _ _ _ _|.G9 _|.OI _ _|.bz _ _ _=>false
 | .func _ first captured=>IM first&&IM captured
 | .iface _ v=>I7 v
 | .agg cs=>IM cs
 | .tuple vs=>IM vs
 | _=>true
def IM:List AV->Bool
 | []=>true
 | c::cs=>I7 c&&IM cs
end
def Qg (s:AM) (id:Nat):Option (List AV):=s.bs[id]?
def alive (s:AM) (id:Nat):Bool:=match s.bs[id]? with
 | some (_::_)=>true
 | _=>false
def partOf (P:Program) (t:TypeId) (cs:List AV) (off:Nat):Option AV:=
 match P.underlying t,P.info? t with
 | some d,some i=>match d with
  | .struct _|.array _ _=>if off+i.size<=cs.length/\i.size≠0 then some (.agg ((cs.drop off).take i.size)) else none
  | _=>cs[off]?
 | _,_=>none
def SG (E:Env) (s:AM) (t:TypeId):AV->Option AV
 | .ptr id off=>match Qg s id with
  | some cs=>partOf E.P t cs off
  | none=>none
 | .DM g off=>match E.G g with
  | some row=>partOf E.P t (row.map .pv) off
  | none=>none
 | .C8 row off=>partOf E.P t (row.map .pv) off
 | _=>none
def setCells (cs:List AV) (off:Nat):List AV->List AV
 | []=>cs
 | v::vs=>setCells (cs.set off v) (off+1) vs
def A1:AV->Bool
 | .agg _|.tuple _|.OI _ _|.bz _ _ _=>false
 | .pv (.sc (.agg _))|.pv (.sc (.tuple _))=>false
 | _=>true
def NV (E:Env) (L:A3) (s:AM) (t:TypeId) (a x:AV):Option AM:=
 match a,E.P.info? t with
 | .ptr id off,some i=>match Qg s id with
  | some cs=>
   let vs:=cellsOf x
   if vs.length=i.size/\off+vs.length<=cs.length/\L.ro<=id/\(vs.all A1)=true/\(L.n0<=id\/IM vs=true)/\i.size≠0 then
    some { s with bs:=s.bs.set id (setCells cs off vs) } else none
  | none=>none
 | _,_=>none
def M6 (E:Env) (id:Nat) (t:TypeId) (z:List AV):List AV:=bif E.bz t then match z with
  | .pv (.sc (.pointer none))::r=>.bz id t (r.length+1)::r
  | z=>z
 else z
def G0 (s:AM) (cs:List AV):AV×AM:=(.ptr s.bs.length 0,{ s with bs:=s.bs++[cs] })
def La (place:Nat->Option (Nat×Nat)) (cells:List AV):List (Nat×AV)->Option (List AV)
 | []=>some cells
 | (i,v)::rest=>match place i with
  | none=>none
  | some (off,size)=>
   if (cellsOf v).length=size/\off+size<=cells.length/\(cellsOf v).all A1=true then
    La place (setCells cells off (cellsOf v)) rest
   else none
def zeroOf (P:Program) (t:TypeId):Option (List AV):=
 match P.info? t with
 | some i=>match i.zero with
  | some v=>some (cellsOf (ofConst v))
  | none=>none
 | none=>none
def DZ (P:Program) (t:TypeId):Option Nat:=match P.info? t with|some i=>some i.size|none=>none
def Xb (P:Program) (fields:Array Field) (i:Nat):Option (Nat×Nat):=
 match fields[i]? with
 | some f=>match DZ P f.type with|some k=>some (f.offset,k)|none=>none
 | none=>none
def SH (P:Program) (t:TypeId) (parts:List (Nat×AV)):Option AV:=
 match zeroOf P t,P.underlying t with
 | some z,some (.struct fields)=>
  match La (Xb P fields) z parts with
  | some cs=>if fields.all (λf=>(DZ P f.type).isSome) then some (.agg cs) else none
  | none=>none
 | some z,some (.array _ elem)=>
  match DZ P elem with
  | some k=>match La (λi=>some (i*k,k)) z parts with
   | some cs=>some (.agg cs)
   | none=>none
  | none=>none
 | _,_=>none
def Fz {α:Type} (n:Nat) (l:List α):List α:=match n with
 | 0=>[]
 | n+1=>l++Fz n l
def Gl (P:Program) (L:A3) (s:AM) (t:TypeId) (len:Nat) (parts:List (Nat×AV)):Option (AV×AM):=
 match P.underlying t with
 | some (.slice elem)=>match DZ P elem,zeroOf P elem with
  | some k,some z=>
   if len*k<=2 ^ 24/\z.length=k/\k≠0 then
    match La (λi=>some (i*k,k)) (Fz len z) parts with
    | some cs=>bif L.mu elem&&Nat.blt 0 len then some (.ref s.bs.length 0 len k,{ s with bs:=s.bs++[cs] })
     else match Cm cs with
     | some ps=>some (.AB (CD k len ps),s)
     | none=>none
    | none=>none
   else none
  | _,_=>none
 | _=>none
def eK (P:Program) (s:AM) (t:TypeId) (len cap:AV):Option (AV×AM):=
 match P.underlying t,len,cap with
 | some (.slice elem),.pv (.sc (.int .i64 l)),.pv (.sc (.int .i64 c))=>match P.info? elem,zeroOf P elem with
  | some i,some z=>
   if 0<=l/\l<=c/\c<=2 ^ 40/\c*i.bytes<=2 ^ 45/\z.length=i.size/\i.size≠0 then
    if c=0 then some (.AB [],s)
    else if l=c then some (.ref s.bs.length 0 l.toNat i.size,{ s with bs:=s.bs++[Fz l.toNat z] })
    else if l=0 then some (.own s.ts.length [],{ s with ts:=s.ts++[(0,elem)] })
    else none
   else none
  | _,_=>none
 | _,_,_=>none
def KF (s:AM):AV->Option AV
 | .ptr id off=>bif alive s id then some (.ptr id off) else none
 | .DM g off=>some (.DM g off)
 | .C8 r off=>some (.C8 r off)
 | .func (.func f) a b=>some (.func (.func f) a b)
 | _=>none
def HS (P:Program) (s:AM) (t:TypeId) (x:AV) (field:Nat):Option AV:=
 match P.underlying t with
 | some (.struct fields)=>match fields[field]? with
  | some f=>match DZ P f.type with
   | some k=>if k=0 then none else match x with
    | .ptr id off=>bif alive s id then some (.ptr id (off+f.offset)) else none
    | .DM g off=>some (.DM g (off+f.offset))
    | .C8 r off=>some (.C8 r (off+f.offset))
    | _=>none
   | none=>none
  | none=>none
 | _=>none
def SI (P:Program) (t:TypeId) (x:AV) (field:Nat):Option AV:=
 match P.underlying t,x with
 | some (.struct fields),.agg cs=>match fields[field]? with
  | some f=>partOf P f.type cs f.offset
  | none=>none
 | _,_=>none
def Xc:AV->Option Int
 | .pv (.sc (.int _ n))=>some n
 | _=>none
def HT (P:Program) (s:AM) (t:TypeId) (x ix:AV):Option AV:=
 match P.underlying t,Xc ix with
 | some (.slice elem),some i=>match DZ P elem with
  | some k=>match rowsOf x with
   | some rows=>if 0<=i then match rows[i.toNat]? with
     | some row=>if row.length=k/\k≠0 then some (.C8 row 0) else none
     | none=>none
    else none
   | none=>match x with
    | .ref id off len sz=>if 0<=i/\i<len/\sz=k/\alive s id=true then some (.ptr id (off+i.toNat*k)) else none
    | _=>none
  | none=>none
 | some (.array len elem),some i=>match DZ P elem with
  | some k=>if 0<=i/\i<len then match x with
    | .ptr id off=>bif alive s id then some (.ptr id (off+i.toNat*k)) else none
    | .DM g off=>some (.DM g (off+i.toNat*k))
    | .C8 r off=>some (.C8 r (off+i.toNat*k))
    | _=>none
   else none
  | none=>none
 | _,_=>none
def Lr:AV->Nat->Option AV
 | .tuple vs,i=>vs[i]?
 | _,_=>none
def HA:AV->Option Nat
 | .pv (.sc (.int _ n))=>if 0<=n then some n.toNat else none
 | _=>none
def FX (d:Nat):Option AV->Option Nat
 | none=>some d
 | some v=>HA v
def PW (P:Program) (s:AM) (t:TypeId) (x:AV) (lo hi mx:Option AV):Option AV:=
 match P.underlying t with
 | some (.slice elem)=>match DZ P elem with
  | some k=>match x with
   | .ref id off len sz=>match FX len hi,FX 0 lo,mx with
    | some h,some l,none=>if l<=h/\h<=len/\sz=k/\k≠0/\alive s id=true then(if l=h then some (.pv (.list [])) else some (.ref id (off+l*k) (h-l) sz)) else none
    | some h,some l,some m=>match HA m with
     | some m=>if l=h/\h<=len/\m=h/\hi.isSome=true/\alive s id=true then some (.AB []) else none
     | none=>none
    | _,_,_=>none
   | x=>match rowsOf x with
    | some rows=>match FX rows.length hi,FX 0 lo with
     | some h,some l=>
      if l<=h/\h<=rows.length/\(rows.all λr=>r.length==k)=true then match mx with
       | none=>some (.pv (.list ((rows.take h).drop l)))
       | some m=>match HA m with
        | some m=>if m=h/\hi.isSome then some (.AB ((rows.take h).drop l)) else none
        | none=>none
      else none
     | _,_=>none
    | none=>none
  | none=>none
 | _=>none
def BN (s:AM):AV->Option Nat
 | .ref id _ len _=>bif alive s id then some len else none
 | v=>match rowsOf v with
  | some rows=>some rows.length
  | none=>none
def DN (s:AM) (k:Nat):AV->Option (List AV)
 | .pv (.sc (.string b))=>if k=1 then some (b.data.toList.map λb=>Iz (.int .u8 b.toNat)) else none
 | .ref id off len sz=>match s.bs[id]? with
  | some cs=>if off+len*sz<=cs.length/\sz=k/\alive s id=true then some ((cs.drop off).take (len*sz)) else none
  | none=>none
 | v=>match rowsOf v with
  | some rows=>if (rows.all λr=>r.length==k)=true then some (rows.flatten.map .pv) else none
  | none=>none
def Ih (P:Program) (L:A3) (s:AM) (t:TypeId) (x y:AV):Option (AV×AM):=
 match P.underlying t with
 | some (.slice elem)=>match P.info? elem with
  | some i=>if (zeroOf P elem).map List.length=some i.size/\i.size≠0 then
    match DN s i.size y with
    | some []=>match x with
     | .ref id _ _ _=>bif alive s id then some (x,s) else none
     | _=>match rowsOf x with
      | some _=>some (x,s)
      | none=>none
    | some (c::cs)=>if (c::cs).all A1=true then
     let new:=c::cs
     let n:=new.length / i.size
     match x with
     | .ref id off len sz=>match s.bs[id]? with
      | some old=>if off=0/\sz=i.size/\len*sz<=old.length/\alive s id=true/\(len+n)*i.bytes<=2 ^ 45/\len+n<=2 ^ 45/\L.ro<=id then
        some (.ref s.bs.length 0 (len+n) sz,{ s with bs:=s.bs.set id []++[old.take (len*sz)++new] }) else none
      | none=>none
     | .AB rows=>
      if (rows.length+n)*i.bytes<=2 ^ 45/\rows.length+n<=2 ^ 45/\(rows.all λr=>r.length==i.size)=true then
       bif L.mu elem then some (.ref s.bs.length 0 (rows.length+n) i.size,{ s with bs:=s.bs++[rows.flatten.map .pv++new] })
       else match Cm new with
       | some ps=>some (.own s.ts.length (rows++CD i.size n ps),{ s with ts:=s.ts++[(rows.length+n,elem)] })
       | none=>none
      else none
     | .own k rows=>
      if (rows.length+n)*i.bytes<=2 ^ 45/\rows.length+n<=2 ^ 45/\s.ts[k]?=some (rows.length,elem)/\L.rt<=k/\(rows.all λr=>r.length==i.size)=true then
       match Cm new with
       | some ps=>some (.own k (rows++CD i.size n ps),{ s with ts:=s.ts.set k (rows.length+n,elem) })
       | none=>none
      else none
     | _=>none
     else none
    | none=>none
   else none
  | none=>none
 | _=>none
def VS:List AV->Option (List UInt8)
 | []=>some []
 | .pv (.sc (.int .u8 n))::rest=>match VS rest with
  | some l=>some (UInt8.ofNat n.toNat::l)
  | none=>none
 | _=>none
def AHV (s:AM):AV->Option (List UInt8)
 | .pv (.sc _)=>none
 | y=>match DN s 1 y with
  | some cs=>VS cs
  | none=>none
def Dv (s:AM):AV->Option Nat
 | .ptr id _=>bif alive s id then some 0 else none
 | .DM _ _=>some 0
 | .C8 _ _=>some 0
 | .func _ _ _=>some 2
 | .iface _ _=>some 3
 | .ref id _ _ _=>bif alive s id then some 1 else none
 | v=>match rowsOf v with
  | some ((_::_)::_)=>some 1
  | _=>none
def FM (ρ:Nat->AV):Operand->Option Nat
 | .const (.slice none 0 0)=>some 1
 | x=>match AX ρ x with
  | .pv (.sc (.pointer none))=>some 0
  | .pv (.sc .nilFunc)=>some 2
  | .pv (.sc .nilIface)=>some 3
  | _=>none
def C4 (P:Program) (t:TypeId):Option Nat:=match P.underlying t with
 | some (.pointer _)=>some 0
 | some (.slice _)=>some 1
 | some (.func _ _ _)=>some 2
 | some (.interface _)=>some 3
 | _=>none
def sameKind:Option Nat->Option Nat->Option Nat->Bool
 | some a,some b,some c=>Nat.beq a b&&Nat.beq a c
 | _,_,_=>false
def IP (P:Program) (s:AM) (ρ:Nat->AV) (op:BinOp) (t:TypeId) (x y:Operand):Option AV:=
 bif sameKind (C4 P t) (Dv s (AX ρ x)) (FM ρ y)||sameKind (C4 P t) (FM ρ x) (Dv s (AX ρ y)) then match op with
  | .eql=>some (Iz (.bool false))
  | .neq=>some (Iz (.bool true))
  | _=>none
 else none
def EZ (ρ:Nat->AV) (xs:List Operand):Bool:=xs.all λx=>(HJ (AX ρ x)).isSome
def Cs (E:Env) (ρ:Nat->AV) (o:Oper):Option AV:=
 if EZ ρ o.op.operands.toList then
  match quick E.P (execOp (λx=>(HJ (AX ρ x)).getD undef) o) with
  | some (.value v)=>some (M5 v)
  | _=>none
 else none
def FN:List UInt8->List UInt8->Bool
 | [],[]=>true
 | a::xs,b::ys=>Nat.beq a.toNat b.toNat&&FN xs ys
 | _,_=>false
def GF:IntKind->Nat
 | .i8=>0|.i16=>1|.i32=>2|.i64=>3|.u8=>4|.u16=>5|.u32=>6|.u64=>7
def ADS:AV->Option Value
 | .pv (.sc v)=>some v
 | .func (.func f) [] []=>some (.func (.func f) #[] #[])
 | _=>none
def sF:List AV->Option (List Value)
 | []=>some []
 | c::cs=>match ADS c,sF cs with
  | some v,some vs=>some (v::vs)
  | _,_=>none
def AMQ:AV->Option Value
 | .agg cs=>match sF cs with
  | some vs=>some (.agg vs.toArray)
  | none=>none
 | c=>ADS c
def ABK:Value->AV
 | .func fn a b=>.func fn (a.toList.map Iz) (b.toList.map Iz)
 | v=>Iz v
def AMR:Value->AV
 | .agg cs=>.agg (cs.toList.map ABK)
 | .func fn a b=>.func fn (a.toList.map Iz) (b.toList.map Iz)
 | v=>M5 v
def jX (k:List UInt8):List MapEntry->Nat->Option (Option (Nat×Value))
 | [],_=>some none
 | e::es,i=>match e.key with
  | .string b=>bif FN k b.data.toList then some (some (i,e.val)) else jX k es (i+1)
  | _=>none
def sG (P:Program) (t:TypeId) (k:Value) (es:List MapEntry):Option (Option (Nat×Value)):=
 match P.underlying t with
 | some (.int i)=>Instr.findNow (.int i) k es 0
 | some .string=>match k with
  | .string b=>jX b.data.toList es 0
  | _=>none
 | _=>none
def Xd (s:AM):AV->Option (List MapEntry×Nat)
 | .G9 id=>match s.bs[id]? with
  | some [.OI es clock]=>some (es,clock)
  | _=>none
 | _=>none
def ASm (P:Program) (s:AM) (t:TypeId) (m k:AV) (commaOk:Bool):Option AV:=
 match P.underlying t,Xd s m,HJ k with
 | some (.map kt elem),some (es,_),some key=>match sG P kt key es with
  | some (some (_,v))=>some (bif commaOk then .tuple [AMR v,Iz (.bool true)] else AMR v)
  | some none=>match P.info? elem with
   | some i=>match i.zero with
    | some z=>some (bif commaOk then .tuple [ofConst z,Iz (.bool false)] else ofConst z)
    | none=>none
   | none=>none
  | none=>none
 | _,_,_=>none
def Xe (L:A3) (s:AM) (es:List MapEntry) (clock:Nat):AV->Option AM
 | .G9 id=>bif Nat.ble L.ro id then some { s with bs:=s.bs.set id [.OI es clock] } else none
 | _=>none
def AHW (P:Program) (L:A3) (s:AM) (t:TypeId) (m k x:AV):Option AM:=
 match P.underlying t,Xd s m,HJ k,AMQ x with
 | some (.map kt _),some (es,clock),some key,some v=>match sG P kt key es with
  | some (some (i,_))=>match (es[i]?).map (·.key) with
   | some old=>bif Instr.sameBits 10000 old key then Xe L s (es.modify i λe=>{ e with key:=key,val:=v }) clock m else none
   | none=>none
  | some none=>Xe L s (es++[{ key:=key,val:=v,born:=clock }]) (clock+1) m
  | none=>none
 | _,_,_,_=>none
def ASn (P:Program) (L:A3) (s:AM) (t:TypeId) (m k:AV):Option AM:=
 match P.underlying t,Xd s m,HJ k with
 | some (.map kt _),some (es,clock),some key=>match sG P kt key es with
  | some (some (i,_))=>Xe L s (es.eraseIdx i) clock m
  | some none=>Xe L s es clock m
  | none=>none
 | _,_,_=>none
def Kw:List UInt8->List UInt8->Bool
 | _,[]=>false
 | [],_::_=>true
 | a::x,b::y=>Nat.blt a.toNat b.toNat||(Nat.beq a.toNat b.toNat&&Kw x y)
def Xf (k:IntKind) (op:BinOp) (a b:Nat):Option Value:=match op with
 | .eql=>some (.bool (Nat.beq a b))
 | .neq=>some (.bool (!Nat.beq a b))
 | .lss=>some (.bool (Nat.blt a b))
 | .leq=>some (.bool (Nat.ble a b))
 | .gtr=>some (.bool (Nat.blt b a))
 | .geq=>some (.bool (Nat.ble b a))
 | .add=>bif Nat.beq (GF k) 3&&Nat.blt (a+b) 9223372036854775808 then some (.int .i64 (.ofNat (a+b))) else none
 | .sub=>bif Nat.beq (GF k) 3&&(Nat.ble b a&&Nat.blt a 9223372036854775808) then some (.int .i64 (.ofNat (a-b))) else none
 | _=>none
def Xg (op:BinOp) (a b:List UInt8):Option Value:=match op with
 | .eql=>some (.bool (FN a b))
 | .neq=>some (.bool (!FN a b))
 | .lss=>some (.bool (Kw a b))
 | .leq=>some (.bool (Kw a b||FN a b))
 | .gtr=>some (.bool (!(Kw a b||FN a b)))
 | .geq=>some (.bool (!Kw a b))
 | _=>none
def Ii (op:BinOp):AV->AV->Option Value
 | .pv (.sc (.int k (.ofNat a))),.pv (.sc (.int k' (.ofNat b)))=>bif Nat.beq (GF k) (GF k') then Xf k op a b else none
 | .pv (.sc (.string a)),.pv (.sc (.string b))=>Xg op a.data.toList b.data.toList
 | _,_=>none
def Xh (op:UnOp):AV->Option Value
 | .pv (.sc (.bool b))=>match op with
  | .not=>some (.bool !b)
  | _=>none
 | _=>none
def Mf (P:Program) (t:TypeId):AV->AV->Option Value
 | .pv (.sc (.string b)),.pv (.sc (.int _ (.ofNat n)))=>match P.underlying t,b.data.toList[n]? with
  | some .string,some c=>some (.int .u8 c.toNat)
  | _,_=>none
 | _,_=>none
def Mg (P:Program) (t:TypeId):AV->Option Value
 | .pv (.sc (.string b))=>match P.underlying t with
  | some .string=>some (.int .i64 (.ofNat b.data.toList.length))
  | _=>none
 | _=>none
def Ca (E:Env) (L:A3) (ρ:Nat->AV) (s:AM) (o:Oper):Option (AV×AM):=
 let q (r:Option AV):Option (AV×AM):=match r with|some v=>some (v,s)|none=>none
 match o.op with
 | .move x|.assign x=>some (AX ρ x,s)
 | .pick c a b=>match AX ρ c with
  | .pv (.sc (.bool t))=>some (bif t then AX ρ a else AX ρ b,s)
  | _=>none
 | .alloc t=>match zeroOf E.P t with
  | some z=>some (G0 s (M6 E s.bs.length t z))
  | none=>none
 | .box t x=>if (cellsOf (AX ρ x)).all A1 then some (G0 s (M6 E s.bs.length t (cellsOf (AX ρ x)))) else none
 | .build t parts=>q (SH E.P t (parts.toList.map λp=>(p.1,AX ρ p.2)))
 | .buildSlice t len parts=>Gl E.P L s t len (parts.toList.map λp=>(p.1,AX ρ p.2))
 | .load t a=>q (SG E s t (AX ρ a))
 | .store t a x=>match NV E L s t (AX ρ a) (AX ρ x) with
  | some s'=>some (.tuple [],s')
  | none=>none
 | .nilCheck x=>q (KF s (AX ρ x))
 | .fieldAddr t x f=>q (HS E.P s t (AX ρ x) f)
 | .field t x f=>q (SI E.P t (AX ρ x) f)
 | .indexAddr t x i=>q (HT E.P s t (AX ρ x) (AX ρ i))
 | .extract t i=>q (Lr (AX ρ t) i)
 | .makeFunc fn first captured=>some (.func fn (first.toList.map (AX ρ)) (captured.toList.map (AX ρ)),s)
 | .makeInterface t x=>match E.P.underlying t with
  | some (.interface _)=>none
  | some _=>some (.iface t (AX ρ x),s)
  | none=>none
 | .slice t x lo hi mx=>
  match PW E.P s t (AX ρ x) (lo.map (AX ρ)) (hi.map (AX ρ)) (mx.map (AX ρ)) with
  | some v=>some (v,s)
  | none=>q (Cs E ρ o)
 | .call { callee:=.builtin .len,args:=args,argTypes:=ts }=>
  match args.toList,ts.toList with
  | [x],[t]=>match Mg E.P t (AX ρ x) with
   | some v=>some (Iz v,s)
   | none=>match E.P.underlying t,BN s (AX ρ x) with
    | some (.slice _),some n=>some (Iz (.int .i64 n),s)
    | _,_=>q (Cs E ρ o)
  | _,_=>none
 | .call { callee:=.builtin .append,args:=args,argTypes:=ts }=>
  match args.toList,ts.toList with
  | [x,y],t::u::_=>match E.P.underlying u with
   | some (.int _)=>none
   | some _=>Ih E.P L s t (AX ρ x) (AX ρ y)
   | none=>none
  | _,_=>none
 | .call { callee:=.builtin .delete,.. }=>none
 | .call { callee:=.builtin _,.. }=>q (Cs E ρ o)
 | .binOp op t x y _=>match Ii op (AX ρ x) (AX ρ y) with
  | some v=>some (Iz v,s)
  | none=>match IP E.P s ρ op t x y with
   | some v=>some (v,s)
   | none=>q (Cs E ρ o)
 | .convert _ _ _=>q (Cs E ρ o)
 | .unOp op _ x=>match Xh op (AX ρ x) with
  | some v=>some (Iz v,s)
  | none=>q (Cs E ρ o)
 | .index t x i=>match Mf E.P t (AX ρ x) (AX ρ i) with
  | some v=>some (Iz v,s)
  | none=>q (Cs E ρ o)
 | _=>none
def AHX (E:Env) (ρ:Nat->AV) (s:AM) (t:TypeId) (a:Operand):Option (AV×AM):=match SG E s t (AX ρ a) with
 | some v=>some (v,s)
 | none=>none
def Za (E:Env) (ρ:Nat->AV) (s:AM) (t:TypeId) (x:Operand) (f:Nat):Option (AV×AM):=match HS E.P s t (AX ρ x) f with
 | some v=>some (v,s)
 | none=>none
def ABL (E:Env) (ρ:Nat->AV) (s:AM) (t:TypeId) (x:Operand) (f:Nat):Option (AV×AM):=match SI E.P t (AX ρ x) f with
 | some v=>some (v,s)
 | none=>none
def Zb (E:Env) (ρ:Nat->AV) (s:AM) (t:TypeId) (x i:Operand):Option (AV×AM):=match HT E.P s t (AX ρ x) (AX ρ i) with
 | some v=>some (v,s)
 | none=>none
def ng (ρ:Nat->AV) (s:AM) (x:Operand) (i:Nat):Option (AV×AM):=match Lr (AX ρ x) i with
 | some v=>some (v,s)
 | none=>none
def ABM (E:Env) (ρ:Nat->AV) (s:AM) (t:TypeId) (parts:Array (Nat×Operand)):Option (AV×AM):=match SH E.P t (parts.toList.map λp=>(p.1,AX ρ p.2)) with
 | some v=>some (v,s)
 | none=>none
def ABN (E:Env) (L:A3) (ρ:Nat->AV) (s:AM) (t:TypeId) (a x:Operand):Option (AV×AM):=match NV E L s t (AX ρ a) (AX ρ x) with
 | some s'=>some (.tuple [],s')
 | none=>none
def AMS (E:Env) (ρ:Nat->AV) (s:AM) (o:Oper) (op:BinOp) (t:TypeId) (x y:Operand):Option (AV×AM):=match Ii op (AX ρ x) (AX ρ y) with
 | some v=>some (Iz v,s)
 | none=>match IP E.P s ρ op t x y with
  | some v=>some (v,s)
  | none=>match Cs E ρ o with
   | some v=>some (v,s)
   | none=>none
def opF (E:Env) (L:A3) (ρ:Nat->AV) (s:AM) (o:Oper):Option (AV×AM):=match o.op with
 | .move x=>some (AX ρ x,s)
 | .assign x=>some (AX ρ x,s)
 | .load t a=>AHX E ρ s t a
 | .fieldAddr t x f=>Za E ρ s t x f
 | .field t x f=>ABL E ρ s t x f
 | .indexAddr t x i=>Zb E ρ s t x i
 | .extract x i=>ng ρ s x i
 | .build t parts=>ABM E ρ s t parts
 | .store t a x=>ABN E L ρ s t a x
 | .binOp op t x y _=>AMS E ρ s o op t x y
 | _=>Ca E L ρ s o
theorem sH (E:Env) (L:A3) (ρ:Nat->AV) (s:AM) (o:Oper):opF E L ρ s o=Ca E L ρ s o:=by
 obtain⟨dst,op,type,pos,after,guard⟩:=o;cases op <;> rfl
def Ky (ρ:Nat->AV) (c:Call):Option (FuncId×List AV):=
 match c.callee with
 | .value f=>match AX ρ f with
  | .func (.func g) first captured=>some (g,first++c.args.toList.map (AX ρ)++captured)
  | _=>none
 | _=>none
inductive Out where
 | norm|exit (id:Nat)|ret
def OJ (ops:Array Oper) (o:Oper):Option Nat:=match o.guard with
 | none=>none
 | some (j,_)=>match ops[j]? with
  | some p=>p.dst
  | none=>none
def E1 (ops:Array Oper) (ρ:Nat->AV) (o:Oper):Option Bool:=
 match o.guard with
 | none=>some true
 | some (_,want)=>match OJ ops o with
  | some d=>match ρ d with
   | .pv (.sc (.bool b))=>some (b==want)
   | .tuple []=>some false
   | _=>none
  | none=>some false
def KG (st:St) (d:Option Nat) (v:AV):Option St:=
 match d with
 | none=>some st
 | some d=>bif Nat.blt d st.N then some { st with ρ:=Xa st.ρ d v } else none
abbrev Cn:=FuncId->List AV->AM->Option (AV×AM)
def ni (E:Env) (L:A3) (cf:Cn) (ρ:Nat->AV) (s:AM) (o:Oper):Option (AV×AM):=
 match o.op with
 | .call c=>match c.callee with
  | .builtin _=>Ca E L ρ s o
  | _=>match Ky ρ c with
   | some (f,args)=>cf f args s
   | none=>none
 | _=>Ca E L ρ s o
def NW (E:Env) (L:A3) (cf:Cn) (ρ:Nat->AV) (s:AM) (o:Oper):Option (AV×AM):=
 match o.op with
 | .call c=>match c.callee with
  | .builtin _=>Ca E L ρ s o
  | _=>match Ky ρ c with
   | some (f,args)=>cf f args s
   | none=>none
 | _=>opF E L ρ s o
theorem OK (E:Env) (L:A3) (cf:Cn) (ρ:Nat->AV) (s:AM) (o:Oper):NW E L cf ρ s o=ni E L cf ρ s o:=by
 unfold NW ni;simp only[sH]
def M7 (E:Env) (L:A3) (cf:Cn) (st:St) (o:Oper):Option St:=
 match NW E L cf st.ρ st.s o with
 | some (v,s)=>KG { st with s:=s } o.dst v
 | none=>none
def Lb:Operand->Nat->Bool
 | .tmp t,d=>Nat.beq t d
 | _,_=>false
structure I8 where
 t:TypeId
 x:Operand
 y:Operand
 d:Nat
 ix:Operand
 p:Nat
 te:TypeId
 v:Operand
def fused (o o1 o2:Oper):Option I8:=
 match o.op,o.dst,o1.op,o1.dst,o2.op,o2.dst with
 | .call { callee:=.builtin .append,args:=args,argTypes:=ts },some d,.indexAddr t1 (.tmp d1) ix,some p,.store te (.tmp p1) v,none=>
  match args.toList,ts.toList with
  | [x,y],[t,t']=>if d1=d/\p1=p/\t1=t/\t'=t/\d≠p/\o.guard.isNone=true/\o1.guard.isNone=true/\o2.guard.isNone=true/\Lb ix d=false/\Lb v d=false/\Lb v p=false/\Lb x d=false/\Lb y d=false/\Lb x p=false/\Lb y p=false/\Lb ix p=false then
    some ⟨t,x,y,d,ix,p,te,v⟩ else none
  | _,_=>none
 | _,_,_,_,_,_=>none
def KH (L:A3) (s:AM) (elem:TypeId) (i:TypeInfo) (x:AV) (row:List PV):Option (AV×AM):=
 match x with
 | .AB rows=>
  if (rows.length+1)*i.bytes<=2 ^ 45/\rows.length+1<=2 ^ 45/\(rows.all λr=>r.length==i.size)=true then
   some (.own s.ts.length (rows++[row]),{ s with ts:=s.ts++[(rows.length+1,elem)] })
  else none
 | .own k rows=>
  if (rows.length+1)*i.bytes<=2 ^ 45/\rows.length+1<=2 ^ 45/\s.ts[k]?=some (rows.length,elem)/\L.rt<=k/\(rows.all λr=>r.length==i.size)=true then
   some (.own k (rows++[row]),{ s with ts:=s.ts.set k (rows.length+1,elem) })
  else none
 | _=>none
def I9 (E:Env) (L:A3) (ρ:Nat->AV) (s:AM) (k:I8):Option (AV×AM):=
 match E.P.underlying k.t with
 | some (.slice elem)=>
  if L.mu elem=false/\k.te=elem then
   match E.P.info? elem,rowsOf (AX ρ k.x),rowsOf (AX ρ k.y),HA (AX ρ k.ix),Cm (cellsOf (AX ρ k.v)) with
   | some i,some rows,some [z],some n,some row=>
    if n=rows.length/\z.length=i.size/\row.length=i.size/\(cellsOf (AX ρ k.v)).all A1=true/\(z.map AV.pv).all A1=true/\i.size≠0/\(zeroOf E.P elem).map List.length=some i.size then
     KH L s elem i (AX ρ k.x) row
    else none
   | _,_,_,_,_=>none
  else none
 | _=>none
def VT (E:Env) (L:A3) (ρ:Nat->AV) (s:AM) (k:I8):Option (AV×AM):=
 match E.P.underlying k.t with
 | some (.slice elem)=>
  if L.mu elem=true/\k.te=elem then
   match E.P.info? elem,AX ρ k.x,HA (AX ρ k.ix) with
   | some i,.ref id off len sz,some n=>match DN s i.size (AX ρ k.y),s.bs[id]? with
    | some zs,some old=>
     if n=len/\zs.length=i.size/\(cellsOf (AX ρ k.v)).length=i.size/\(cellsOf (AX ρ k.v)).all A1=true/\zs.all A1=true/\i.size≠0/\(zeroOf E.P elem).map List.length=some i.size /\
       off=0/\sz=i.size/\len*sz<=old.length/\alive s id=true/\(len+1)*i.bytes<=2 ^ 45/\len+1<=2 ^ 45/\L.ro<=id then
      some (.ref s.bs.length 0 (len+1) sz,{ s with bs:=s.bs.set id []++[old.take (len*sz)++cellsOf (AX ρ k.v)] })
     else none
    | _,_=>none
   | _,_,_=>none
  else none
 | _=>none
def KI (E:Env) (L:A3) (ρ:Nat->AV) (s:AM) (k:I8):Option (AV×AM):=match I9 E L ρ s k with
 | some r=>some r
 | none=>VT E L ρ s k
def Jv (st:St) (k:I8) (v:AV) (s:AM):Option St:=
 match KG { st with s:=s } (some k.d) v with
 | some st=>KG st (some k.p) .Gz
 | none=>none
def IQ (E:Env) (L:A3) (cf:Cn) (ops:Array Oper):List Oper->St->Option St
 | [],st=>some st
 | o::rest,st=>
  let one:Option St:=match E1 ops st.ρ o with
   | some true=>match M7 E L cf st o with
    | some st=>IQ E L cf ops rest st
    | none=>none
   | some false=>match KG st o.dst (.tuple []) with
    | some st=>IQ E L cf ops rest st
    | none=>none
   | none=>none
  match rest with
  | o1::o2::rest'=>match fused o o1 o2 with
   | some k=>match I9 E L st.ρ st.s k with
    | some (v,s)=>match Jv st k v s with
     | some st=>IQ E L cf ops rest' st
     | none=>none
    | none=>one
   | none=>one
  | _=>one
def hcells (E:Env) (ρ:Nat->AV) (o:Oper):Option (List AV×(Nat->AV)):=
 match o.op with
 | .alloc t=>match zeroOf E.P t with
  | some z=>bif E.bz t then none else some (z,λid=>.ptr id 0)
  | none=>none
 | .makeSlice t l c=>match E.P.underlying t,AX ρ l,AX ρ c with
  | some (.slice elem),.pv (.sc (.int .i64 l)),.pv (.sc (.int .i64 c))=>match E.P.info? elem,zeroOf E.P elem with
   | some i,some z=>
    if 0<l/\l=c/\c<=2 ^ 40/\c*i.bytes<=2 ^ 45/\z.length=i.size/\i.size≠0 then some (Fz l.toNat z,λid=>.ref id 0 l.toNat i.size)
    else none
   | _,_=>none
  | _,_,_=>none
 | _=>none
def KJ:AV->Option Nat
 | .ptr id _=>some id
 | .ref id _ _ _=>some id
 | _=>none
def Zc:Int->Int->Bool
 | .ofNat a,.ofNat b=>Nat.beq a b
 | .negSucc a,.negSucc b=>Nat.beq a b
 | _,_=>false
def eqV:Value->Value->Bool
 | .int k n,.int k' n'=>Nat.beq (GF k) (GF k')&&Zc n n'
 | .bool a,.bool b=>a==b
 | .string a,.string b=>FN a.data.toList b.data.toList
 | .pointer none,.pointer none=>true
 | .nilFunc,.nilFunc=>true
 | .nilIface,.nilIface=>true
 | .map none,.map none=>true
 | .slice none a b,.slice none c d=>Nat.beq a c&&Nat.beq b d
 | _,_=>false
mutual
def PX:PV->PV->Bool
 | .sc a,.sc b=>eqV a b
 | .list a,.list b=>Jg a b
 | _,_=>false
def PY:List PV->List PV->Bool
 | [],[]=>true
 | a::xs,b::ys=>PX a b&&PY xs ys
 | _,_=>false
def Jg:List (List PV)->List (List PV)->Bool
 | [],[]=>true
 | a::xs,b::ys=>PY a b&&Jg xs ys
 | _,_=>false
end
def nj:List MapEntry->List MapEntry->Bool
 | [],[]=>true
 | a::xs,b::ys=>eqV a.key b.key&&eqV a.val b.val&&Nat.beq a.born b.born&&nj xs ys
 | _,_=>false
mutual
def CQ:AV->AV->Bool
 | .pv a,.pv b=>PX a b
 | .ptr a b,.ptr c d=>Nat.beq a c&&Nat.beq b d
 | .DM a b,.DM c d=>Nat.beq a c&&Nat.beq b d
 | .C8 a b,.C8 c d=>PY a c&&Nat.beq b d
 | .AB a,.AB b=>Jg a b
 | .own t a,.own u b=>Nat.beq t u&&Jg a b
 | .ref a b c d,.ref a' b' c' d'=>Nat.beq a a'&&Nat.beq b b'&&Nat.beq c c'&&Nat.beq d d'
 | .func (.func f) a b,.func (.func g) c d=>Nat.beq f g&&Kz a c&&Kz b d
 | .iface t a,.iface u b=>Nat.beq t u&&CQ a b
 | .agg a,.agg b=>Kz a b
 | .tuple a,.tuple b=>Kz a b
 | .Gz,.Gz=>true
 | .G9 a,.G9 b=>Nat.beq a b
 | .OI a c,.OI b d=>nj a b&&Nat.beq c d
 | .bz a t n,.bz b u m=>Nat.beq a b&&Nat.beq t u&&Nat.beq n m
 | _,_=>false
def Kz:List AV->List AV->Bool
 | [],[]=>true
 | a::xs,b::ys=>CQ a b&&Kz xs ys
 | _,_=>false
end
def EN (E:Env) (L:A3) (ρ:Nat->AV) (s:AM) (o:Oper):Option AV:=
 match o.op with
 | .alloc _|.box _ _|.store _ _ _|.makeMap _ _|.mapUpdate _ _ _ _|.insert _ _ _ _=>none
 | .makeSlice _ _ _=>match Ca E L ρ s o with
  | some (.AB [],_)=>some (.AB [])
  | _=>none
 | .call { callee:=.builtin .delete,.. }=>none
 | .buildSlice t _ _=>match E.P.underlying t with
  | some (.slice elem)=>bif L.mu elem then none else match Ca E L ρ s o with
   | some (v,_)=>some v
   | none=>none
  | _=>none
 | .call { callee:=.builtin .append,.. }=>none
 | _=>match Ca E L ρ s o with
  | some (v,_)=>some v
  | none=>none
def JA (E:Env) (L:A3) (ρ:Nat->AV) (s:AM) (o:Oper):Option AV:=
 match o.op with
 | .alloc _|.box _ _|.store _ _ _|.makeMap _ _|.mapUpdate _ _ _ _|.insert _ _ _ _=>none
 | .makeSlice _ _ _=>match Ca E L ρ s o with
  | some (.AB [],_)=>some (.AB [])
  | _=>none
 | .call { callee:=.builtin .delete,.. }=>none
 | .buildSlice t _ _=>match E.P.underlying t with
  | some (.slice elem)=>bif L.mu elem then none else match Ca E L ρ s o with
   | some (v,_)=>some v
   | none=>none
  | _=>none
 | .call { callee:=.builtin .append,.. }=>none
 | _=>match opF E L ρ s o with
  | some (v,_)=>some v
  | none=>none
theorem KL (E:Env) (L:A3) (ρ:Nat->AV) (s:AM) (o:Oper):JA E L ρ s o=EN E L ρ s o:=by
 unfold JA EN;simp only[sH]
def E2 (E:Env) (L:A3) (ops:Array Oper) (ρ:Nat->AV) (s:AM) (o:Oper):Option AV:=
 match E1 ops ρ o with
 | some true=>JA E L ρ s o
 | some false=>some (.tuple [])
 | none=>none
def NY (E:Env) (L:A3) (cf:Cn) (ops:Array Oper) (ρ:Nat->AV) (s:AM) (o:Oper):Option (AV×AM):=
 match E1 ops ρ o with
 | some true=>NW E L cf ρ s o
 | some false=>some (.tuple [],s)
 | none=>none
def JB (E:Env) (L:A3) (ops:Array Oper) (cls:List eJ):List Nat->St->Option St
 | [],st=>some st
 | i::rest,st=>match ops[i]?,cls[i]? with
  | some o,some (.q _)=>match E2 E L ops st.ρ st.s o with
   | some v=>match KG st o.dst v with
    | some st=>JB E L ops cls rest st
    | none=>none
   | none=>none
  | some o,some (.h _)=>match hcells E st.ρ o with
   | some (cs,mk)=>match KG { st with s:={ st.s with bs:=st.s.bs++[cs] } } o.dst (mk st.s.bs.length) with
    | some st=>JB E L ops cls rest st
    | none=>none
   | none=>none
  | _,_=>none
def HB (E:Env) (L:A3) (cf:Cn) (ops:Array Oper) (cls:List eJ):List Nat->St->List AM->Option (St×List AM)
 | [],st,acc=>some (st,acc)
 | i::rest,st,acc=>match ops[i]?,cls[i]? with
  | some o,some (.q _)=>match E2 E L ops st.ρ st.s o with
   | some v=>match KG st o.dst v with
    | some st=>HB E L cf ops cls rest st acc
    | none=>none
   | none=>none
  | some o,some (.w _)=>match NY E L cf ops st.ρ st.s o with
   | some (v,s)=>match KG { st with s:=s } o.dst v with
    | some st=>HB E L cf ops cls rest st (s::acc)
    | none=>none
   | none=>none
  | some o,some (.fa _ j x)=>match ops[j]?,ops[x]? with
   | some o1,some o2=>match fused o o1 o2 with
    | some k=>match KI E L st.ρ st.s k with
     | some (v,s)=>match Jv st k v s with
      | some st=>HB E L cf ops cls rest st (s::acc)
      | none=>none
     | none=>none
    | none=>none
   | _,_=>none
  | some _,some .fj=>HB E L cf ops cls rest st acc
  | some _,some .fx=>HB E L cf ops cls rest st acc
  | _,_=>none
def HO (GI:List (List Nat)) (i:Nat):List Nat:=match GI[i]? with
 | some l=>l
 | none=>[]
def has (l:List Nat) (x:Nat):Bool:=l.any λy=>Nat.beq y x
def FO (GI:List (List Nat)) (ρ0 ρf:Nat->AV) (i t:Nat):AV:=bif has (HO GI i) t then ρ0 t else ρf t
def eM (E:Env) (L:A3) (ops:Array Oper) (cls:List eJ) (GI:List (List Nat)) (ρ0 ρf:Nat->AV) (σ:List AM):List (Nat×Nat)->Bool
 | []=>true
 | (i,k)::rest=>(match ops[i]?,cls[i]?,σ[k]? with
  | some o,some (.q _),some s=>match E2 E L ops (FO GI ρ0 ρf i) s o with
   | some v=>match o.dst with
    | some d=>CQ v (ρf d)
    | none=>true
   | none=>false
  | some o,some (.h _),some s=>match hcells E (FO GI ρ0 ρf i) o,o.dst with
   | some (cs,_),some d=>match KJ (ρf d) with
    | some id=>match s.bs[id]? with
     | some cs'=>Kz cs' cs
     | none=>false
    | none=>false
   | _,_=>false
  | _,_,_=>false)&&eM E L ops cls GI ρ0 ρf σ rest
def Qh (ops:Array Oper) (p:BS) (ρ0 ρf:Nat->AV) (E3:Nat):List Nat->Bool
 | []=>true
 | m::rest=>(match ops[m]?,p.cls[m]? with
  | some om,some (.w _)=>match om.op with
   | .store _ y _=>match AX (FO p.GI ρ0 ρf m) y with
    | .ptr id _=>!(Nat.beq id E3)
    | _=>true
   | _=>true
  | _,_=>true)&&Qh ops p ρ0 ρf E3 rest
def RH (E:Env) (L:A3) (ops:Array Oper) (i j x:Nat):Bool:=match ops[i]?,ops[j]?,ops[x]? with
 | some o,some o1,some o2=>match fused o o1 o2 with
  | some k=>match E.P.underlying k.t with
   | some (.slice elem)=>L.mu elem
   | _=>false
  | none=>false
 | _,_,_=>false
def sI (E:Env) (L:A3) (ops:Array Oper) (cls:List eJ):List Nat->Bool
 | []=>true
 | i::rest=>(match cls[i]? with
  | some (.fa _ j x)=>!(RH E L ops i j x)
  | _=>true)&&sI E L ops cls rest
def SJ (E:Env) (L:A3) (ops:Array Oper) (p:BS) (ρ0 ρf:Nat->AV):List Nat->Bool
 | []=>true
 | i::rest=>(match p.cls[i]? with
  | some (.fa _ j x)=>bif RH E L ops i j x then match ops[i]? with
   | some o=>match o.dst with
    | some d=>match ρf d with
     | .ref E3 _ _ _=>Qh ops p ρ0 ρf E3 p.rest
     | _=>true
    | none=>true
   | none=>true
   else true
  | _=>true)&&SJ E L ops p ρ0 ρf rest
def VU (E:Env) (L:A3) (ops:Array Oper) (p:BS) (ρ0 ρf:Nat->AV):Bool:=sI E L ops p.cls p.rest||SJ E L ops p ρ0 ρf p.rest
def Xi (E:Env) (L:A3) (cf:Cn) (p:BS) (ops:Array Oper) (st0:St):Option St:=
 match JB E L ops p.cls p.first st0 with
 | some st=>match HB E L cf ops p.cls p.rest st [st.s] with
  | some (st,acc)=>bif eM E L ops p.cls p.GI st0.ρ st.ρ acc.reverse p.XZ&&VU E L ops p st0.ρ st.ρ then some st else none
  | none=>none
 | none=>none
def Jh (E:Env) (L:A3) (cf:Cn) (ops:Array Oper) (st:St):Option BS->Option St
 | some p=>Xi E L cf p ops st
 | none=>none
def sJ (E:Env) (L:A3) (ops:Array Oper) (st:St) (p q:Option BS):Option BS:=match p with
 | some p=>match JB E L ops p.cls p.first st with
  | some _=>some p
  | none=>q
 | none=>q
def initρ:List AV->Nat->AV
 | [],_=>.tuple []
 | v::_,0=>v
 | _::vs,n+1=>initρ vs n
def Mh (E:Env) (st:St):ResultVar->Option AV
 | .tmp t=>some (st.ρ t)
 | .cell a t=>SG E st.s t (st.ρ a)
def FY (E:Env) (st:St):List ResultVar->Option (List AV)
 | []=>some []
 | r::rs=>match Mh E st r,FY E st rs with
  | some v,some vs=>some (v::vs)
  | _,_=>none
def JC:List AV->AV
 | [v]=>v
 | vs=>.tuple vs
def Ij:Code->Bool
 | .rangeFunc _ _ _ _=>false
 | .seq a b=>Ij a&&Ij b
 | .cond _ a b=>Ij a&&Ij b
 | .block _ b=>Ij b
 | .loop b=>Ij b
 | _=>true
def FP (f:Nat->List PV->AM->Option (Out×AM)) (rows:List (List PV)):Nat->AM->Option (Out×AM)
 | 0,s=>some (.norm,s)
 | j+1,s=>match rows[j]? with
  | some row=>match f j row s with
   | some (.norm,s')=>FP f rows j s'
   | r=>r
  | none=>none
def Zd (P:Program) (el:TypeId) (row:List PV):Option AV:=
 if DZ P el=some row.length/\row.length≠0 then partOf P el (row.map .pv) 0 else none
def FZ (P:Program) (ev:Code->St->Option (Out×St)) (a b:Code) (st:St) (p q:Nat) (el:TypeId) (j:Nat) (row:List PV) (s:AM):Option (Out×AM):=
 match Zd P el row with
 | some v=>match ev a ⟨st.N,Xa (Xa st.ρ p (Iz (.int .i64 j))) q v,s⟩ with
  | some (.norm,FU)=>match ev b FU with
   | some (o,st2)=>some (o,st2.s)
   | none=>none
  | _=>none
 | none=>none
def IL (E:Env) (cf:A3->Cn):Nat->A3->Code->St->Option (Out×St)
 | 0,_,_,_=>none
 | n+1,L,c,st=>match c with
  | .skip=>some (.norm,st)
  | .ret=>some (.ret,st)
  | .exit id=>some (.exit id,st)
  | .region _ ops false=>match IQ E L (cf L) ops ops.toList st with
   | some st=>some (.norm,st)
   | none=>none
  | .region id ops true=>match Jh E L (cf L) ops st (sJ E L ops st (L.pl id) (L.pl (id+1000000))) with
   | some st=>some (.norm,st)
   | none=>none
  | .seq a b=>match IL E cf n L a st with
   | some (.norm,st)=>IL E cf n L b st
   | r=>r
  | .cond c a b=>match AX st.ρ c with
   | .pv (.sc (.bool t))=>IL E cf n L (bif t then a else b) st
   | _=>none
  | .block id b=>match IL E cf n L b st with
   | some (.exit j,st)=>bif Nat.beq j id then some (.norm,st) else some (.exit j,st)
   | r=>r
  | .loop b=>match IL E cf n L b st with
   | some (.norm,st)=>IL E cf n L (.loop b) st
   | r=>r
  | .rangeFunc g ps a b=>match AX st.ρ g,ps.toList with
   | .func (.func k) [] [.ptr id 0],[p,q]=>match E.back k,st.s.bs[id]? with
    | some el,some (c::_)=>match rowsOf c with
     | some rows=>bif Nat.ble L.ro id&&(Ij a&&(Ij b&&(Nat.blt p st.N&&(Nat.blt q st.N&&(!Nat.beq p q&&(Nat.ble rows.length 1000000000000000000&&(DZ E.P el).isSome)))))) then
       match FP (FZ E.P (IL E cf n L) a b st p q el) rows rows.length { st.s with bs:=st.s.bs.set id [] } with
       | some (o,s')=>some (o,{ st with s:=s' })
       | none=>none
      else none
     | none=>none
    | _,_=>none
   | _,_=>none
  | _=>none
def JD (E:Env) (cf:A3->Cn) (n:Nat) (fn:Func) (L:A3) (args:List AV) (s:AM):Option (AV×AM):=
 match fn.body with
 | none=>none
 | some body=>match IL E cf n L body ⟨fn.ntmps,initρ args,s⟩ with
  | some (.exit _,_)=>none
  | some (_,st)=>match FY E st fn.results.toList with
   | some vs=>some (JC vs,st.s)
   | none=>none
  | none=>none
mutual
def Ai (n:Nat):AV->Bool
 | .ptr id _|.ref id _ _ _|.G9 id|.bz id _ _=>Nat.blt id n
 | .func _ first captured=>Ab n first&&Ab n captured
 | .iface _ v=>Ai n v
 | .agg cs=>Ab n cs
 | .tuple vs=>Ab n vs
 | _=>true
def Ab (n:Nat):List AV->Bool
 | []=>true
 | c::cs=>Ai n c&&Ab n cs
end
def SK (r:Bool) (n:Nat):AV->Option (Nat×Nat×Nat×Nat)
 | .ref id off len sz=>bif r&&Nat.ble n id then some (id,off,len,sz) else none
 | _=>none
def M8 (r:Bool) (n:Nat) (v:AV) (s:AM):Option (AV×AM):=
 bif (s.bs.take n).all (Ab n) then match SK r n v with
  | some (id,off,len,sz)=>match s.bs[id]? with
   | some (c::cs)=>bif Ab n (c::cs) then some (.ref n off len sz,⟨s.bs.take n++[c::cs],s.ts⟩) else none
   | _=>none
  | none=>match close s.bs n s.ts.length v with
   | some v=>some (v,⟨s.bs.take n,s.ts⟩)
   | none=>none
 else none
def IW (E:Env) (cf:A3->Cn) (n:Nat) (f:FuncId) (fn:Func) (args:List AV) (s:AM):Option (AV×AM):=
 match JD E cf n fn ⟨0,0,0,E.mu f,E.rr f,E.plan f⟩ args ⟨[],[]⟩ with
 | some (v,s')=>match close s'.bs 0 0 v with
  | some v=>some (v,s)
  | none=>none
 | none=>none
def D4 (E:Env) (cf:A3->Cn) (n:Nat) (L:A3) (f:FuncId) (fn:Func) (args:List AV) (s:AM):Option (AV×AM):=
 if args.length<=fn.ntmps then
  match E.kind f with
  | .esc=>JD E cf n fn { L with mu:=E.mu f,rr:=E.rr f,pl:=E.plan f } args s
  | .rd=>match AU [] 0 0 args with
   | some args=>IW E cf n f fn args s
   | none=>match JD E cf n fn ⟨s.bs.length,s.bs.length,s.ts.length,E.mu f,E.rr f,E.plan f⟩ args s with
    | some (v,s')=>match close s'.bs s.bs.length s.ts.length v with
     | some v=>some (v,s)
     | none=>none
    | none=>none
  | k=>bif (match k with|.im=>Bb args|_=>false) then IW E cf n f fn args s else
   match JD E cf n fn ⟨0,L.ro,L.rt,E.mu f,E.rr f,E.plan f⟩ args s with
   | some (v,s')=>M8 (L.rr f) s.bs.length v s'
   | none=>none
 else none
def JE:List AV->Bool
 | [x]=>match rowsOf x with
  | some []=>true
  | _=>false
 | _=>false
def OL (E:Env) (L:A3) (f:FuncId) (args:List AV) (s:AM) (r:Option (AV×AM)):Option (AV×AM):=match E.told f with
 | some T=>T L args s
 | none=>bif JE args then some (.AB [],s) else r
def DG (E:Env):Nat->A3->Cn
 | 0,_,_,_,_=>none
 | n+1,L,f,args,s=>match E.P.funcs[f]? with
  | some fn=>bif E.clone f then OL E L f args s (D4 E (DG E n) n L f fn args s) else D4 E (DG E n) n L f fn args s
  | none=>none
end Go.Tel
