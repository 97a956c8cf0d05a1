/-
  A deterministic evaluator for the model's code on abstract values: definitions only.
-/
import Derived.Test.YtpgfpakdnijngaaGreatDoorAl
set_option linter.unusedSimpArgs false
set_option linter.unusedVariables false
namespace Go.Tel
inductive PV where
 | sc (v:Value)
 | list (rows:List (List PV))
inductive AV where
 | pv (p:PV)
 | ptr (id off:Nat)
 | De (g off:Nat)
 | DK (row:List PV) (off:Nat)
 | AA (rows:List (List PV))
 | own (tok:Nat) (rows:List (List PV))
 | ref (id off len sz:Nat)
 | func (fn:Fn) (first captured:List AV)
 | iface (t:TypeId) (v:AV)
 | agg (cs:List AV)
 | tuple (vs:List AV)
 | HU
 | Fg (id:Nat)
 | LD (es:List MapEntry) (clock:Nat)
 | bz (id:Nat) (t:TypeId) (n:Nat)
inductive Kind where
 | rd|im|st|esc
inductive c9 where
 | w (r:Nat)
 | q (ts:List Nat)
 | h (ts:List Nat)
 | fa (r j x:Nat)
 | fj|fx
structure Bg where
 first:List Nat
 rest:List Nat
 cls:List c9
 pre:List (List Nat)
 G0:List (List Nat)
 Yz:List (Nat×Nat)
structure A0 where
 n0:Nat
 ro:Nat
 rt:Nat
 mu:TypeId->Bool
 rr:FuncId->Bool
 pl:Nat->Option Bg
structure AK where
 bs:List (List AV)
 ts:List (Nat×Nat)
structure Env where
 P:Program
 G:Nat->Option (List PV)
 kind:FuncId->Kind
 mu:FuncId->TypeId->Bool
 rr:FuncId->FuncId->Bool
 clone:FuncId->Bool
 plan:FuncId->Nat->Option Bg
 told:FuncId->Option (A0->List AV->AK->Option (AV×AK)):=fun _=>none
 bz:TypeId->Bool:=fun _=>false
 back:FuncId->Option TypeId:=fun _=>none
structure St where
 N:Nat
 ρ:Nat->AV
 s:AK
abbrev IW (v:Value):AV:=.pv (.sc v)
def XM (ρ:Nat->AV) (i:Nat) (v:AV) (j:Nat):AV:=bif Nat.beq j i then v else ρ j
def quick (P:Program) {α:Type}:Sem α->Option α
 | .pure a=>some a
 | .program k=>quick P (k P)
 | .mark _ k=>quick P k
 | _=>none
def Gg:AV->Option Value
 | .pv (.sc v)=>some v
 | _=>none
def L5:Value->AV
 | .agg cs=>.agg (cs.toList.map IW)
 | .tuple vs=>.tuple (vs.toList.map IW)
 | v=>IW v
def HZ:Value->AV
 | .slice none 0 0=>.AA []
 | v=>IW v
def ofConst:Value->AV
 | .agg cs=>.agg (cs.toList.map HZ)
 | .tuple vs=>.tuple (vs.toList.map IW)
 | v=>HZ v
def AP (ρ:Nat->AV):Operand->AV
 | .tmp t=>ρ t
 | .const v=>ofConst v
 | .global g=>.De g 0
 | .func f=>.func (.func f) [] []
def cellsOf:AV->List AV
 | .agg cs=>cs
 | v=>[v]
def I3:AV->Option PV
 | .pv p=>some p
 | .AA rows=>some (.list rows)
 | .own _ rows=>some (.list rows)
 | _=>none
def Cn:List AV->Option (List PV)
 | []=>some []
 | c::cs=>match I3 c,Cn cs with
  | some p,some ps=>some (p::ps)
  | _,_=>none
def rowsOf:AV->Option (List (List PV))
 | .pv (.list rows)=>some rows
 | .AA rows=>some rows
 | .own _ rows=>some rows
 | _=>none
def B6 (k:Nat):Nat->List PV->List (List PV)
 | 0,_=>[]
 | n+1,cs=>cs.take k::B6 k n (cs.drop k)
def I4 (bs:List (List AV)) (id off len sz:Nat):Option (List (List PV)):=
 match bs[id]? with
 | some cs=>if off+len*sz<=cs.length/\cs.isEmpty=false then match Cn ((cs.drop off).take (len*sz)) with
   | some ps=>some (B6 sz len ps)
   | none=>none
  else none
 | none=>none
mutual
def close (bs:List (List AV)) (n m:Nat):AV->Option AV
 | .pv p=>some (.pv p)
 | .ptr id off=>if id<n then some (.ptr id off) else none
 | .De g off=>some (.De g off)
 | .DK row off=>some (.DK row off)
 | .AA rows=>some (.AA rows)
 | .own t rows=>if t<m then some (.own t rows) else some (.pv (.list rows))
 | .ref id off len sz=>if id<n then some (.ref id off len sz) else match I4 bs id off len sz with
  | some rows=>some (.pv (.list rows))
  | none=>none
 | .func fn first captured=>match AN bs n m first,AN bs n m captured with
  | some a,some b=>some (.func fn a b)
  | _,_=>none
 | .iface t v=>match close bs n m v with
  | some v=>some (.iface t v)
  | none=>none
 | .agg cs=>match AN bs n m cs with
  | some cs=>some (.agg cs)
  | none=>none
 | .tuple vs=>match AN bs n m vs with
  | some vs=>some (.tuple vs)
  | none=>none
 | .HU=>some .HU
 | .Fg id=>if id<n then some (.Fg id) else none
 | .LD _ _=>none
 | .bz id t k=>if id<n then some (.bz id t k) else none
def AN (bs:List (List AV)) (n m:Nat):List AV->Option (List AV)
 | []=>some []
 | c::cs=>match close bs n m c,AN bs n m cs with
  | some c,some cs=>some (c::cs)
  | _,_=>none
end
mutual
def Dl:AV->Bool
 | .ptr _ _|.ref _ _ _ _|.own _ _|.Fg _|.LD _ _|.bz _ _ _=>false
 | .func _ first captured=>BN first&&BN captured
 | .iface _ v=>Dl v
 | .agg cs=>BN cs
 | .tuple vs=>BN vs
 | _=>true
def BN:List AV->Bool
 | []=>true
 | c::cs=>Dl c&&BN cs
end
mutual
def HK:AV->Bool
 | .ptr _ _|.ref _ _ _ _|.Fg _|.LD _ _|.bz _ _ _=>false
 | .func _ first captured=>HL first&&HL captured
 | .iface _ v=>HK v
 | .agg cs=>HL cs
 | .tuple vs=>HL vs
 | _=>true
def HL:List AV->Bool
 | []=>true
 | c::cs=>HK c&&HL cs
end
def Qh (s:AK) (id:Nat):Option (List AV):=s.bs[id]?
def alive (s:AK) (id:Nat):Bool:=match s.bs[id]? with
 | some (_::_)=>true
 | _=>false
def partOf (P:Program) (t:TypeId) (cs:List AV) (off:Nat):Option AV:=
 match P.underlying t,P.info? t with
 | some d,some i=>match d with
  | .struct _|.array _ _=>if off+i.size<=cs.length/\i.size≠0 then some (.agg ((cs.drop off).take i.size)) else none
  | _=>cs[off]?
 | _,_=>none
def NM (E:Env) (s:AK) (t:TypeId):AV->Option AV
 | .ptr id off=>match Qh s id with
  | some cs=>partOf E.P t cs off
  | none=>none
 | .De g off=>match E.G g with
  | some row=>partOf E.P t (row.map .pv) off
  | none=>none
 | .DK row off=>partOf E.P t (row.map .pv) off
 | _=>none
def setCells (cs:List AV) (off:Nat):List AV->List AV
 | []=>cs
 | v::vs=>setCells (cs.set off v) (off+1) vs
def Ar:AV->Bool
 | .agg _|.tuple _|.LD _ _|.bz _ _ _=>false
 | .pv (.sc (.agg _))|.pv (.sc (.tuple _))=>false
 | _=>true
def Ni (E:Env) (L:A0) (s:AK) (t:TypeId) (a x:AV):Option AK:=
 match a,E.P.info? t with
 | .ptr id off,some i=>match Qh s id with
  | some cs=>
   let vs:=cellsOf x
   if vs.length=i.size/\off+vs.length<=cs.length/\L.ro<=id/\(vs.all Ar)=true/\(L.n0<=id\/HL vs=true)/\i.size≠0 then
    some { s with bs:=s.bs.set id (setCells cs off vs) } else none
  | none=>none
 | _,_=>none
def NN (E:Env) (id:Nat) (t:TypeId) (z:List AV):List AV:=bif E.bz t then match z with
  | .pv (.sc (.pointer none))::r=>.bz id t (r.length+1)::r
  | z=>z
 else z
def Gk (s:AK) (cs:List AV):AV×AK:=(.ptr s.bs.length 0,{ s with bs:=s.bs++[cs] })
def Lp (place:Nat->Option (Nat×Nat)) (cells:List AV):List (Nat×AV)->Option (List AV)
 | []=>some cells
 | (i,v)::rest=>match place i with
  | none=>none
  | some (off,size)=>
   if (cellsOf v).length=size/\off+size<=cells.length/\(cellsOf v).all Ar=true then
    Lp place (setCells cells off (cellsOf v)) rest
   else none
def zeroOf (P:Program) (t:TypeId):Option (List AV):=
 match P.info? t with
 | some i=>match i.zero with
  | some v=>some (cellsOf (ofConst v))
  | none=>none
 | none=>none
def Dd (P:Program) (t:TypeId):Option Nat:=match P.info? t with|some i=>some i.size|none=>none
def XN (P:Program) (fields:Array Field) (i:Nat):Option (Nat×Nat):=
 match fields[i]? with
 | some f=>match Dd P f.type with|some k=>some (f.offset,k)|none=>none
 | none=>none
def Pd (P:Program) (t:TypeId) (parts:List (Nat×AV)):Option AV:=
 match zeroOf P t,P.underlying t with
 | some z,some (.struct fields)=>
  match Lp (XN P fields) z parts with
  | some cs=>if fields.all (fun f=>(Dd P f.type).isSome) then some (.agg cs) else none
  | none=>none
 | some z,some (.array _ elem)=>
  match Dd P elem with
  | some k=>match Lp (fun i=>some (i*k,k)) z parts with
   | some cs=>some (.agg cs)
   | none=>none
  | none=>none
 | _,_=>none
def Fh {α:Type} (n:Nat) (l:List α):List α:=match n with
 | 0=>[]
 | n+1=>l++Fh n l
def G1 (P:Program) (L:A0) (s:AK) (t:TypeId) (len:Nat) (parts:List (Nat×AV)):Option (AV×AK):=
 match P.underlying t with
 | some (.slice elem)=>match Dd P elem,zeroOf P elem with
  | some k,some z=>
   if len*k<=2 ^ 24/\z.length=k/\k≠0 then
    match Lp (fun i=>some (i*k,k)) (Fh len z) parts with
    | some cs=>bif L.mu elem&&Nat.blt 0 len then some (.ref s.bs.length 0 len k,{ s with bs:=s.bs++[cs] })
     else match Cn cs with
     | some ps=>some (.AA (B6 k len ps),s)
     | none=>none
    | none=>none
   else none
  | _,_=>none
 | _=>none
def LF (P:Program) (s:AK) (t:TypeId) (len cap:AV):Option (AV×AK):=
 match P.underlying t,len,cap with
 | some (.slice elem),.pv (.sc (.int .i64 l)),.pv (.sc (.int .i64 c))=>match P.info? elem,zeroOf P elem with
  | some i,some z=>
   if 0<=l/\l<=c/\c<=2 ^ 40/\c*i.bytes<=2 ^ 45/\z.length=i.size/\i.size≠0 then
    if c=0 then some (.AA [],s)
    else if l=c then some (.ref s.bs.length 0 l.toNat i.size,{ s with bs:=s.bs++[Fh l.toNat z] })
    else if l=0 then some (.own s.ts.length [],{ s with ts:=s.ts++[(0,elem)] })
    else none
   else none
  | _,_=>none
 | _,_,_=>none
def KY (s:AK):AV->Option AV
 | .ptr id off=>bif alive s id then some (.ptr id off) else none
 | .De g off=>some (.De g off)
 | .DK r off=>some (.DK r off)
 | .func (.func f) a b=>some (.func (.func f) a b)
 | _=>none
def He (P:Program) (s:AK) (t:TypeId) (x:AV) (field:Nat):Option AV:=
 match P.underlying t with
 | some (.struct fields)=>match fields[field]? with
  | some f=>match Dd P f.type with
   | some k=>if k=0 then none else match x with
    | .ptr id off=>bif alive s id then some (.ptr id (off+f.offset)) else none
    | .De g off=>some (.De g (off+f.offset))
    | .DK r off=>some (.DK r (off+f.offset))
    | _=>none
   | none=>none
  | none=>none
 | _=>none
def SD (P:Program) (t:TypeId) (x:AV) (field:Nat):Option AV:=
 match P.underlying t,x with
 | some (.struct fields),.agg cs=>match fields[field]? with
  | some f=>partOf P f.type cs f.offset
  | none=>none
 | _,_=>none
def XO:AV->Option Int
 | .pv (.sc (.int _ n))=>some n
 | _=>none
def Hf (P:Program) (s:AK) (t:TypeId) (x ix:AV):Option AV:=
 match P.underlying t,XO ix with
 | some (.slice elem),some i=>match Dd P elem with
  | some k=>match rowsOf x with
   | some rows=>if 0<=i then match rows[i.toNat]? with
     | some row=>if row.length=k/\k≠0 then some (.DK row 0) else none
     | none=>none
    else none
   | none=>match x with
    | .ref id off len sz=>if 0<=i/\i<len/\sz=k/\alive s id=true then some (.ptr id (off+i.toNat*k)) else none
    | _=>none
  | none=>none
 | some (.array len elem),some i=>match Dd P elem with
  | some k=>if 0<=i/\i<len then match x with
    | .ptr id off=>bif alive s id then some (.ptr id (off+i.toNat*k)) else none
    | .De g off=>some (.De g (off+i.toNat*k))
    | .DK r off=>some (.DK r (off+i.toNat*k))
    | _=>none
   else none
  | none=>none
 | _,_=>none
def L6:AV->Nat->Option AV
 | .tuple vs,i=>vs[i]?
 | _,_=>none
def Hg:AV->Option Nat
 | .pv (.sc (.int _ n))=>if 0<=n then some n.toNat else none
 | _=>none
def Gw (d:Nat):Option AV->Option Nat
 | none=>some d
 | some v=>Hg v
def Nj (P:Program) (s:AK) (t:TypeId) (x:AV) (lo hi mx:Option AV):Option AV:=
 match P.underlying t with
 | some (.slice elem)=>match Dd P elem with
  | some k=>match x with
   | .ref id off len sz=>match Gw len hi,Gw 0 lo,mx with
    | some h,some l,none=>if l<=h/\h<=len/\sz=k/\k≠0/\alive s id=true then(if l=h then some (.pv (.list [])) else some (.ref id (off+l*k) (h-l) sz)) else none
    | some h,some l,some m=>match Hg m with
     | some m=>if l=h/\h<=len/\m=h/\hi.isSome=true/\alive s id=true then some (.AA []) else none
     | none=>none
    | _,_,_=>none
   | x=>match rowsOf x with
    | some rows=>match Gw rows.length hi,Gw 0 lo with
     | some h,some l=>
      if l<=h/\h<=rows.length/\(rows.all fun r=>r.length==k)=true then match mx with
       | none=>some (.pv (.list ((rows.take h).drop l)))
       | some m=>match Hg m with
        | some m=>if m=h/\hi.isSome then some (.AA ((rows.take h).drop l)) else none
        | none=>none
      else none
     | _,_=>none
    | none=>none
  | none=>none
 | _=>none
def Bk (s:AK):AV->Option Nat
 | .ref id _ len _=>bif alive s id then some len else none
 | v=>match rowsOf v with
  | some rows=>some rows.length
  | none=>none
def C8 (s:AK) (k:Nat):AV->Option (List AV)
 | .pv (.sc (.string b))=>if k=1 then some (b.data.toList.map fun b=>IW (.int .u8 b.toNat)) else none
 | .ref id off len sz=>match s.bs[id]? with
  | some cs=>if off+len*sz<=cs.length/\sz=k/\alive s id=true then some ((cs.drop off).take (len*sz)) else none
  | none=>none
 | v=>match rowsOf v with
  | some rows=>if (rows.all fun r=>r.length==k)=true then some (rows.flatten.map .pv) else none
  | none=>none
def I5 (P:Program) (L:A0) (s:AK) (t:TypeId) (x y:AV):Option (AV×AK):=
 match P.underlying t with
 | some (.slice elem)=>match P.info? elem with
  | some i=>if (zeroOf P elem).map List.length=some i.size/\i.size≠0 then
    match C8 s i.size y with
    | some []=>match x with
     | .ref id _ _ _=>bif alive s id then some (x,s) else none
     | _=>match rowsOf x with
      | some _=>some (x,s)
      | none=>none
    | some (c::cs)=>if (c::cs).all Ar=true then
     let new:=c::cs
     let n:=new.length / i.size
     match x with
     | .ref id off len sz=>match s.bs[id]? with
      | some old=>if off=0/\sz=i.size/\len*sz<=old.length/\alive s id=true/\(len+n)*i.bytes<=2 ^ 45/\len+n<=2 ^ 45/\L.ro<=id then
        some (.ref s.bs.length 0 (len+n) sz,{ s with bs:=s.bs.set id []++[old.take (len*sz)++new] }) else none
      | none=>none
     | .AA rows=>
      if (rows.length+n)*i.bytes<=2 ^ 45/\rows.length+n<=2 ^ 45/\(rows.all fun r=>r.length==i.size)=true then
       bif L.mu elem then some (.ref s.bs.length 0 (rows.length+n) i.size,{ s with bs:=s.bs++[rows.flatten.map .pv++new] })
       else match Cn new with
       | some ps=>some (.own s.ts.length (rows++B6 i.size n ps),{ s with ts:=s.ts++[(rows.length+n,elem)] })
       | none=>none
      else none
     | .own k rows=>
      if (rows.length+n)*i.bytes<=2 ^ 45/\rows.length+n<=2 ^ 45/\s.ts[k]?=some (rows.length,elem)/\L.rt<=k/\(rows.all fun r=>r.length==i.size)=true then
       match Cn new with
       | some ps=>some (.own k (rows++B6 i.size n ps),{ s with ts:=s.ts.set k (rows.length+n,elem) })
       | none=>none
      else none
     | _=>none
     else none
    | none=>none
   else none
  | none=>none
 | _=>none
def KZ:List AV->Option (List UInt8)
 | []=>some []
 | .pv (.sc (.int .u8 n))::rest=>match KZ rest with
  | some l=>some (UInt8.ofNat n.toNat::l)
  | none=>none
 | _=>none
def LG (s:AK):AV->Option (List UInt8)
 | .pv (.sc _)=>none
 | y=>match C8 s 1 y with
  | some cs=>KZ cs
  | none=>none
def D6 (s:AK):AV->Option Nat
 | .ptr id _=>bif alive s id then some 0 else none
 | .De _ _=>some 0
 | .DK _ _=>some 0
 | .func _ _ _=>some 2
 | .iface _ _=>some 3
 | .ref id _ _ _=>bif alive s id then some 1 else none
 | v=>match rowsOf v with
  | some ((_::_)::_)=>some 1
  | _=>none
def Fw (ρ:Nat->AV):Operand->Option Nat
 | .const (.slice none 0 0)=>some 1
 | x=>match AP ρ x with
  | .pv (.sc (.pointer none))=>some 0
  | .pv (.sc .nilFunc)=>some 2
  | .pv (.sc .nilIface)=>some 3
  | _=>none
def C9 (P:Program) (t:TypeId):Option Nat:=match P.underlying t with
 | some (.pointer _)=>some 0
 | some (.slice _)=>some 1
 | some (.func _ _ _)=>some 2
 | some (.interface _)=>some 3
 | _=>none
def sameKind:Option Nat->Option Nat->Option Nat->Bool
 | some a,some b,some c=>Nat.beq a b&&Nat.beq a c
 | _,_,_=>false
def Hh (P:Program) (s:AK) (ρ:Nat->AV) (op:BinOp) (t:TypeId) (x y:Operand):Option AV:=
 bif sameKind (C9 P t) (D6 s (AP ρ x)) (Fw ρ y)||sameKind (C9 P t) (Fw ρ x) (D6 s (AP ρ y)) then match op with
  | .eql=>some (IW (.bool false))
  | .neq=>some (IW (.bool true))
  | _=>none
 else none
def E4 (ρ:Nat->AV) (xs:List Operand):Bool:=xs.all fun x=>(Gg (AP ρ x)).isSome
def Ct (E:Env) (ρ:Nat->AV) (o:Oper):Option AV:=
 if E4 ρ o.op.operands.toList then
  match quick E.P (execOp (fun x=>(Gg (AP ρ x)).getD undef) o) with
  | some (.value v)=>some (L5 v)
  | _=>none
 else none
def E5:List UInt8->List UInt8->Bool
 | [],[]=>true
 | a::xs,b::ys=>Nat.beq a.toNat b.toNat&&E5 xs ys
 | _,_=>false
def Gh:IntKind->Nat
 | .i8=>0|.i16=>1|.i32=>2|.i64=>3|.u8=>4|.u16=>5|.u32=>6|.u64=>7
def iC:AV->Option Value
 | .pv (.sc v)=>some v
 | .func (.func f) [] []=>some (.func (.func f) #[] #[])
 | _=>none
def SE:List AV->Option (List Value)
 | []=>some []
 | c::cs=>match iC c,SE cs with
  | some v,some vs=>some (v::vs)
  | _,_=>none
def iD:AV->Option Value
 | .agg cs=>match SE cs with
  | some vs=>some (.agg vs.toArray)
  | none=>none
 | c=>iC c
def Ro:Value->AV
 | .func fn a b=>.func fn (a.toList.map IW) (b.toList.map IW)
 | v=>IW v
def lB:Value->AV
 | .agg cs=>.agg (cs.toList.map Ro)
 | .func fn a b=>.func fn (a.toList.map IW) (b.toList.map IW)
 | v=>L5 v
def Ms (k:List UInt8):List MapEntry->Nat->Option (Option (Nat×Value))
 | [],_=>some none
 | e::es,i=>match e.key with
  | .string b=>bif E5 k b.data.toList then some (some (i,e.val)) else Ms k es (i+1)
  | _=>none
def SG (P:Program) (t:TypeId) (k:Value) (es:List MapEntry):Option (Option (Nat×Value)):=
 match P.underlying t with
 | some (.int i)=>Instr.findNow (.int i) k es 0
 | some .string=>match k with
  | .string b=>Ms b.data.toList es 0
  | _=>none
 | _=>none
def LH (s:AK):AV->Option (List MapEntry×Nat)
 | .Fg id=>match s.bs[id]? with
  | some [.LD es clock]=>some (es,clock)
  | _=>none
 | _=>none
def Oa (P:Program) (s:AK) (t:TypeId) (m k:AV) (commaOk:Bool):Option AV:=
 match P.underlying t,LH s m,Gg k with
 | some (.map kt elem),some (es,_),some key=>match SG P kt key es with
  | some (some (_,v))=>some (bif commaOk then .tuple [lB v,IW (.bool true)] else lB v)
  | some none=>match P.info? elem with
   | some i=>match i.zero with
    | some z=>some (bif commaOk then .tuple [ofConst z,IW (.bool false)] else ofConst z)
    | none=>none
   | none=>none
  | none=>none
 | _,_,_=>none
def Nk (L:A0) (s:AK) (es:List MapEntry) (clock:Nat):AV->Option AK
 | .Fg id=>bif Nat.ble L.ro id then some { s with bs:=s.bs.set id [.LD es clock] } else none
 | _=>none
def LI (P:Program) (L:A0) (s:AK) (t:TypeId) (m k x:AV):Option AK:=
 match P.underlying t,LH s m,Gg k,iD x with
 | some (.map kt _),some (es,clock),some key,some v=>match SG P kt key es with
  | some (some (i,_))=>match (es[i]?).map (·.key) with
   | some old=>bif Instr.sameBits 10000 old key then Nk L s (es.modify i fun e=>{ e with key:=key,val:=v }) clock m else none
   | none=>none
  | some none=>Nk L s (es++[{ key:=key,val:=v,born:=clock }]) (clock+1) m
  | none=>none
 | _,_,_,_=>none
def XP (P:Program) (L:A0) (s:AK) (t:TypeId) (m k:AV):Option AK:=
 match P.underlying t,LH s m,Gg k with
 | some (.map kt _),some (es,clock),some key=>match SG P kt key es with
  | some (some (i,_))=>Nk L s (es.eraseIdx i) clock m
  | some none=>Nk L s es clock m
  | none=>none
 | _,_,_=>none
def LJ:List UInt8->List UInt8->Bool
 | _,[]=>false
 | [],_::_=>true
 | a::x,b::y=>Nat.blt a.toNat b.toNat||(Nat.beq a.toNat b.toNat&&LJ x y)
def XQ (k:IntKind) (op:BinOp) (a b:Nat):Option Value:=match op with
 | .eql=>some (.bool (Nat.beq a b))
 | .neq=>some (.bool (!Nat.beq a b))
 | .lss=>some (.bool (Nat.blt a b))
 | .leq=>some (.bool (Nat.ble a b))
 | .gtr=>some (.bool (Nat.blt b a))
 | .geq=>some (.bool (Nat.ble b a))
 | .add=>bif Nat.beq (Gh k) 3&&Nat.blt (a+b) 9223372036854775808 then some (.int .i64 (.ofNat (a+b))) else none
 | .sub=>bif Nat.beq (Gh k) 3&&(Nat.ble b a&&Nat.blt a 9223372036854775808) then some (.int .i64 (.ofNat (a-b))) else none
 | _=>none
def XR (op:BinOp) (a b:List UInt8):Option Value:=match op with
 | .eql=>some (.bool (E5 a b))
 | .neq=>some (.bool (!E5 a b))
 | .lss=>some (.bool (LJ a b))
 | .leq=>some (.bool (LJ a b||E5 a b))
 | .gtr=>some (.bool (!(LJ a b||E5 a b)))
 | .geq=>some (.bool (!LJ a b))
 | _=>none
def I6 (op:BinOp):AV->AV->Option Value
 | .pv (.sc (.int k (.ofNat a))),.pv (.sc (.int k' (.ofNat b)))=>bif Nat.beq (Gh k) (Gh k') then XQ k op a b else none
 | .pv (.sc (.string a)),.pv (.sc (.string b))=>XR op a.data.toList b.data.toList
 | _,_=>none
def SH (op:UnOp):AV->Option Value
 | .pv (.sc (.bool b))=>match op with
  | .not=>some (.bool !b)
  | _=>none
 | _=>none
def Ka (P:Program) (t:TypeId):AV->AV->Option Value
 | .pv (.sc (.string b)),.pv (.sc (.int _ (.ofNat n)))=>match P.underlying t,b.data.toList[n]? with
  | some .string,some c=>some (.int .u8 c.toNat)
  | _,_=>none
 | _,_=>none
def Mt (P:Program) (t:TypeId):AV->Option Value
 | .pv (.sc (.string b))=>match P.underlying t with
  | some .string=>some (.int .i64 (.ofNat b.data.toList.length))
  | _=>none
 | _=>none
def CE (E:Env) (L:A0) (ρ:Nat->AV) (s:AK) (o:Oper):Option (AV×AK):=
 let q (r:Option AV):Option (AV×AK):=match r with|some v=>some (v,s)|none=>none
 match o.op with
 | .move x|.assign x=>some (AP ρ x,s)
 | .pick c a b=>match AP ρ c with
  | .pv (.sc (.bool t))=>some (bif t then AP ρ a else AP ρ b,s)
  | _=>none
 | .alloc t=>match zeroOf E.P t with
  | some z=>some (Gk s (NN E s.bs.length t z))
  | none=>none
 | .box t x=>if (cellsOf (AP ρ x)).all Ar then some (Gk s (NN E s.bs.length t (cellsOf (AP ρ x)))) else none
 | .build t parts=>q (Pd E.P t (parts.toList.map fun p=>(p.1,AP ρ p.2)))
 | .buildSlice t len parts=>G1 E.P L s t len (parts.toList.map fun p=>(p.1,AP ρ p.2))
 | .makeSlice t l c=>LF E.P s t (AP ρ l) (AP ρ c)
 | .load t a=>q (NM E s t (AP ρ a))
 | .store t a x=>match Ni E L s t (AP ρ a) (AP ρ x) with
  | some s'=>some (.tuple [],s')
  | none=>none
 | .nilCheck x=>q (KY s (AP ρ x))
 | .fieldAddr t x f=>q (He E.P s t (AP ρ x) f)
 | .field t x f=>q (SD E.P t (AP ρ x) f)
 | .indexAddr t x i=>q (Hf E.P s t (AP ρ x) (AP ρ i))
 | .extract t i=>q (L6 (AP ρ t) i)
 | .makeFunc fn first captured=>some (.func fn (first.toList.map (AP ρ)) (captured.toList.map (AP ρ)),s)
 | .makeInterface t x=>match E.P.underlying t with
  | some (.interface _)=>none
  | some _=>some (.iface t (AP ρ x),s)
  | none=>none
 | .slice t x lo hi mx=>
  match Nj E.P s t (AP ρ x) (lo.map (AP ρ)) (hi.map (AP ρ)) (mx.map (AP ρ)) with
  | some v=>some (v,s)
  | none=>q (Ct E ρ o)
 | .call { callee:=.builtin .len,args:=args,argTypes:=ts }=>
  match args.toList,ts.toList with
  | [x],[t]=>match Mt E.P t (AP ρ x) with
   | some v=>some (IW v,s)
   | none=>match E.P.underlying t,Bk s (AP ρ x) with
    | some (.slice _),some n=>some (IW (.int .i64 n),s)
    | _,_=>q (Ct E ρ o)
  | _,_=>none
 | .call { callee:=.builtin .append,args:=args,argTypes:=ts }=>
  match args.toList,ts.toList with
  | [x,y],t::u::_=>match E.P.underlying u with
   | some (.int _)=>none
   | some _=>I5 E.P L s t (AP ρ x) (AP ρ y)
   | none=>none
  | _,_=>none
 | .call { callee:=.builtin .delete,args:=args,argTypes:=ts }=>
  match args.toList,ts.toList with
  | [m,k],t::_=>match XP E.P L s t (AP ρ m) (AP ρ k) with
   | some s'=>some (.tuple [],s')
   | none=>none
  | _,_=>none
 | .call { callee:=.builtin _,.. }=>q (Ct E ρ o)
 | .makeMap _ none=>some (.Fg s.bs.length,{ s with bs:=s.bs++[[.LD [] 0]] })
 | .lookup t m k ok=>q (Oa E.P s t (AP ρ m) (AP ρ k) ok)
 | .mapUpdate t m k x|.insert t m k x=>match LI E.P L s t (AP ρ m) (AP ρ k) (AP ρ x) with
  | some s'=>some (.tuple [],s')
  | none=>none
 | .binOp op t x y _=>match I6 op (AP ρ x) (AP ρ y) with
  | some v=>some (IW v,s)
  | none=>match Hh E.P s ρ op t x y with
   | some v=>some (v,s)
   | none=>q (Ct E ρ o)
 | .convert a b x=>match E.P.underlying a,E.P.underlying b,AP ρ x with
  | some .string,some (.slice e),.pv (.sc (.string t))=>match E.P.underlying e with
   | some (.int .u8)=>some (.pv (.list (t.data.toList.map fun b=>[.sc (.int .u8 b.toNat)])),s)
   | _=>none
  | some (.slice e),some .string,y=>match E.P.underlying e,LG s y with
   | some (.int .u8),some l=>some (IW (.string ⟨l.toArray⟩),s)
   | _,_=>none
  | _,_,_=>q (Ct E ρ o)
 | .unOp op _ x=>match SH op (AP ρ x) with
  | some v=>some (IW v,s)
  | none=>q (Ct E ρ o)
 | .index t x i=>match Ka E.P t (AP ρ x) (AP ρ i) with
  | some v=>some (IW v,s)
  | none=>q (Ct E ρ o)
 | _=>none
def ADL (E:Env) (ρ:Nat->AV) (s:AK) (t:TypeId) (a:Operand):Option (AV×AK):=match NM E s t (AP ρ a) with
 | some v=>some (v,s)
 | none=>none
def Y9 (E:Env) (ρ:Nat->AV) (s:AK) (t:TypeId) (x:Operand) (f:Nat):Option (AV×AK):=match He E.P s t (AP ρ x) f with
 | some v=>some (v,s)
 | none=>none
def yA (E:Env) (ρ:Nat->AV) (s:AK) (t:TypeId) (x:Operand) (f:Nat):Option (AV×AK):=match SD E.P t (AP ρ x) f with
 | some v=>some (v,s)
 | none=>none
def ZA (E:Env) (ρ:Nat->AV) (s:AK) (t:TypeId) (x i:Operand):Option (AV×AK):=match Hf E.P s t (AP ρ x) (AP ρ i) with
 | some v=>some (v,s)
 | none=>none
def lD (ρ:Nat->AV) (s:AK) (x:Operand) (i:Nat):Option (AV×AK):=match L6 (AP ρ x) i with
 | some v=>some (v,s)
 | none=>none
def yB (E:Env) (ρ:Nat->AV) (s:AK) (t:TypeId) (parts:Array (Nat×Operand)):Option (AV×AK):=match Pd E.P t (parts.toList.map fun p=>(p.1,AP ρ p.2)) with
 | some v=>some (v,s)
 | none=>none
def yC (E:Env) (L:A0) (ρ:Nat->AV) (s:AK) (t:TypeId) (a x:Operand):Option (AV×AK):=match Ni E L s t (AP ρ a) (AP ρ x) with
 | some s'=>some (.tuple [],s')
 | none=>none
def AHM (E:Env) (ρ:Nat->AV) (s:AK) (o:Oper) (op:BinOp) (t:TypeId) (x y:Operand):Option (AV×AK):=match I6 op (AP ρ x) (AP ρ y) with
 | some v=>some (IW v,s)
 | none=>match Hh E.P s ρ op t x y with
  | some v=>some (v,s)
  | none=>match Ct E ρ o with
   | some v=>some (v,s)
   | none=>none
def opF (E:Env) (L:A0) (ρ:Nat->AV) (s:AK) (o:Oper):Option (AV×AK):=match o.op with
 | .move x=>some (AP ρ x,s)
 | .assign x=>some (AP ρ x,s)
 | .load t a=>ADL E ρ s t a
 | .fieldAddr t x f=>Y9 E ρ s t x f
 | .field t x f=>yA E ρ s t x f
 | .indexAddr t x i=>ZA E ρ s t x i
 | .extract x i=>lD ρ s x i
 | .build t parts=>yB E ρ s t parts
 | .store t a x=>yC E L ρ s t a x
 | .binOp op t x y _=>AHM E ρ s o op t x y
 | _=>CE E L ρ s o
theorem nx (E:Env) (L:A0) (ρ:Nat->AV) (s:AK) (o:Oper):opF E L ρ s o=CE E L ρ s o:=by
 obtain⟨dst,op,type,pos,after,guard⟩:=o;cases op <;> rfl
def J5 (ρ:Nat->AV) (c:Call):Option (FuncId×List AV):=
 match c.callee with
 | .value f=>match AP ρ f with
  | .func (.func g) first captured=>some (g,first++c.args.toList.map (AP ρ)++captured)
  | _=>none
 | _=>none
inductive Out where
 | norm|exit (id:Nat)|ret
def Ob (ops:Array Oper) (o:Oper):Option Nat:=match o.guard with
 | none=>none
 | some (j,_)=>match ops[j]? with
  | some p=>p.dst
  | none=>none
def E6 (ops:Array Oper) (ρ:Nat->AV) (o:Oper):Option Bool:=
 match o.guard with
 | none=>some true
 | some (_,want)=>match Ob ops o with
  | some d=>match ρ d with
   | .pv (.sc (.bool b))=>some (b==want)
   | .tuple []=>some false
   | _=>none
  | none=>some false
def Kb (st:St) (d:Option Nat) (v:AV):Option St:=
 match d with
 | none=>some st
 | some d=>bif Nat.blt d st.N then some { st with ρ:=XM st.ρ d v } else none
abbrev Co:=FuncId->List AV->AK->Option (AV×AK)
def lF (E:Env) (L:A0) (cf:Co) (ρ:Nat->AV) (s:AK) (o:Oper):Option (AV×AK):=
 match o.op with
 | .call c=>match c.callee with
  | .builtin _=>CE E L ρ s o
  | _=>match J5 ρ c with
   | some (f,args)=>cf f args s
   | none=>none
 | _=>CE E L ρ s o
def ND (E:Env) (L:A0) (cf:Co) (ρ:Nat->AV) (s:AK) (o:Oper):Option (AV×AK):=
 match o.op with
 | .call c=>match c.callee with
  | .builtin _=>CE E L ρ s o
  | _=>match J5 ρ c with
   | some (f,args)=>cf f args s
   | none=>none
 | _=>opF E L ρ s o
theorem Mu (E:Env) (L:A0) (cf:Co) (ρ:Nat->AV) (s:AK) (o:Oper):ND E L cf ρ s o=lF E L cf ρ s o:=by
 unfold ND lF;simp only[nx]
def NP (E:Env) (L:A0) (cf:Co) (st:St) (o:Oper):Option St:=
 match ND E L cf st.ρ st.s o with
 | some (v,s)=>Kb { st with s:=s } o.dst v
 | none=>none
def Lq:Operand->Nat->Bool
 | .tmp t,d=>Nat.beq t d
 | _,_=>false
structure Kc where
 t:TypeId
 x:Operand
 y:Operand
 d:Nat
 ix:Operand
 p:Nat
 te:TypeId
 v:Operand
def fused (o o1 o2:Oper):Option Kc:=
 match o.op,o.dst,o1.op,o1.dst,o2.op,o2.dst with
 | .call { callee:=.builtin .append,args:=args,argTypes:=ts },some d,.indexAddr t1 (.tmp d1) ix,some p,.store te (.tmp p1) v,none=>
  match args.toList,ts.toList with
  | [x,y],[t,t']=>if d1=d/\p1=p/\t1=t/\t'=t/\d≠p/\o.guard.isNone=true/\o1.guard.isNone=true/\o2.guard.isNone=true/\Lq ix d=false/\Lq v d=false/\Lq v p=false/\Lq x d=false/\Lq y d=false/\Lq x p=false/\Lq y p=false/\Lq ix p=false then
    some ⟨t,x,y,d,ix,p,te,v⟩ else none
  | _,_=>none
 | _,_,_,_,_,_=>none
def Ke (L:A0) (s:AK) (elem:TypeId) (i:TypeInfo) (x:AV) (row:List PV):Option (AV×AK):=
 match x with
 | .AA rows=>
  if (rows.length+1)*i.bytes<=2 ^ 45/\rows.length+1<=2 ^ 45/\(rows.all fun r=>r.length==i.size)=true then
   some (.own s.ts.length (rows++[row]),{ s with ts:=s.ts++[(rows.length+1,elem)] })
  else none
 | .own k rows=>
  if (rows.length+1)*i.bytes<=2 ^ 45/\rows.length+1<=2 ^ 45/\s.ts[k]?=some (rows.length,elem)/\L.rt<=k/\(rows.all fun r=>r.length==i.size)=true then
   some (.own k (rows++[row]),{ s with ts:=s.ts.set k (rows.length+1,elem) })
  else none
 | _=>none
def Kf (E:Env) (L:A0) (ρ:Nat->AV) (s:AK) (k:Kc):Option (AV×AK):=
 match E.P.underlying k.t with
 | some (.slice elem)=>
  if L.mu elem=false/\k.te=elem then
   match E.P.info? elem,rowsOf (AP ρ k.x),rowsOf (AP ρ k.y),Hg (AP ρ k.ix),Cn (cellsOf (AP ρ k.v)) with
   | some i,some rows,some [z],some n,some row=>
    if n=rows.length/\z.length=i.size/\row.length=i.size/\(cellsOf (AP ρ k.v)).all Ar=true/\(z.map AV.pv).all Ar=true/\i.size≠0/\(zeroOf E.P elem).map List.length=some i.size then
     Ke L s elem i (AP ρ k.x) row
    else none
   | _,_,_,_,_=>none
  else none
 | _=>none
def ZB (E:Env) (L:A0) (ρ:Nat->AV) (s:AK) (k:Kc):Option (AV×AK):=
 match E.P.underlying k.t with
 | some (.slice elem)=>
  if L.mu elem=true/\k.te=elem then
   match E.P.info? elem,AP ρ k.x,Hg (AP ρ k.ix) with
   | some i,.ref id off len sz,some n=>match C8 s i.size (AP ρ k.y),s.bs[id]? with
    | some zs,some old=>
     if n=len/\zs.length=i.size/\(cellsOf (AP ρ k.v)).length=i.size/\(cellsOf (AP ρ k.v)).all Ar=true/\zs.all Ar=true/\i.size≠0/\(zeroOf E.P elem).map List.length=some i.size /\
       off=0/\sz=i.size/\len*sz<=old.length/\alive s id=true/\(len+1)*i.bytes<=2 ^ 45/\len+1<=2 ^ 45/\L.ro<=id then
      some (.ref s.bs.length 0 (len+1) sz,{ s with bs:=s.bs.set id []++[old.take (len*sz)++cellsOf (AP ρ k.v)] })
     else none
    | _,_=>none
   | _,_,_=>none
  else none
 | _=>none
def NQ (E:Env) (L:A0) (ρ:Nat->AV) (s:AK) (k:Kc):Option (AV×AK):=match Kf E L ρ s k with
 | some r=>some r
 | none=>ZB E L ρ s k
def LK (st:St) (k:Kc) (v:AV) (s:AK):Option St:=
 match Kb { st with s:=s } (some k.d) v with
 | some st=>Kb st (some k.p) .HU
 | none=>none
def Ip (E:Env) (L:A0) (cf:Co) (ops:Array Oper):List Oper->St->Option St
 | [],st=>some st
 | o::rest,st=>
  let one:Option St:=match E6 ops st.ρ o with
   | some true=>match NP E L cf st o with
    | some st=>Ip E L cf ops rest st
    | none=>none
   | some false=>match Kb st o.dst (.tuple []) with
    | some st=>Ip E L cf ops rest st
    | none=>none
   | none=>none
  match rest with
  | o1::o2::rest'=>match fused o o1 o2 with
   | some k=>match Kf E L st.ρ st.s k with
    | some (v,s)=>match LK st k v s with
     | some st=>Ip E L cf ops rest' st
     | none=>none
    | none=>one
   | none=>one
  | _=>one
def hcells (E:Env) (ρ:Nat->AV) (o:Oper):Option (List AV×(Nat->AV)):=
 match o.op with
 | .alloc t=>match zeroOf E.P t with
  | some z=>bif E.bz t then none else some (z,fun id=>.ptr id 0)
  | none=>none
 | .makeSlice t l c=>match E.P.underlying t,AP ρ l,AP ρ c with
  | some (.slice elem),.pv (.sc (.int .i64 l)),.pv (.sc (.int .i64 c))=>match E.P.info? elem,zeroOf E.P elem with
   | some i,some z=>
    if 0<l/\l=c/\c<=2 ^ 40/\c*i.bytes<=2 ^ 45/\z.length=i.size/\i.size≠0 then some (Fh l.toNat z,fun id=>.ref id 0 l.toNat i.size)
    else none
   | _,_=>none
  | _,_,_=>none
 | _=>none
def Kg:AV->Option Nat
 | .ptr id _=>some id
 | .ref id _ _ _=>some id
 | _=>none
def ZC:Int->Int->Bool
 | .ofNat a,.ofNat b=>Nat.beq a b
 | .negSucc a,.negSucc b=>Nat.beq a b
 | _,_=>false
def oC:Value->Value->Bool
 | .int k n,.int k' n'=>Nat.beq (Gh k) (Gh k')&&ZC n n'
 | .bool a,.bool b=>a==b
 | .string a,.string b=>E5 a.data.toList b.data.toList
 | .pointer none,.pointer none=>true
 | .nilFunc,.nilFunc=>true
 | .nilIface,.nilIface=>true
 | .map none,.map none=>true
 | .slice none a b,.slice none c d=>Nat.beq a c&&Nat.beq b d
 | _,_=>false
mutual
def VF:PV->PV->Bool
 | .sc a,.sc b=>oC a b
 | .list a,.list b=>IX a b
 | _,_=>false
def SI:List PV->List PV->Bool
 | [],[]=>true
 | a::xs,b::ys=>VF a b&&SI xs ys
 | _,_=>false
def IX:List (List PV)->List (List PV)->Bool
 | [],[]=>true
 | a::xs,b::ys=>SI a b&&IX xs ys
 | _,_=>false
end
def lG:List MapEntry->List MapEntry->Bool
 | [],[]=>true
 | a::xs,b::ys=>oC a.key b.key&&oC a.val b.val&&Nat.beq a.born b.born&&lG xs ys
 | _,_=>false
mutual
def Cu:AV->AV->Bool
 | .pv a,.pv b=>VF a b
 | .ptr a b,.ptr c d=>Nat.beq a c&&Nat.beq b d
 | .De a b,.De c d=>Nat.beq a c&&Nat.beq b d
 | .DK a b,.DK c d=>SI a c&&Nat.beq b d
 | .AA a,.AA b=>IX a b
 | .own t a,.own u b=>Nat.beq t u&&IX a b
 | .ref a b c d,.ref a' b' c' d'=>Nat.beq a a'&&Nat.beq b b'&&Nat.beq c c'&&Nat.beq d d'
 | .func (.func f) a b,.func (.func g) c d=>Nat.beq f g&&L7 a c&&L7 b d
 | .iface t a,.iface u b=>Nat.beq t u&&Cu a b
 | .agg a,.agg b=>L7 a b
 | .tuple a,.tuple b=>L7 a b
 | .HU,.HU=>true
 | .Fg a,.Fg b=>Nat.beq a b
 | .LD a c,.LD b d=>lG a b&&Nat.beq c d
 | .bz a t n,.bz b u m=>Nat.beq a b&&Nat.beq t u&&Nat.beq n m
 | _,_=>false
def L7:List AV->List AV->Bool
 | [],[]=>true
 | a::xs,b::ys=>Cu a b&&L7 xs ys
 | _,_=>false
end
def Dm (E:Env) (L:A0) (ρ:Nat->AV) (s:AK) (o:Oper):Option AV:=
 match o.op with
 | .alloc _|.box _ _|.store _ _ _|.makeMap _ _|.mapUpdate _ _ _ _|.insert _ _ _ _=>none
 | .makeSlice _ _ _=>match CE E L ρ s o with
  | some (.AA [],_)=>some (.AA [])
  | _=>none
 | .call { callee:=.builtin .delete,.. }=>none
 | .buildSlice t _ _=>match E.P.underlying t with
  | some (.slice elem)=>bif L.mu elem then none else match CE E L ρ s o with
   | some (v,_)=>some v
   | none=>none
  | _=>none
 | .call { callee:=.builtin .append,.. }=>none
 | _=>match CE E L ρ s o with
  | some (v,_)=>some v
  | none=>none
def JR (E:Env) (L:A0) (ρ:Nat->AV) (s:AK) (o:Oper):Option AV:=
 match o.op with
 | .alloc _|.box _ _|.store _ _ _|.makeMap _ _|.mapUpdate _ _ _ _|.insert _ _ _ _=>none
 | .makeSlice _ _ _=>match CE E L ρ s o with
  | some (.AA [],_)=>some (.AA [])
  | _=>none
 | .call { callee:=.builtin .delete,.. }=>none
 | .buildSlice t _ _=>match E.P.underlying t with
  | some (.slice elem)=>bif L.mu elem then none else match CE E L ρ s o with
   | some (v,_)=>some v
   | none=>none
  | _=>none
 | .call { callee:=.builtin .append,.. }=>none
 | _=>match opF E L ρ s o with
  | some (v,_)=>some v
  | none=>none
theorem Kh (E:Env) (L:A0) (ρ:Nat->AV) (s:AK) (o:Oper):JR E L ρ s o=Dm E L ρ s o:=by
 unfold JR Dm;simp only[nx]
def FQ (E:Env) (L:A0) (ops:Array Oper) (ρ:Nat->AV) (s:AK) (o:Oper):Option AV:=
 match E6 ops ρ o with
 | some true=>JR E L ρ s o
 | some false=>some (.tuple [])
 | none=>none
def Nl (E:Env) (L:A0) (cf:Co) (ops:Array Oper) (ρ:Nat->AV) (s:AK) (o:Oper):Option (AV×AK):=
 match E6 ops ρ o with
 | some true=>ND E L cf ρ s o
 | some false=>some (.tuple [],s)
 | none=>none
def Iq (E:Env) (L:A0) (ops:Array Oper) (cls:List c9):List Nat->St->Option St
 | [],st=>some st
 | i::rest,st=>match ops[i]?,cls[i]? with
  | some o,some (.q _)=>match FQ E L ops st.ρ st.s o with
   | some v=>match Kb st o.dst v with
    | some st=>Iq E L ops cls rest st
    | none=>none
   | none=>none
  | some o,some (.h _)=>match hcells E st.ρ o with
   | some (cs,mk)=>match Kb { st with s:={ st.s with bs:=st.s.bs++[cs] } } o.dst (mk st.s.bs.length) with
    | some st=>Iq E L ops cls rest st
    | none=>none
   | none=>none
  | _,_=>none
def G2 (E:Env) (L:A0) (cf:Co) (ops:Array Oper) (cls:List c9):List Nat->St->List AK->Option (St×List AK)
 | [],st,acc=>some (st,acc)
 | i::rest,st,acc=>match ops[i]?,cls[i]? with
  | some o,some (.q _)=>match FQ E L ops st.ρ st.s o with
   | some v=>match Kb st o.dst v with
    | some st=>G2 E L cf ops cls rest st acc
    | none=>none
   | none=>none
  | some o,some (.w _)=>match Nl E L cf ops st.ρ st.s o with
   | some (v,s)=>match Kb { st with s:=s } o.dst v with
    | some st=>G2 E L cf ops cls rest st (s::acc)
    | none=>none
   | none=>none
  | some o,some (.fa _ j x)=>match ops[j]?,ops[x]? with
   | some o1,some o2=>match fused o o1 o2 with
    | some k=>match NQ E L st.ρ st.s k with
     | some (v,s)=>match LK st k v s with
      | some st=>G2 E L cf ops cls rest st (s::acc)
      | none=>none
     | none=>none
    | none=>none
   | _,_=>none
  | some _,some .fj=>G2 E L cf ops cls rest st acc
  | some _,some .fx=>G2 E L cf ops cls rest st acc
  | _,_=>none
def HM (G0:List (List Nat)) (i:Nat):List Nat:=match G0[i]? with
 | some l=>l
 | none=>[]
def has (l:List Nat) (x:Nat):Bool:=l.any fun y=>Nat.beq y x
def Fx (G0:List (List Nat)) (ρ0 ρf:Nat->AV) (i t:Nat):AV:=bif has (HM G0 i) t then ρ0 t else ρf t
def dA (E:Env) (L:A0) (ops:Array Oper) (cls:List c9) (G0:List (List Nat)) (ρ0 ρf:Nat->AV) (σ:List AK):List (Nat×Nat)->Bool
 | []=>true
 | (i,k)::rest=>(match ops[i]?,cls[i]?,σ[k]? with
  | some o,some (.q _),some s=>match FQ E L ops (Fx G0 ρ0 ρf i) s o with
   | some v=>match o.dst with
    | some d=>Cu v (ρf d)
    | none=>true
   | none=>false
  | some o,some (.h _),some s=>match hcells E (Fx G0 ρ0 ρf i) o,o.dst with
   | some (cs,_),some d=>match Kg (ρf d) with
    | some id=>match s.bs[id]? with
     | some cs'=>L7 cs' cs
     | none=>false
    | none=>false
   | _,_=>false
  | _,_,_=>false)&&dA E L ops cls G0 ρ0 ρf σ rest
def VG (ops:Array Oper) (p:Bg) (ρ0 ρf:Nat->AV) (FR:Nat):List Nat->Bool
 | []=>true
 | m::rest=>(match ops[m]?,p.cls[m]? with
  | some om,some (.w _)=>match om.op with
   | .store _ y _=>match AP (Fx p.G0 ρ0 ρf m) y with
    | .ptr id _=>!(Nat.beq id FR)
    | _=>true
   | _=>true
  | _,_=>true)&&VG ops p ρ0 ρf FR rest
def Ub (E:Env) (L:A0) (ops:Array Oper) (i j x:Nat):Bool:=match ops[i]?,ops[j]?,ops[x]? with
 | some o,some o1,some o2=>match fused o o1 o2 with
  | some k=>match E.P.underlying k.t with
   | some (.slice elem)=>L.mu elem
   | _=>false
  | none=>false
 | _,_,_=>false
def oE (E:Env) (L:A0) (ops:Array Oper) (cls:List c9):List Nat->Bool
 | []=>true
 | i::rest=>(match cls[i]? with
  | some (.fa _ j x)=>!(Ub E L ops i j x)
  | _=>true)&&oE E L ops cls rest
def iE (E:Env) (L:A0) (ops:Array Oper) (p:Bg) (ρ0 ρf:Nat->AV):List Nat->Bool
 | []=>true
 | i::rest=>(match p.cls[i]? with
  | some (.fa _ j x)=>bif Ub E L ops i j x then match ops[i]? with
   | some o=>match o.dst with
    | some d=>match ρf d with
     | .ref FR _ _ _=>VG ops p ρ0 ρf FR p.rest
     | _=>true
    | none=>true
   | none=>true
   else true
  | _=>true)&&iE E L ops p ρ0 ρf rest
def ZD (E:Env) (L:A0) (ops:Array Oper) (p:Bg) (ρ0 ρf:Nat->AV):Bool:=oE E L ops p.cls p.rest||iE E L ops p ρ0 ρf p.rest
def ZE (E:Env) (L:A0) (cf:Co) (p:Bg) (ops:Array Oper) (oG:St):Option St:=
 match Iq E L ops p.cls p.first oG with
 | some st=>match G2 E L cf ops p.cls p.rest st [st.s] with
  | some (st,acc)=>bif dA E L ops p.cls p.G0 oG.ρ st.ρ acc.reverse p.Yz&&ZD E L ops p oG.ρ st.ρ then some st else none
  | none=>none
 | none=>none
def I7 (E:Env) (L:A0) (cf:Co) (ops:Array Oper) (st:St):Option Bg->Option St
 | some p=>ZE E L cf p ops st
 | none=>none
def oH (E:Env) (L:A0) (ops:Array Oper) (st:St) (p q:Option Bg):Option Bg:=match p with
 | some p=>match Iq E L ops p.cls p.first st with
  | some _=>some p
  | none=>q
 | none=>q
def initρ:List AV->Nat->AV
 | [],_=>.tuple []
 | v::_,0=>v
 | _::vs,n+1=>initρ vs n
def Mv (E:Env) (st:St):ResultVar->Option AV
 | .tmp t=>some (st.ρ t)
 | .cell a t=>NM E st.s t (st.ρ a)
def F4 (E:Env) (st:St):List ResultVar->Option (List AV)
 | []=>some []
 | r::rs=>match Mv E st r,F4 E st rs with
  | some v,some vs=>some (v::vs)
  | _,_=>none
def JS:List AV->AV
 | [v]=>v
 | vs=>.tuple vs
def Hi:Code->Bool
 | .rangeFunc _ _ _ _=>false
 | .seq a b=>Hi a&&Hi b
 | .cond _ a b=>Hi a&&Hi b
 | .block _ b=>Hi b
 | .loop b=>Hi b
 | _=>true
def Fy (f:Nat->List PV->AK->Option (Out×AK)) (rows:List (List PV)):Nat->AK->Option (Out×AK)
 | 0,s=>some (.norm,s)
 | j+1,s=>match rows[j]? with
  | some row=>match f j row s with
   | some (.norm,s')=>Fy f rows j s'
   | r=>r
  | none=>none
def iG (P:Program) (el:TypeId) (row:List PV):Option AV:=
 if Dd P el=some row.length/\row.length≠0 then partOf P el (row.map .pv) 0 else none
def F5 (P:Program) (ev:Code->St->Option (Out×St)) (a b:Code) (st:St) (p q:Nat) (el:TypeId) (j:Nat) (row:List PV) (s:AK):Option (Out×AK):=
 match iG P el row with
 | some v=>match ev a ⟨st.N,XM (XM st.ρ p (IW (.int .i64 j))) q v,s⟩ with
  | some (.norm,E7)=>match ev b E7 with
   | some (o,wL)=>some (o,wL.s)
   | none=>none
  | _=>none
 | none=>none
def HV (E:Env) (cf:A0->Co):Nat->A0->Code->St->Option (Out×St)
 | 0,_,_,_=>none
 | n+1,L,c,st=>match c with
  | .skip=>some (.norm,st)
  | .ret=>some (.ret,st)
  | .exit id=>some (.exit id,st)
  | .region _ ops false=>match Ip E L (cf L) ops ops.toList st with
   | some st=>some (.norm,st)
   | none=>none
  | .region id ops true=>match I7 E L (cf L) ops st (oH E L ops st (L.pl id) (L.pl (id+1000000))) with
   | some st=>some (.norm,st)
   | none=>none
  | .seq a b=>match HV E cf n L a st with
   | some (.norm,st)=>HV E cf n L b st
   | r=>r
  | .cond c a b=>match AP st.ρ c with
   | .pv (.sc (.bool t))=>HV E cf n L (bif t then a else b) st
   | _=>none
  | .block id b=>match HV E cf n L b st with
   | some (.exit j,st)=>bif Nat.beq j id then some (.norm,st) else some (.exit j,st)
   | r=>r
  | .loop b=>match HV E cf n L b st with
   | some (.norm,st)=>HV E cf n L (.loop b) st
   | r=>r
  | .rangeFunc g ps a b=>match AP st.ρ g,ps.toList with
   | .func (.func k) [] [.ptr id 0],[p,q]=>match E.back k,st.s.bs[id]? with
    | some el,some (c::_)=>match rowsOf c with
     | some rows=>bif Nat.ble L.ro id&&(Hi a&&(Hi b&&(Nat.blt p st.N&&(Nat.blt q st.N&&(!Nat.beq p q&&(Nat.ble rows.length 1000000000000000000&&(Dd E.P el).isSome)))))) then
       match Fy (F5 E.P (HV E cf n L) a b st p q el) rows rows.length { st.s with bs:=st.s.bs.set id [] } with
       | some (o,s')=>some (o,{ st with s:=s' })
       | none=>none
      else none
     | none=>none
    | _,_=>none
   | _,_=>none
  | _=>none
def Iv (E:Env) (cf:A0->Co) (n:Nat) (fn:Func) (L:A0) (args:List AV) (s:AK):Option (AV×AK):=
 match fn.body with
 | none=>none
 | some body=>match HV E cf n L body ⟨fn.ntmps,initρ args,s⟩ with
  | some (.exit _,_)=>none
  | some (_,st)=>match F4 E st fn.results.toList with
   | some vs=>some (JS vs,st.s)
   | none=>none
  | none=>none
mutual
def Aa (n:Nat):AV->Bool
 | .ptr id _|.ref id _ _ _|.Fg id|.bz id _ _=>Nat.blt id n
 | .func _ first captured=>AU n first&&AU n captured
 | .iface _ v=>Aa n v
 | .agg cs=>AU n cs
 | .tuple vs=>AU n vs
 | _=>true
def AU (n:Nat):List AV->Bool
 | []=>true
 | c::cs=>Aa n c&&AU n cs
end
def SJ (r:Bool) (n:Nat):AV->Option (Nat×Nat×Nat×Nat)
 | .ref id off len sz=>bif r&&Nat.ble n id then some (id,off,len,sz) else none
 | _=>none
def NR (r:Bool) (n:Nat) (v:AV) (s:AK):Option (AV×AK):=
 bif (s.bs.take n).all (AU n) then match SJ r n v with
  | some (id,off,len,sz)=>match s.bs[id]? with
   | some (c::cs)=>bif AU n (c::cs) then some (.ref n off len sz,⟨s.bs.take n++[c::cs],s.ts⟩) else none
   | _=>none
  | none=>match close s.bs n s.ts.length v with
   | some v=>some (v,⟨s.bs.take n,s.ts⟩)
   | none=>none
 else none
def Iw (E:Env) (cf:A0->Co) (n:Nat) (f:FuncId) (fn:Func) (args:List AV) (s:AK):Option (AV×AK):=
 match Iv E cf n fn ⟨0,0,0,E.mu f,E.rr f,E.plan f⟩ args ⟨[],[]⟩ with
 | some (v,s')=>match close s'.bs 0 0 v with
  | some v=>some (v,s)
  | none=>none
 | none=>none
def D3 (E:Env) (cf:A0->Co) (n:Nat) (L:A0) (f:FuncId) (fn:Func) (args:List AV) (s:AK):Option (AV×AK):=
 if args.length<=fn.ntmps then
  match E.kind f with
  | .esc=>Iv E cf n fn { L with mu:=E.mu f,rr:=E.rr f,pl:=E.plan f } args s
  | .rd=>match AN [] 0 0 args with
   | some args=>Iw E cf n f fn args s
   | none=>match Iv E cf n fn ⟨s.bs.length,s.bs.length,s.ts.length,E.mu f,E.rr f,E.plan f⟩ args s with
    | some (v,s')=>match close s'.bs s.bs.length s.ts.length v with
     | some v=>some (v,s)
     | none=>none
    | none=>none
  | k=>bif (match k with|.im=>BN args|_=>false) then Iw E cf n f fn args s else
   match Iv E cf n fn ⟨0,L.ro,L.rt,E.mu f,E.rr f,E.plan f⟩ args s with
   | some (v,s')=>NR (L.rr f) s.bs.length v s'
   | none=>none
 else none
def Gl:List AV->Bool
 | [x]=>match rowsOf x with
  | some []=>true
  | _=>false
 | _=>false
def L8 (E:Env) (L:A0) (f:FuncId) (args:List AV) (s:AK) (r:Option (AV×AK)):Option (AV×AK):=match E.told f with
 | some T=>T L args s
 | none=>bif Gl args then some (.AA [],s) else r
def Cw (E:Env):Nat->A0->Co
 | 0,_,_,_,_=>none
 | n+1,L,f,args,s=>match E.P.funcs[f]? with
  | some fn=>bif E.clone f then L8 E L f args s (D3 E (Cw E n) n L f fn args s) else D3 E (Cw E n) n L f fn args s
  | none=>none
end Go.Tel
