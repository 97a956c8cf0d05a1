/-
  A deterministic evaluator for the model's code on abstract values: definitions only.
-/
import Derived.Test.YtpgfpakdnijngaaGreatDoorAl
set_option linter.all false
namespace Go.Tel
inductive PV where
 | sc (v:Value)
 | list (rows:List (List PV))
inductive AV where
 | pv (p:PV)
 | ptr (id off:Nat)
 | Dt (g off:Nat)
 | Cw (row:List PV) (off:Nat)
 | AE (rows:List (List PV))
 | own (tok:Nat) (rows:List (List PV))
 | ref (id off len sz:Nat)
 | func (fn:Fn) (first captured:List AV)
 | iface (t:TypeId) (v:AV)
 | agg (cs:List AV)
 | tuple (vs:List AV)
 | Gh
 | HQ (id:Nat)
 | O9 (es:List MapEntry) (clock:Nat)
 | bz (id:Nat) (t:TypeId) (n:Nat)
inductive Kind where
 | rd|im|st|esc
inductive aK where
 | w (r:Nat)
 | q (ts:List Nat)
 | h (ts:List Nat)
 | fa (r j x:Nat)
 | fj|fx
structure Bl where
 first:List Nat
 rest:List Nat
 cls:List aK
 pre:List (List Nat)
 GG:List (List Nat)
 Vo:List (Nat×Nat)
structure BL where
 n0:Nat
 ro:Nat
 rt:Nat
 mu:TypeId->Bool
 rr:FuncId->Bool
 pl:Nat->Option Bl
structure AQ where
 bs:List (List AV)
 ts:List (Nat×Nat)
structure Env where
 P:Program
 G:Nat->Option (List PV)
 kind:FuncId->Kind
 mu:FuncId->TypeId->Bool
 rr:FuncId->FuncId->Bool
 clone:FuncId->Bool
 plan:FuncId->Nat->Option Bl
 told:FuncId->Option (BL->List AV->AQ->Option (AV×AQ)):=λ_=>none
 bz:TypeId->Bool:=λ_=>false
 back:FuncId->Option TypeId:=λ_=>none
structure St where
 N:Nat
 U:Nat->AV
 s:AQ
abbrev Kc (v:Value):AV:=.pv (.sc v)
def upd (U:Nat->AV) (i:Nat) (v:AV) (j:Nat):AV:=bif Nat.beq j i then v else U j
def quick (P:Program) {α:Type}:Sem α->Option α
 | .pure a=>some a
 | .program k=>quick P (k P)
 | .mark _ k=>quick P k
 | _=>none
def Hl:AV->Option Value
 | .pv (.sc v)=>some v
 | _=>none
def Nz:Value->AV
 | .agg cs=>.agg (cs.toList.map Kc)
 | .tuple vs=>.tuple (vs.toList.map Kc)
 | v=>Kc v
def Hw:Value->AV
 | .slice none 0 0=>.AE []
 | v=>Kc v
def ofConst:Value->AV
 | .agg cs=>.agg (cs.toList.map Hw)
 | .tuple vs=>.tuple (vs.toList.map Kc)
 | v=>Hw v
def Am (U:Nat->AV):Operand->AV
 | .tmp t=>U t
 | .const v=>ofConst v
 | .global g=>.Dt g 0
 | .func f=>.func (.func f) [] []
def cellsOf:AV->List AV
 | .agg cs=>cs
 | v=>[v]
def KB:AV->Option PV
 | .pv p=>some p
 | .AE rows=>some (.list rows)
 | .own _ rows=>some (.list rows)
 | _=>none
def Cp:List AV->Option (List PV)
 | []=>some []
 | c::cs=>match KB c,Cp cs with
  | some p,some ps=>some (p::ps)
  | _,_=>none
def rowsOf:AV->Option (List (List PV))
 | .pv (.list rows)=>some rows
 | .AE rows=>some rows
 | .own _ rows=>some rows
 | _=>none
def CI (k:Nat):Nat->List PV->List (List PV)
 | 0,_=>[]
 | n+1,cs=>cs.take k::CI k n (cs.drop k)
def KL (bs:List (List AV)) (id off len sz:Nat):Option (List (List PV)):=
 match bs[id]? with
 | some cs=>if off+len*sz<=cs.length/\cs.isEmpty=false then match Cp ((cs.drop off).take (len*sz)) with
   | some ps=>some (CI sz len ps)
   | none=>none
  else none
 | none=>none
mutual
def close (bs:List (List AV)) (n m:Nat):AV->Option AV
 | .pv p=>some (.pv p)
 | .ptr id off=>if id<n then some (.ptr id off) else none
 | .Dt g off=>some (.Dt g off)
 | .Cw row off=>some (.Cw row off)
 | .AE rows=>some (.AE rows)
 | .own t rows=>if t<m then some (.own t rows) else some (.pv (.list rows))
 | .ref id off len sz=>if id<n then some (.ref id off len sz) else match KL bs id off len sz with
  | some rows=>some (.pv (.list rows))
  | none=>none
 | .func fn first captured=>match BR bs n m first,BR bs n m captured with
  | some a,some b=>some (.func fn a b)
  | _,_=>none
 | .iface t v=>match close bs n m v with
  | some v=>some (.iface t v)
  | none=>none
 | .agg cs=>match BR bs n m cs with
  | some cs=>some (.agg cs)
  | none=>none
 | .tuple vs=>match BR bs n m vs with
  | some vs=>some (.tuple vs)
  | none=>none
 | .Gh=>some .Gh
 | .HQ id=>if id<n then some (.HQ id) else none
 | .O9 _ _=>none
 | .bz id t k=>if id<n then some (.bz id t k) else none
def BR (bs:List (List AV)) (n m:Nat):List AV->Option (List AV)
 | []=>some []
 | c::cs=>match close bs n m c,BR bs n m cs with
  | some c,some cs=>some (c::cs)
  | _,_=>none
end
mutual
def Fx:AV->Bool
 | .ptr _ _|.ref _ _ _ _|.own _ _|.HQ _|.O9 _ _|.bz _ _ _=>false
 | .func _ first captured=>DK first&&DK captured
 | .iface _ v=>Fx v
 | .agg cs=>DK cs
 | .tuple vs=>DK vs
 | _=>true
def DK:List AV->Bool
 | []=>true
 | c::cs=>Fx c&&DK cs
end
mutual
def Jf:AV->Bool
 | .ptr _ _|.ref _ _ _ _|.HQ _|.O9 _ _|.bz _ _ _=>false
 | .func _ first captured=>Iq first&&Iq captured
 | .iface _ v=>Jf v
 | .agg cs=>Iq cs
 | .tuple vs=>Iq vs
 | _=>true
def Iq:List AV->Bool
 | []=>true
 | c::cs=>Jf c&&Iq cs
end
def RX (s:AQ) (id:Nat):Option (List AV):=s.bs[id]?
def alive (s:AQ) (id:Nat):Bool:=match s.bs[id]? with
 | some (_::_)=>true
 | _=>false
def partOf (P:Program) (t:TypeId) (cs:List AV) (off:Nat):Option AV:=
 match P.underlying t,P.info? t with
 | some d,some i=>match d with
  | .struct _|.array _ _=>if off+i.size<=cs.length/\i.size≠0 then some (.agg ((cs.drop off).take i.size)) else none
  | _=>cs[off]?
 | _,_=>none
def TE (E:Env) (s:AQ) (t:TypeId):AV->Option AV
 | .ptr id off=>match RX s id with
  | some cs=>partOf E.P t cs off
  | none=>none
 | .Dt g off=>match E.G g with
  | some row=>partOf E.P t (row.map .pv) off
  | none=>none
 | .Cw row off=>partOf E.P t (row.map .pv) off
 | _=>none
def setCells (cs:List AV) (off:Nat):List AV->List AV
 | []=>cs
 | v::vs=>setCells (cs.set off v) (off+1) vs
def BD:AV->Bool
 | .agg _|.tuple _|.O9 _ _|.bz _ _ _=>false
 | .pv (.sc (.agg _))|.pv (.sc (.tuple _))=>false
 | _=>true
def OD (E:Env) (L:BL) (s:AQ) (t:TypeId) (a x:AV):Option AQ:=
 match a,E.P.info? t with
 | .ptr id off,some i=>match RX s id with
  | some cs=>
   let vs:=cellsOf x
   if vs.length=i.size/\off+vs.length<=cs.length/\L.ro<=id/\(vs.all BD)=true/\(L.n0<=id\/Iq vs=true)/\i.size≠0 then
    some { s with bs:=s.bs.set id (setCells cs off vs) } else none
  | none=>none
 | _,_=>none
def N0 (E:Env) (id:Nat) (t:TypeId) (z:List AV):List AV:=bif E.bz t then match z with
  | .pv (.sc (.pointer none))::r=>.bz id t (r.length+1)::r
  | z=>z
 else z
def HR (s:AQ) (cs:List AV):AV×AQ:=(.ptr s.bs.length 0,{ s with bs:=s.bs++[cs] })
def MK (place:Nat->Option (Nat×Nat)) (cells:List AV):List (Nat×AV)->Option (List AV)
 | []=>some cells
 | (i,v)::rest=>match place i with
  | none=>none
  | some (off,size)=>
   if (cellsOf v).length=size/\off+size<=cells.length/\(cellsOf v).all BD=true then
    MK place (setCells cells off (cellsOf v)) rest
   else none
def zeroOf (P:Program) (t:TypeId):Option (List AV):=
 match P.info? t with
 | some i=>match i.zero with
  | some v=>some (cellsOf (ofConst v))
  | none=>none
 | none=>none
def D2 (P:Program) (t:TypeId):Option Nat:=match P.info? t with|some i=>some i.size|none=>none
def TF (P:Program) (fields:Array Field) (i:Nat):Option (Nat×Nat):=
 match fields[i]? with
 | some f=>match D2 P f.type with|some k=>some (f.offset,k)|none=>none
 | none=>none
def TG (P:Program) (t:TypeId) (parts:List (Nat×AV)):Option AV:=
 match zeroOf P t,P.underlying t with
 | some z,some (.struct fields)=>
  match MK (TF P fields) z parts with
  | some cs=>if fields.all (λf=>(D2 P f.type).isSome) then some (.agg cs) else none
  | none=>none
 | some z,some (.array _ elem)=>
  match D2 P elem with
  | some k=>match MK (λi=>some (i*k,k)) z parts with
   | some cs=>some (.agg cs)
   | none=>none
  | none=>none
 | _,_=>none
def Fu {α:Type} (n:Nat) (l:List α):List α:=match n with
 | 0=>[]
 | n+1=>l++Fu n l
def muL (L:BL) (e:TypeId):Bool:=L.mu e&&!L.mu (e+1000000)
def G4 (P:Program) (L:BL) (s:AQ) (t:TypeId) (len:Nat) (parts:List (Nat×AV)):Option (AV×AQ):=
 match P.underlying t with
 | some (.slice elem)=>match D2 P elem,zeroOf P elem with
  | some k,some z=>
   if len*k<=2 ^ 24/\z.length=k/\k≠0 then
    match MK (λi=>some (i*k,k)) (Fu len z) parts with
    | some cs=>bif muL L elem&&Nat.blt 0 len then some (.ref s.bs.length 0 len k,{ s with bs:=s.bs++[cs] })
     else match Cp cs with
     | some ps=>some (.AE (CI k len ps),s)
     | none=>none
    | none=>none
   else none
  | _,_=>none
 | _=>none
def fV (P:Program) (s:AQ) (t:TypeId) (len cap:AV):Option (AV×AQ):=
 match P.underlying t,len,cap with
 | some (.slice elem),.pv (.sc (.int .i64 l)),.pv (.sc (.int .i64 c))=>match P.info? elem,zeroOf P elem with
  | some i,some z=>
   if 0<=l/\l<=c/\c<=2 ^ 40/\c*i.bytes<=2 ^ 45/\z.length=i.size/\i.size≠0 then
    if c=0 then some (.AE [],s)
    else if l=c then some (.ref s.bs.length 0 l.toNat i.size,{ s with bs:=s.bs++[Fu l.toNat z] })
    else if l=0 then some (.own s.ts.length [],{ s with ts:=s.ts++[(0,elem)] })
    else none
   else none
  | _,_=>none
 | _,_,_=>none
def Kw (s:AQ):AV->Option AV
 | .ptr id off=>bif alive s id then some (.ptr id off) else none
 | .Dt g off=>some (.Dt g off)
 | .Cw r off=>some (.Cw r off)
 | .func (.func f) a b=>some (.func (.func f) a b)
 | _=>none
def Hx (P:Program) (s:AQ) (t:TypeId) (x:AV) (field:Nat):Option AV:=
 match P.underlying t with
 | some (.struct fields)=>match fields[field]? with
  | some f=>match D2 P f.type with
   | some k=>if k=0 then none else match x with
    | .ptr id off=>bif alive s id then some (.ptr id (off+f.offset)) else none
    | .Dt g off=>some (.Dt g (off+f.offset))
    | .Cw r off=>some (.Cw r (off+f.offset))
    | _=>none
   | none=>none
  | none=>none
 | _=>none
def TH (P:Program) (t:TypeId) (x:AV) (field:Nat):Option AV:=
 match P.underlying t,x with
 | some (.struct fields),.agg cs=>match fields[field]? with
  | some f=>partOf P f.type cs f.offset
  | none=>none
 | _,_=>none
def YZ:AV->Option Int
 | .pv (.sc (.int _ n))=>some n
 | _=>none
def Hy (P:Program) (s:AQ) (t:TypeId) (x ix:AV):Option AV:=
 match P.underlying t,YZ ix with
 | some (.slice elem),some i=>match D2 P elem with
  | some k=>match rowsOf x with
   | some rows=>if 0<=i then match rows[i.toNat]? with
     | some row=>if row.length=k/\k≠0 then some (.Cw row 0) else none
     | none=>none
    else none
   | none=>match x with
    | .ref id off len sz=>if 0<=i/\i<len/\sz=k/\alive s id=true then some (.ptr id (off+i.toNat*k)) else none
    | _=>none
  | none=>none
 | some (.array len elem),some i=>match D2 P elem with
  | some k=>if 0<=i/\i<len then match x with
    | .ptr id off=>bif alive s id then some (.ptr id (off+i.toNat*k)) else none
    | .Dt g off=>some (.Dt g (off+i.toNat*k))
    | .Cw r off=>some (.Cw r (off+i.toNat*k))
    | _=>none
   else none
  | none=>none
 | _,_=>none
def Me:AV->Nat->Option AV
 | .tuple vs,i=>vs[i]?
 | _,_=>none
def HS:AV->Option Nat
 | .pv (.sc (.int _ n))=>if 0<=n then some n.toNat else none
 | _=>none
def Fy (d:Nat):Option AV->Option Nat
 | none=>some d
 | some v=>HS v
def QW (P:Program) (s:AQ) (t:TypeId) (x:AV) (lo hi mx:Option AV):Option AV:=
 match P.underlying t with
 | some (.slice elem)=>match D2 P elem with
  | some k=>match x with
   | .ref id off len sz=>match Fy len hi,Fy 0 lo,mx with
    | some h,some l,none=>if l<=h/\h<=len/\sz=k/\k≠0/\alive s id=true then(if l=h then some (.pv (.list [])) else some (.ref id (off+l*k) (h-l) sz)) else none
    | some h,some l,some m=>match HS m with
     | some m=>if l=h/\h<=len/\m=h/\hi.isSome=true/\alive s id=true then some (.AE []) else none
     | none=>none
    | _,_,_=>none
   | x=>match rowsOf x with
    | some rows=>match Fy rows.length hi,Fy 0 lo with
     | some h,some l=>
      if l<=h/\h<=rows.length/\(rows.all λr=>r.length==k)=true then match mx with
       | none=>some (.pv (.list ((rows.take h).drop l)))
       | some m=>match HS m with
        | some m=>if m=h/\hi.isSome then some (.AE ((rows.take h).drop l)) else none
        | none=>none
      else none
     | _,_=>none
    | none=>none
  | none=>none
 | _=>none
def BA (s:AQ):AV->Option Nat
 | .ref id _ len _=>bif alive s id then some len else none
 | v=>match rowsOf v with
  | some rows=>some rows.length
  | none=>none
def C6 (s:AQ) (k:Nat):AV->Option (List AV)
 | .pv (.sc (.string b))=>if k=1 then some (b.data.toList.map λb=>Kc (.int .u8 b.toNat)) else none
 | .ref id off len sz=>match s.bs[id]? with
  | some cs=>if off+len*sz<=cs.length/\sz=k/\alive s id=true then some ((cs.drop off).take (len*sz)) else none
  | none=>none
 | v=>match rowsOf v with
  | some rows=>if (rows.all λr=>r.length==k)=true then some (rows.flatten.map .pv) else none
  | none=>none
def JD (P:Program) (L:BL) (s:AQ) (t:TypeId) (x y:AV):Option (AV×AQ):=
 match P.underlying t with
 | some (.slice elem)=>match P.info? elem with
  | some i=>if (zeroOf P elem).map List.length=some i.size/\i.size≠0 then
    match C6 s i.size y with
    | some []=>match x with
     | .ref id _ _ _=>bif alive s id then some (x,s) else none
     | _=>match rowsOf x with
      | some _=>some (x,s)
      | none=>none
    | some (c::cs)=>if (c::cs).all BD=true then
     let new:=c::cs
     let n:=new.length / i.size
     match x with
     | .ref id off len sz=>match s.bs[id]? with
      | some old=>if off=0/\sz=i.size/\len*sz<=old.length/\alive s id=true/\(len+n)*i.bytes<=2 ^ 45/\len+n<=2 ^ 45/\L.ro<=id then
        some (.ref s.bs.length 0 (len+n) sz,{ s with bs:=s.bs.set id []++[old.take (len*sz)++new] }) else none
      | none=>none
     | .AE rows=>
      if (rows.length+n)*i.bytes<=2 ^ 45/\rows.length+n<=2 ^ 45/\(rows.all λr=>r.length==i.size)=true then
       bif L.mu elem then some (.ref s.bs.length 0 (rows.length+n) i.size,{ s with bs:=s.bs++[rows.flatten.map .pv++new] })
       else match Cp new with
       | some ps=>some (.own s.ts.length (rows++CI i.size n ps),{ s with ts:=s.ts++[(rows.length+n,elem)] })
       | none=>none
      else none
     | .own k rows=>
      if (rows.length+n)*i.bytes<=2 ^ 45/\rows.length+n<=2 ^ 45/\s.ts[k]?=some (rows.length,elem)/\L.rt<=k/\(rows.all λr=>r.length==i.size)=true then
       match Cp new with
       | some ps=>some (.own k (rows++CI i.size n ps),{ s with ts:=s.ts.set k (rows.length+n,elem) })
       | none=>none
      else none
     | _=>none
     else none
    | none=>none
   else none
  | none=>none
 | _=>none
def Wd:List AV->Option (List UInt8)
 | []=>some []
 | .pv (.sc (.int .u8 n))::rest=>match Wd rest with
  | some l=>some (UInt8.ofNat n.toNat::l)
  | none=>none
 | _=>none
def AFb (s:AQ):AV->Option (List UInt8)
 | .pv (.sc _)=>none
 | y=>match C6 s 1 y with
  | some cs=>Wd cs
  | none=>none
def EI (s:AQ):AV->Option Nat
 | .ptr id _=>bif alive s id then some 0 else none
 | .Dt _ _=>some 0
 | .Cw _ _=>some 0
 | .func _ _ _=>some 2
 | .iface _ _=>some 3
 | .ref id _ _ _=>bif alive s id then some 1 else none
 | v=>match rowsOf v with
  | some ((_::_)::_)=>some 1
  | _=>none
def Fp (U:Nat->AV):Operand->Option Nat
 | .const (.slice none 0 0)=>some 1
 | x=>match Am U x with
  | .pv (.sc (.pointer none))=>some 0
  | .pv (.sc .nilFunc)=>some 2
  | .pv (.sc .nilIface)=>some 3
  | _=>none
def C7 (P:Program) (t:TypeId):Option Nat:=match P.underlying t with
 | some (.pointer _)=>some 0
 | some (.slice _)=>some 1
 | some (.func _ _ _)=>some 2
 | some (.interface _)=>some 3
 | _=>none
def sameKind:Option Nat->Option Nat->Option Nat->Bool
 | some a,some b,some c=>Nat.beq a b&&Nat.beq a c
 | _,_,_=>false
def Ir (P:Program) (s:AQ) (U:Nat->AV) (op:BinOp) (t:TypeId) (x y:Operand):Option AV:=
 bif sameKind (C7 P t) (EI s (Am U x)) (Fp U y)||sameKind (C7 P t) (Fp U x) (EI s (Am U y)) then match op with
  | .eql=>some (Kc (.bool false))
  | .neq=>some (Kc (.bool true))
  | _=>none
 else none
def Ev (U:Nat->AV) (xs:List Operand):Bool:=xs.all λx=>(Hl (Am U x)).isSome
def C4 (E:Env) (U:Nat->AV) (o:Oper):Option AV:=
 if Ev U o.op.operands.toList then
  match quick E.P (execOp (λx=>(Hl (Am U x)).getD undef) o) with
  | some (.value v)=>some (Nz v)
  | _=>none
 else none
def Fq:List UInt8->List UInt8->Bool
 | [],[]=>true
 | a::xs,b::ys=>Nat.beq a.toNat b.toNat&&Fq xs ys
 | _,_=>false
def Gd:IntKind->Nat
 | .i8=>0|.i16=>1|.i32=>2|.i64=>3|.u8=>4|.u16=>5|.u32=>6|.u64=>7
def ACS:AV->Option Value
 | .pv (.sc v)=>some v
 | .func (.func f) [] []=>some (.func (.func f) #[] #[])
 | _=>none
def sZ:List AV->Option (List Value)
 | []=>some []
 | c::cs=>match ACS c,sZ cs with
  | some v,some vs=>some (v::vs)
  | _,_=>none
def ANE:AV->Option Value
 | .agg cs=>match sZ cs with
  | some vs=>some (.agg vs.toArray)
  | none=>none
 | c=>ACS c
def AAK:Value->AV
 | .func fn a b=>.func fn (a.toList.map Kc) (b.toList.map Kc)
 | v=>Kc v
def ANF:Value->AV
 | .agg cs=>.agg (cs.toList.map AAK)
 | .func fn a b=>.func fn (a.toList.map Kc) (b.toList.map Kc)
 | v=>Nz v
def kI (k:List UInt8):List MapEntry->Nat->Option (Option (Nat×Value))
 | [],_=>some none
 | e::es,i=>match e.key with
  | .string b=>bif Fq k b.data.toList then some (some (i,e.val)) else kI k es (i+1)
  | _=>none
def sg (P:Program) (t:TypeId) (k:Value) (es:List MapEntry):Option (Option (Nat×Value)):=
 match P.underlying t with
 | some (.int i)=>Instr.findNow (.int i) k es 0
 | some .string=>match k with
  | .string b=>kI b.data.toList es 0
  | _=>none
 | _=>none
def Ya (s:AQ):AV->Option (List MapEntry×Nat)
 | .HQ id=>match s.bs[id]? with
  | some [.O9 es clock]=>some (es,clock)
  | _=>none
 | _=>none
def AV4 (P:Program) (s:AQ) (t:TypeId) (m k:AV) (commaOk:Bool):Option AV:=
 match P.underlying t,Ya s m,Hl k with
 | some (.map kt elem),some (es,_),some key=>match sg P kt key es with
  | some (some (_,v))=>some (bif commaOk then .tuple [ANF v,Kc (.bool true)] else ANF v)
  | some none=>match P.info? elem with
   | some i=>match i.zero with
    | some z=>some (bif commaOk then .tuple [ofConst z,Kc (.bool false)] else ofConst z)
    | none=>none
   | none=>none
  | none=>none
 | _,_,_=>none
def Yb (L:BL) (s:AQ) (es:List MapEntry) (clock:Nat):AV->Option AQ
 | .HQ id=>bif Nat.ble L.ro id then some { s with bs:=s.bs.set id [.O9 es clock] } else none
 | _=>none
def AFc (P:Program) (L:BL) (s:AQ) (t:TypeId) (m k x:AV):Option AQ:=
 match P.underlying t,Ya s m,Hl k,ANE x with
 | some (.map kt _),some (es,clock),some key,some v=>match sg P kt key es with
  | some (some (i,_))=>match (es[i]?).map (·.key) with
   | some old=>bif Instr.sameBits 10000 old key then Yb L s (es.modify i λe=>{ e with key:=key,val:=v }) clock m else none
   | none=>none
  | some none=>Yb L s (es++[{ key:=key,val:=v,born:=clock }]) (clock+1) m
  | none=>none
 | _,_,_,_=>none
def AV5 (P:Program) (L:BL) (s:AQ) (t:TypeId) (m k:AV):Option AQ:=
 match P.underlying t,Ya s m,Hl k with
 | some (.map kt _),some (es,clock),some key=>match sg P kt key es with
  | some (some (i,_))=>Yb L s (es.eraseIdx i) clock m
  | some none=>Yb L s es clock m
  | none=>none
 | _,_,_=>none
def Lg:List UInt8->List UInt8->Bool
 | _,[]=>false
 | [],_::_=>true
 | a::x,b::y=>Nat.blt a.toNat b.toNat||(Nat.beq a.toNat b.toNat&&Lg x y)
def Yc (k:IntKind) (op:BinOp) (a b:Nat):Option Value:=match op with
 | .eql=>some (.bool (Nat.beq a b))
 | .neq=>some (.bool (!Nat.beq a b))
 | .lss=>some (.bool (Nat.blt a b))
 | .leq=>some (.bool (Nat.ble a b))
 | .gtr=>some (.bool (Nat.blt b a))
 | .geq=>some (.bool (Nat.ble b a))
 | .add=>bif Nat.beq (Gd k) 3&&Nat.blt (a+b) 9223372036854775808 then some (.int .i64 (.ofNat (a+b))) else none
 | .sub=>bif Nat.beq (Gd k) 3&&(Nat.ble b a&&Nat.blt a 9223372036854775808) then some (.int .i64 (.ofNat (a-b))) else none
 | _=>none
def Yd (op:BinOp) (a b:List UInt8):Option Value:=match op with
 | .eql=>some (.bool (Fq a b))
 | .neq=>some (.bool (!Fq a b))
 | .lss=>some (.bool (Lg a b))
 | .leq=>some (.bool (Lg a b||Fq a b))
 | .gtr=>some (.bool (!(Lg a b||Fq a b)))
 | .geq=>some (.bool (!Lg a b))
 | _=>none
def JE (op:BinOp):AV->AV->Option Value
 | .pv (.sc (.int k (.ofNat a))),.pv (.sc (.int k' (.ofNat b)))=>bif Nat.beq (Gd k) (Gd k') then Yc k op a b else none
 | .pv (.sc (.string a)),.pv (.sc (.string b))=>Yd op a.data.toList b.data.toList
 | _,_=>none
def Ye (op:UnOp):AV->Option Value
 | .pv (.sc (.bool b))=>match op with
  | .not=>some (.bool !b)
  | _=>none
 | _=>none
def NW (P:Program) (t:TypeId):AV->AV->Option Value
 | .pv (.sc (.string b)),.pv (.sc (.int _ (.ofNat n)))=>match P.underlying t,b.data.toList[n]? with
  | some .string,some c=>some (.int .u8 c.toNat)
  | _,_=>none
 | _,_=>none
def NY (P:Program) (t:TypeId):AV->Option Value
 | .pv (.sc (.string b))=>match P.underlying t with
  | some .string=>some (.int .i64 (.ofNat b.data.toList.length))
  | _=>none
 | _=>none
def Ci (E:Env) (L:BL) (U:Nat->AV) (s:AQ) (o:Oper):Option (AV×AQ):=
 let q (r:Option AV):Option (AV×AQ):=match r with|some v=>some (v,s)|none=>none
 match o.op with
 | .move x|.assign x=>some (Am U x,s)
 | .pick c a b=>match Am U c with
  | .pv (.sc (.bool t))=>some (bif t then Am U a else Am U b,s)
  | _=>none
 | .alloc t=>match zeroOf E.P t with
  | some z=>some (HR s (N0 E s.bs.length t z))
  | none=>none
 | .box t x=>if (cellsOf (Am U x)).all BD then some (HR s (N0 E s.bs.length t (cellsOf (Am U x)))) else none
 | .build t parts=>q (TG E.P t (parts.toList.map λp=>(p.1,Am U p.2)))
 | .buildSlice t len parts=>G4 E.P L s t len (parts.toList.map λp=>(p.1,Am U p.2))
 | .load t a=>q (TE E s t (Am U a))
 | .store t a x=>match OD E L s t (Am U a) (Am U x) with
  | some s'=>some (.tuple [],s')
  | none=>none
 | .nilCheck x=>q (Kw s (Am U x))
 | .fieldAddr t x f=>q (Hx E.P s t (Am U x) f)
 | .field t x f=>q (TH E.P t (Am U x) f)
 | .indexAddr t x i=>q (Hy E.P s t (Am U x) (Am U i))
 | .extract t i=>q (Me (Am U t) i)
 | .makeFunc fn first captured=>some (.func fn (first.toList.map (Am U)) (captured.toList.map (Am U)),s)
 | .makeInterface t x=>match E.P.underlying t with
  | some (.interface _)=>none
  | some _=>some (.iface t (Am U x),s)
  | none=>none
 | .slice t x lo hi mx=>
  match QW E.P s t (Am U x) (lo.map (Am U)) (hi.map (Am U)) (mx.map (Am U)) with
  | some v=>some (v,s)
  | none=>q (C4 E U o)
 | .call { callee:=.builtin .len,args:=args,argTypes:=ts }=>
  match args.toList,ts.toList with
  | [x],[t]=>match NY E.P t (Am U x) with
   | some v=>some (Kc v,s)
   | none=>match E.P.underlying t,BA s (Am U x) with
    | some (.slice _),some n=>some (Kc (.int .i64 n),s)
    | _,_=>q (C4 E U o)
  | _,_=>none
 | .call { callee:=.builtin .append,args:=args,argTypes:=ts }=>
  match args.toList,ts.toList with
  | [x,y],t::u::_=>match E.P.underlying u with
   | some (.int _)=>none
   | some _=>JD E.P L s t (Am U x) (Am U y)
   | none=>none
  | _,_=>none
 | .call { callee:=.builtin .delete,.. }=>none
 | .call { callee:=.builtin _,.. }=>q (C4 E U o)
 | .binOp op t x y _=>match JE op (Am U x) (Am U y) with
  | some v=>some (Kc v,s)
  | none=>match Ir E.P s U op t x y with
   | some v=>some (v,s)
   | none=>q (C4 E U o)
 | .convert _ _ _=>q (C4 E U o)
 | .unOp op _ x=>match Ye op (Am U x) with
  | some v=>some (Kc v,s)
  | none=>q (C4 E U o)
 | .index t x i=>match NW E.P t (Am U x) (Am U i) with
  | some v=>some (Kc v,s)
  | none=>q (C4 E U o)
 | _=>none
def AFd (E:Env) (U:Nat->AV) (s:AQ) (t:TypeId) (a:Operand):Option (AV×AQ):=match TE E s t (Am U a) with
 | some v=>some (v,s)
 | none=>none
def aS (E:Env) (U:Nat->AV) (s:AQ) (t:TypeId) (x:Operand) (f:Nat):Option (AV×AQ):=match Hx E.P s t (Am U x) f with
 | some v=>some (v,s)
 | none=>none
def AAL (E:Env) (U:Nat->AV) (s:AQ) (t:TypeId) (x:Operand) (f:Nat):Option (AV×AQ):=match TH E.P t (Am U x) f with
 | some v=>some (v,s)
 | none=>none
def aU (E:Env) (U:Nat->AV) (s:AQ) (t:TypeId) (x i:Operand):Option (AV×AQ):=match Hy E.P s t (Am U x) (Am U i) with
 | some v=>some (v,s)
 | none=>none
def nr (U:Nat->AV) (s:AQ) (x:Operand) (i:Nat):Option (AV×AQ):=match Me (Am U x) i with
 | some v=>some (v,s)
 | none=>none
def AAM (E:Env) (U:Nat->AV) (s:AQ) (t:TypeId) (parts:Array (Nat×Operand)):Option (AV×AQ):=match TG E.P t (parts.toList.map λp=>(p.1,Am U p.2)) with
 | some v=>some (v,s)
 | none=>none
def AAN (E:Env) (L:BL) (U:Nat->AV) (s:AQ) (t:TypeId) (a x:Operand):Option (AV×AQ):=match OD E L s t (Am U a) (Am U x) with
 | some s'=>some (.tuple [],s')
 | none=>none
def ANG (E:Env) (U:Nat->AV) (s:AQ) (o:Oper) (op:BinOp) (t:TypeId) (x y:Operand):Option (AV×AQ):=match JE op (Am U x) (Am U y) with
 | some v=>some (Kc v,s)
 | none=>match Ir E.P s U op t x y with
  | some v=>some (v,s)
  | none=>match C4 E U o with
   | some v=>some (v,s)
   | none=>none
def opF (E:Env) (L:BL) (U:Nat->AV) (s:AQ) (o:Oper):Option (AV×AQ):=match o.op with
 | .move x=>some (Am U x,s)
 | .assign x=>some (Am U x,s)
 | .load t a=>AFd E U s t a
 | .fieldAddr t x f=>aS E U s t x f
 | .field t x f=>AAL E U s t x f
 | .indexAddr t x i=>aU E U s t x i
 | .extract x i=>nr U s x i
 | .build t parts=>AAM E U s t parts
 | .store t a x=>AAN E L U s t a x
 | .binOp op t x y _=>ANG E U s o op t x y
 | _=>Ci E L U s o
theorem sj (E:Env) (L:BL) (U:Nat->AV) (s:AQ) (o:Oper):opF E L U s o=Ci E L U s o:=by
 obtain⟨dst,op,type,pos,after,guard⟩:=o;cases op <;> rfl
def Lh (U:Nat->AV) (c:Call):Option (FuncId×List AV):=
 match c.callee with
 | .value f=>match Am U f with
  | .func (.func g) first captured=>some (g,first++c.args.toList.map (Am U)++captured)
  | _=>none
 | _=>none
inductive Out where
 | norm|exit (id:Nat)|ret
def Mf (ops:Array Oper) (o:Oper):Option Nat:=match o.guard with
 | none=>none
 | some (j,_)=>match ops[j]? with
  | some p=>p.dst
  | none=>none
def FM (ops:Array Oper) (U:Nat->AV) (o:Oper):Option Bool:=
 match o.guard with
 | none=>some true
 | some (_,want)=>match Mf ops o with
  | some d=>match U d with
   | .pv (.sc (.bool b))=>some (b==want)
   | .tuple []=>some false
   | _=>none
  | none=>some false
def Ky (st:St) (d:Option Nat) (v:AV):Option St:=
 match d with
 | none=>some st
 | some d=>bif Nat.blt d st.N then some { st with U:=upd st.U d v } else none
abbrev Cx:=FuncId->List AV->AQ->Option (AV×AQ)
def nu (E:Env) (L:BL) (cf:Cx) (U:Nat->AV) (s:AQ) (o:Oper):Option (AV×AQ):=
 match o.op with
 | .call c=>match c.callee with
  | .builtin _=>Ci E L U s o
  | _=>match Lh U c with
   | some (f,args)=>cf f args s
   | none=>none
 | _=>Ci E L U s o
def OE (E:Env) (L:BL) (cf:Cx) (U:Nat->AV) (s:AQ) (o:Oper):Option (AV×AQ):=
 match o.op with
 | .call c=>match c.callee with
  | .builtin _=>Ci E L U s o
  | _=>match Lh U c with
   | some (f,args)=>cf f args s
   | none=>none
 | _=>opF E L U s o
theorem PA (E:Env) (L:BL) (cf:Cx) (U:Nat->AV) (s:AQ) (o:Oper):OE E L cf U s o=nu E L cf U s o:=by
 unfold OE nu;simp only[sj]
def N1 (E:Env) (L:BL) (cf:Cx) (st:St) (o:Oper):Option St:=
 match OE E L cf st.U st.s o with
 | some (v,s)=>Ky { st with s:=s } o.dst v
 | none=>none
def ML:Operand->Nat->Bool
 | .tmp t,d=>Nat.beq t d
 | _,_=>false
structure JF where
 t:TypeId
 x:Operand
 y:Operand
 d:Nat
 ix:Operand
 p:Nat
 te:TypeId
 v:Operand
def fused (o o1 o2:Oper):Option JF:=
 match o.op,o.dst,o1.op,o1.dst,o2.op,o2.dst with
 | .call { callee:=.builtin .append,args:=args,argTypes:=ts },some d,.indexAddr t1 (.tmp d1) ix,some p,.store te (.tmp p1) v,none=>
  match args.toList,ts.toList with
  | [x,y],[t,t']=>if d1=d/\p1=p/\t1=t/\t'=t/\d≠p/\o.guard.isNone=true/\o1.guard.isNone=true/\o2.guard.isNone=true/\ML ix d=false/\ML v d=false/\ML v p=false/\ML x d=false/\ML y d=false/\ML x p=false/\ML y p=false/\ML ix p=false then
    some ⟨t,x,y,d,ix,p,te,v⟩ else none
  | _,_=>none
 | _,_,_,_,_,_=>none
def Kz (L:BL) (s:AQ) (elem:TypeId) (i:TypeInfo) (x:AV) (row:List PV):Option (AV×AQ):=
 match x with
 | .AE rows=>
  if (rows.length+1)*i.bytes<=2 ^ 45/\rows.length+1<=2 ^ 45/\(rows.all λr=>r.length==i.size)=true then
   some (.own s.ts.length (rows++[row]),{ s with ts:=s.ts++[(rows.length+1,elem)] })
  else none
 | .own k rows=>
  if (rows.length+1)*i.bytes<=2 ^ 45/\rows.length+1<=2 ^ 45/\s.ts[k]?=some (rows.length,elem)/\L.rt<=k/\(rows.all λr=>r.length==i.size)=true then
   some (.own k (rows++[row]),{ s with ts:=s.ts.set k (rows.length+1,elem) })
  else none
 | _=>none
def Jg (E:Env) (L:BL) (U:Nat->AV) (s:AQ) (k:JF):Option (AV×AQ):=
 match E.P.underlying k.t with
 | some (.slice elem)=>
  if L.mu elem=false/\k.te=elem then
   match E.P.info? elem,rowsOf (Am U k.x),rowsOf (Am U k.y),HS (Am U k.ix),Cp (cellsOf (Am U k.v)) with
   | some i,some rows,some [z],some n,some row=>
    if n=rows.length/\z.length=i.size/\row.length=i.size/\(cellsOf (Am U k.v)).all BD=true/\(z.map AV.pv).all BD=true/\i.size≠0/\(zeroOf E.P elem).map List.length=some i.size then
     Kz L s elem i (Am U k.x) row
    else none
   | _,_,_,_,_=>none
  else none
 | _=>none
def We (E:Env) (L:BL) (U:Nat->AV) (s:AQ) (k:JF):Option (AV×AQ):=
 match E.P.underlying k.t with
 | some (.slice elem)=>
  if L.mu elem=true/\k.te=elem then
   match E.P.info? elem,Am U k.x,HS (Am U k.ix) with
   | some i,.ref id off len sz,some n=>match C6 s i.size (Am U k.y),s.bs[id]? with
    | some zs,some old=>
     if n=len/\zs.length=i.size/\(cellsOf (Am U k.v)).length=i.size/\(cellsOf (Am U k.v)).all BD=true/\zs.all BD=true/\i.size≠0/\(zeroOf E.P elem).map List.length=some i.size /\
       off=0/\sz=i.size/\len*sz<=old.length/\alive s id=true/\(len+1)*i.bytes<=2 ^ 45/\len+1<=2 ^ 45/\L.ro<=id then
      some (.ref s.bs.length 0 (len+1) sz,{ s with bs:=s.bs.set id []++[old.take (len*sz)++cellsOf (Am U k.v)] })
     else none
    | _,_=>none
   | _,_,_=>none
  else none
 | _=>none
def K0 (E:Env) (L:BL) (U:Nat->AV) (s:AQ) (k:JF):Option (AV×AQ):=match Jg E L U s k with
 | some r=>some r
 | none=>We E L U s k
def Ke (st:St) (k:JF) (v:AV) (s:AQ):Option St:=
 match Ky { st with s:=s } (some k.d) v with
 | some st=>Ky st (some k.p) .Gh
 | none=>none
def Iu (E:Env) (L:BL) (cf:Cx) (ops:Array Oper):List Oper->St->Option St
 | [],st=>some st
 | o::rest,st=>
  let one:Option St:=match FM ops st.U o with
   | some true=>match N1 E L cf st o with
    | some st=>Iu E L cf ops rest st
    | none=>none
   | some false=>match Ky st o.dst (.tuple []) with
    | some st=>Iu E L cf ops rest st
    | none=>none
   | none=>none
  match rest with
  | o1::o2::rest'=>match fused o o1 o2 with
   | some k=>match Jg E L st.U st.s k with
    | some (v,s)=>match Ke st k v s with
     | some st=>Iu E L cf ops rest' st
     | none=>none
    | none=>one
   | none=>one
  | _=>one
def hcells (E:Env) (U:Nat->AV) (o:Oper):Option (List AV×(Nat->AV)):=
 match o.op with
 | .alloc t=>match zeroOf E.P t with
  | some z=>bif E.bz t then none else some (z,λid=>.ptr id 0)
  | none=>none
 | .makeSlice t l c=>match E.P.underlying t,Am U l,Am U c with
  | some (.slice elem),.pv (.sc (.int .i64 l)),.pv (.sc (.int .i64 c))=>match E.P.info? elem,zeroOf E.P elem with
   | some i,some z=>
    if 0<l/\l=c/\c<=2 ^ 40/\c*i.bytes<=2 ^ 45/\z.length=i.size/\i.size≠0 then some (Fu l.toNat z,λid=>.ref id 0 l.toNat i.size)
    else none
   | _,_=>none
  | _,_,_=>none
 | _=>none
def KC:AV->Option Nat
 | .ptr id _=>some id
 | .ref id _ _ _=>some id
 | _=>none
def aV:Int->Int->Bool
 | .ofNat a,.ofNat b=>Nat.beq a b
 | .negSucc a,.negSucc b=>Nat.beq a b
 | _,_=>false
def eqV:Value->Value->Bool
 | .int k n,.int k' n'=>Nat.beq (Gd k) (Gd k')&&aV n n'
 | .bool a,.bool b=>a==b
 | .string a,.string b=>Fq a.data.toList b.data.toList
 | .pointer none,.pointer none=>true
 | .nilFunc,.nilFunc=>true
 | .nilIface,.nilIface=>true
 | .map none,.map none=>true
 | .slice none a b,.slice none c d=>Nat.beq a c&&Nat.beq b d
 | _,_=>false
mutual
def NZ:PV->PV->Bool
 | .sc a,.sc b=>eqV a b
 | .list a,.list b=>I1 a b
 | _,_=>false
def Mg:List PV->List PV->Bool
 | [],[]=>true
 | a::xs,b::ys=>NZ a b&&Mg xs ys
 | _,_=>false
def I1:List (List PV)->List (List PV)->Bool
 | [],[]=>true
 | a::xs,b::ys=>Mg a b&&I1 xs ys
 | _,_=>false
end
def nx:List MapEntry->List MapEntry->Bool
 | [],[]=>true
 | a::xs,b::ys=>eqV a.key b.key&&eqV a.val b.val&&Nat.beq a.born b.born&&nx xs ys
 | _,_=>false
mutual
def Dg:AV->AV->Bool
 | .pv a,.pv b=>NZ a b
 | .ptr a b,.ptr c d=>Nat.beq a c&&Nat.beq b d
 | .Dt a b,.Dt c d=>Nat.beq a c&&Nat.beq b d
 | .Cw a b,.Cw c d=>Mg a c&&Nat.beq b d
 | .AE a,.AE b=>I1 a b
 | .own t a,.own u b=>Nat.beq t u&&I1 a b
 | .ref a b c d,.ref a' b' c' d'=>Nat.beq a a'&&Nat.beq b b'&&Nat.beq c c'&&Nat.beq d d'
 | .func (.func f) a b,.func (.func g) c d=>Nat.beq f g&&JG a c&&JG b d
 | .iface t a,.iface u b=>Nat.beq t u&&Dg a b
 | .agg a,.agg b=>JG a b
 | .tuple a,.tuple b=>JG a b
 | .Gh,.Gh=>true
 | .HQ a,.HQ b=>Nat.beq a b
 | .O9 a c,.O9 b d=>nx a b&&Nat.beq c d
 | .bz a t n,.bz b u m=>Nat.beq a b&&Nat.beq t u&&Nat.beq n m
 | _,_=>false
def JG:List AV->List AV->Bool
 | [],[]=>true
 | a::xs,b::ys=>Dg a b&&JG xs ys
 | _,_=>false
end
def Ei (E:Env) (L:BL) (U:Nat->AV) (s:AQ) (o:Oper):Option AV:=
 match o.op with
 | .alloc _|.box _ _|.store _ _ _|.makeMap _ _|.mapUpdate _ _ _ _|.insert _ _ _ _=>none
 | .makeSlice _ _ _=>match Ci E L U s o with
  | some (.AE [],_)=>some (.AE [])
  | _=>none
 | .call { callee:=.builtin .delete,.. }=>none
 | .buildSlice t _ _=>match E.P.underlying t with
  | some (.slice elem)=>bif muL L elem then none else match Ci E L U s o with
   | some (v,_)=>some v
   | none=>none
  | _=>none
 | .call { callee:=.builtin .append,.. }=>none
 | _=>match Ci E L U s o with
  | some (v,_)=>some v
  | none=>none
def Jh (E:Env) (L:BL) (U:Nat->AV) (s:AQ) (o:Oper):Option AV:=
 match o.op with
 | .alloc _|.box _ _|.store _ _ _|.makeMap _ _|.mapUpdate _ _ _ _|.insert _ _ _ _=>none
 | .makeSlice _ _ _=>match Ci E L U s o with
  | some (.AE [],_)=>some (.AE [])
  | _=>none
 | .call { callee:=.builtin .delete,.. }=>none
 | .buildSlice t _ _=>match E.P.underlying t with
  | some (.slice elem)=>bif muL L elem then none else match Ci E L U s o with
   | some (v,_)=>some v
   | none=>none
  | _=>none
 | .call { callee:=.builtin .append,.. }=>none
 | _=>match opF E L U s o with
  | some (v,_)=>some v
  | none=>none
theorem K1 (E:Env) (L:BL) (U:Nat->AV) (s:AQ) (o:Oper):Jh E L U s o=Ei E L U s o:=by
 unfold Jh Ei;simp only[sj]
def FN (E:Env) (L:BL) (ops:Array Oper) (U:Nat->AV) (s:AQ) (o:Oper):Option AV:=
 match FM ops U o with
 | some true=>Jh E L U s o
 | some false=>some (.tuple [])
 | none=>none
def OG (E:Env) (L:BL) (cf:Cx) (ops:Array Oper) (U:Nat->AV) (s:AQ) (o:Oper):Option (AV×AQ):=
 match FM ops U o with
 | some true=>OE E L cf U s o
 | some false=>some (.tuple [],s)
 | none=>none
def Ji (E:Env) (L:BL) (ops:Array Oper) (cls:List aK):List Nat->St->Option St
 | [],st=>some st
 | i::rest,st=>match ops[i]?,cls[i]? with
  | some o,some (.q _)=>match FN E L ops st.U st.s o with
   | some v=>match Ky st o.dst v with
    | some st=>Ji E L ops cls rest st
    | none=>none
   | none=>none
  | some o,some (.h _)=>match hcells E st.U o with
   | some (cs,mk)=>match Ky { st with s:={ st.s with bs:=st.s.bs++[cs] } } o.dst (mk st.s.bs.length) with
    | some st=>Ji E L ops cls rest st
    | none=>none
   | none=>none
  | _,_=>none
def HT (E:Env) (L:BL) (cf:Cx) (ops:Array Oper) (cls:List aK):List Nat->St->List AQ->Option (St×List AQ)
 | [],st,acc=>some (st,acc)
 | i::rest,st,acc=>match ops[i]?,cls[i]? with
  | some o,some (.q _)=>match FN E L ops st.U st.s o with
   | some v=>match Ky st o.dst v with
    | some st=>HT E L cf ops cls rest st acc
    | none=>none
   | none=>none
  | some o,some (.w _)=>match OG E L cf ops st.U st.s o with
   | some (v,s)=>match Ky { st with s:=s } o.dst v with
    | some st=>HT E L cf ops cls rest st (s::acc)
    | none=>none
   | none=>none
  | some o,some (.fa _ j x)=>match ops[j]?,ops[x]? with
   | some o1,some o2=>match fused o o1 o2 with
    | some k=>match K0 E L st.U st.s k with
     | some (v,s)=>match Ke st k v s with
      | some st=>HT E L cf ops cls rest st (s::acc)
      | none=>none
     | none=>none
    | none=>none
   | _,_=>none
  | some _,some .fj=>HT E L cf ops cls rest st acc
  | some _,some .fx=>HT E L cf ops cls rest st acc
  | _,_=>none
def Hr (GG:List (List Nat)) (i:Nat):List Nat:=match GG[i]? with
 | some l=>l
 | none=>[]
def has (l:List Nat) (x:Nat):Bool:=l.any λy=>Nat.beq y x
def Ft (GG:List (List Nat)) (U0 Uf:Nat->AV) (i t:Nat):AV:=bif has (Hr GG i) t then U0 t else Uf t
def fW (E:Env) (L:BL) (ops:Array Oper) (cls:List aK) (GG:List (List Nat)) (U0 Uf:Nat->AV) (σ:List AQ):List (Nat×Nat)->Bool
 | []=>true
 | (i,k)::rest=>(match ops[i]?,cls[i]?,σ[k]? with
  | some o,some (.q _),some s=>match FN E L ops (Ft GG U0 Uf i) s o with
   | some v=>match o.dst with
    | some d=>Dg v (Uf d)
    | none=>true
   | none=>false
  | some o,some (.h _),some s=>match hcells E (Ft GG U0 Uf i) o,o.dst with
   | some (cs,_),some d=>match KC (Uf d) with
    | some id=>match s.bs[id]? with
     | some cs'=>JG cs' cs
     | none=>false
    | none=>false
   | _,_=>false
  | _,_,_=>false)&&fW E L ops cls GG U0 Uf σ rest
def RY (ops:Array Oper) (p:Bl) (U0 Uf:Nat->AV) (FO:Nat):List Nat->Bool
 | []=>true
 | m::rest=>(match ops[m]?,p.cls[m]? with
  | some om,some (.w _)=>match om.op with
   | .store _ y _=>match Am (Ft p.GG U0 Uf m) y with
    | .ptr id _=>!(Nat.beq id FO)
    | _=>true
   | _=>true
  | _,_=>true)&&RY ops p U0 Uf FO rest
def QX (E:Env) (L:BL) (ops:Array Oper) (i j x:Nat):Bool:=match ops[i]?,ops[j]?,ops[x]? with
 | some o,some o1,some o2=>match fused o o1 o2 with
  | some k=>match E.P.underlying k.t with
   | some (.slice elem)=>L.mu elem
   | _=>false
  | none=>false
 | _,_,_=>false
def n7 (E:Env) (L:BL) (ops:Array Oper) (cls:List aK):List Nat->Bool
 | []=>true
 | i::rest=>(match cls[i]? with
  | some (.fa _ j x)=>!(QX E L ops i j x)
  | _=>true)&&n7 E L ops cls rest
def TI (E:Env) (L:BL) (ops:Array Oper) (p:Bl) (U0 Uf:Nat->AV):List Nat->Bool
 | []=>true
 | i::rest=>(match p.cls[i]? with
  | some (.fa _ j x)=>bif QX E L ops i j x then match ops[i]? with
   | some o=>match o.dst with
    | some d=>match Uf d with
     | .ref FO _ _ _=>RY ops p U0 Uf FO p.rest
     | _=>true
    | none=>true
   | none=>true
   else true
  | _=>true)&&TI E L ops p U0 Uf rest
def Wh (E:Env) (L:BL) (ops:Array Oper) (p:Bl) (U0 Uf:Nat->AV):Bool:=n7 E L ops p.cls p.rest||TI E L ops p U0 Uf p.rest
def Yf (E:Env) (L:BL) (cf:Cx) (p:Bl) (ops:Array Oper) (st0:St):Option St:=
 match Ji E L ops p.cls p.first st0 with
 | some st=>match HT E L cf ops p.cls p.rest st [st.s] with
  | some (st,acc)=>bif fW E L ops p.cls p.GG st0.U st.U acc.reverse p.Vo&&Wh E L ops p st0.U st.U then some st else none
  | none=>none
 | none=>none
def KM (E:Env) (L:BL) (cf:Cx) (ops:Array Oper) (st:St):Option Bl->Option St
 | some p=>Yf E L cf p ops st
 | none=>none
def sk (E:Env) (L:BL) (ops:Array Oper) (st:St) (p q:Option Bl):Option Bl:=match p with
 | some p=>match Ji E L ops p.cls p.first st with
  | some _=>some p
  | none=>q
 | none=>q
def RZ:List AV->Nat->AV
 | [],_=>.tuple []
 | v::_,0=>v
 | _::vs,n+1=>RZ vs n
def Na (E:Env) (st:St):ResultVar->Option AV
 | .tmp t=>some (st.U t)
 | .cell a t=>TE E st.s t (st.U a)
def Fz (E:Env) (st:St):List ResultVar->Option (List AV)
 | []=>some []
 | r::rs=>match Na E st r,Fz E st rs with
  | some v,some vs=>some (v::vs)
  | _,_=>none
def I2:List AV->AV
 | [v]=>v
 | vs=>.tuple vs
def PB:Code->Bool
 | .rangeFunc _ _ _ _=>false
 | .seq a b=>PB a&&PB b
 | .cond _ a b=>PB a&&PB b
 | .block _ b=>PB b
 | .loop b=>PB b
 | _=>true
def AbD (P:Program) (el:TypeId) (row:List PV):Option AV:=
 if D2 P el=some row.length/\row.length≠0 then partOf P el (row.map .pv) 0 else none
def MZ (E:Env) (cf:BL->Cx):Nat->BL->Code->St->Option (Out×St)
 | 0,_,_,_=>none
 | n+1,L,c,st=>match c with
  | .skip=>some (.norm,st)
  | .ret=>some (.ret,st)
  | .exit id=>some (.exit id,st)
  | .region _ ops false=>match Iu E L (cf L) ops ops.toList st with
   | some st=>some (.norm,st)
   | none=>none
  | .region id ops true=>match KM E L (cf L) ops st (sk E L ops st (L.pl id) (L.pl (id+1000000))) with
   | some st=>some (.norm,st)
   | none=>none
  | .seq a b=>match MZ E cf n L a st with
   | some (.norm,st)=>MZ E cf n L b st
   | r=>r
  | .cond c a b=>match Am st.U c with
   | .pv (.sc (.bool t))=>MZ E cf n L (bif t then a else b) st
   | _=>none
  | .block id b=>match MZ E cf n L b st with
   | some (.exit j,st)=>bif Nat.beq j id then some (.norm,st) else some (.exit j,st)
   | r=>r
  | .loop b=>match MZ E cf n L b st with
   | some (.norm,st)=>MZ E cf n L (.loop b) st
   | r=>r
  | _=>none
def Jj (E:Env) (cf:BL->Cx) (n:Nat) (fn:Func) (L:BL) (args:List AV) (s:AQ):Option (AV×AQ):=
 match fn.body with
 | none=>none
 | some body=>match MZ E cf n L body ⟨fn.ntmps,RZ args,s⟩ with
  | some (.exit _,_)=>none
  | some (_,st)=>match Fz E st fn.results.toList with
   | some vs=>some (I2 vs,st.s)
   | none=>none
  | none=>none
mutual
def Aw (n:Nat):AV->Bool
 | .ptr id _|.ref id _ _ _|.HQ id|.bz id _ _=>Nat.blt id n
 | .func _ first captured=>Ah n first&&Ah n captured
 | .iface _ v=>Aw n v
 | .agg cs=>Ah n cs
 | .tuple vs=>Ah n vs
 | _=>true
def Ah (n:Nat):List AV->Bool
 | []=>true
 | c::cs=>Aw n c&&Ah n cs
end
def Hz (r:Bool) (n:Nat):AV->Option (Nat×Nat×Nat×Nat)
 | .ref id off len sz=>bif r&&Nat.ble n id then some (id,off,len,sz) else none
 | _=>none
def Hs (r:Bool) (n:Nat) (v:AV) (s:AQ):Option (AV×AQ):=
 bif (s.bs.take n).all (Ah n) then match Hz r n v with
  | some (id,off,len,sz)=>match s.bs[id]? with
   | some (c::cs)=>bif Ah n (c::cs) then some (.ref n off len sz,⟨s.bs.take n++[c::cs],s.ts⟩) else none
   | _=>none
  | none=>match close s.bs n s.ts.length v with
   | some v=>some (v,⟨s.bs.take n,s.ts⟩)
   | none=>none
 else none
def I3 (E:Env) (cf:BL->Cx) (n:Nat) (f:FuncId) (fn:Func) (args:List AV) (s:AQ):Option (AV×AQ):=
 match Jj E cf n fn ⟨0,0,0,E.mu f,E.rr f,E.plan f⟩ args ⟨[],[]⟩ with
 | some (v,s')=>match close s'.bs 0 0 v with
  | some v=>some (v,s)
  | none=>none
 | none=>none
def EJ (E:Env) (cf:BL->Cx) (n:Nat) (L:BL) (f:FuncId) (fn:Func) (args:List AV) (s:AQ):Option (AV×AQ):=
 if args.length<=fn.ntmps then
  match E.kind f with
  | .esc=>Jj E cf n fn { L with mu:=E.mu f,rr:=E.rr f,pl:=E.plan f } args s
  | .rd=>match BR [] 0 0 args with
   | some args=>I3 E cf n f fn args s
   | none=>match Jj E cf n fn ⟨s.bs.length,s.bs.length,s.ts.length,E.mu f,E.rr f,E.plan f⟩ args s with
    | some (v,s')=>match close s'.bs s.bs.length s.ts.length v with
     | some v=>some (v,s)
     | none=>none
    | none=>none
  | k=>bif (match k with|.im=>DK args|_=>false) then I3 E cf n f fn args s else
   match Jj E cf n fn ⟨0,L.ro,L.rt,E.mu f,E.rr f,E.plan f⟩ args s with
   | some (v,s')=>Hs (L.rr f) s.bs.length v s'
   | none=>none
 else none
def Jk:List AV->Bool
 | [x]=>match rowsOf x with
  | some []=>true
  | _=>false
 | _=>false
def PC (E:Env) (L:BL) (f:FuncId) (args:List AV) (s:AQ) (r:Option (AV×AQ)):Option (AV×AQ):=match E.told f with
 | some T=>T L args s
 | none=>bif Jk args then some (.AE [],s) else r
def EC (E:Env):Nat->BL->Cx
 | 0,_,_,_,_=>none
 | n+1,L,f,args,s=>match E.P.funcs[f]? with
  | some fn=>bif E.clone f then PC E L f args s (EJ E (EC E n) n L f fn args s) else EJ E (EC E n) n L f fn args s
  | none=>none
end Go.Tel
