/-
  A deterministic evaluator for the model's code on abstract values: definitions only.
-/
import Derived.Test.YtpgfpakdnijngaaGreatDoorAl
set_option linter.all false
namespace Go.Tel
inductive PV where
 | sc (v:Value)
 | list (rows:List (List PV))
inductive AV where
 | pv (p:PV)
 | ptr (id off:Nat)
 | DX (g off:Nat)
 | Cn (row:List PV) (off:Nat)
 | AA (rows:List (List PV))
 | own (tok:Nat) (rows:List (List PV))
 | ref (id off len sz:Nat)
 | func (fn:Fn) (first captured:List AV)
 | iface (t:TypeId) (v:AV)
 | agg (cs:List AV)
 | tuple (vs:List AV)
 | G2
 | FL (id:Nat)
 | K7 (es:List MapEntry) (clock:Nat)
 | bz (id:Nat) (t:TypeId) (n:Nat)
inductive Kind where
 | rd|im|st|esc
inductive eH where
 | w (r:Nat)
 | q (ts:List Nat)
 | h (ts:List Nat)
 | fa (r j x:Nat)
 | fj|fx
structure Bd where
 first:List Nat
 rest:List Nat
 cls:List eH
 pre:List (List Nat)
 GU:List (List Nat)
 Xe:List (Nat×Nat)
structure A3 where
 n0:Nat
 ro:Nat
 rt:Nat
 mu:TypeId->Bool
 rr:FuncId->Bool
 pl:Nat->Option Bd
structure AL where
 bs:List (List AV)
 ts:List (Nat×Nat)
structure Env where
 P:Program
 G:Nat->Option (List PV)
 kind:FuncId->Kind
 mu:FuncId->TypeId->Bool
 rr:FuncId->FuncId->Bool
 clone:FuncId->Bool
 plan:FuncId->Nat->Option Bd
 told:FuncId->Option (A3->List AV->AL->Option (AV×AL)):=λ_=>none
 bz:TypeId->Bool:=λ_=>false
 back:FuncId->Option TypeId:=λ_=>none
structure St where
 N:Nat
 ρ:Nat->AV
 s:AL
abbrev IE (v:Value):AV:=.pv (.sc v)
def ZX (ρ:Nat->AV) (i:Nat) (v:AV) (j:Nat):AV:=bif Nat.beq j i then v else ρ j
def quick (P:Program) {α:Type}:Sem α->Option α
 | .pure a=>some a
 | .program k=>quick P (k P)
 | .mark _ k=>quick P k
 | _=>none
def GN:AV->Option Value
 | .pv (.sc v)=>some v
 | _=>none
def Lr:Value->AV
 | .agg cs=>.agg (cs.toList.map IE)
 | .tuple vs=>.tuple (vs.toList.map IE)
 | v=>IE v
def HU:Value->AV
 | .slice none 0 0=>.AA []
 | v=>IE v
def ofConst:Value->AV
 | .agg cs=>.agg (cs.toList.map HU)
 | .tuple vs=>.tuple (vs.toList.map IE)
 | v=>HU v
def Ad (ρ:Nat->AV):Operand->AV
 | .tmp t=>ρ t
 | .const v=>ofConst v
 | .global g=>.DX g 0
 | .func f=>.func (.func f) [] []
def cellsOf:AV->List AV
 | .agg cs=>cs
 | v=>[v]
def Ls:AV->Option PV
 | .pv p=>some p
 | .AA rows=>some (.list rows)
 | .own _ rows=>some (.list rows)
 | _=>none
def Co:List AV->Option (List PV)
 | []=>some []
 | c::cs=>match Ls c,Co cs with
  | some p,some ps=>some (p::ps)
  | _,_=>none
def rowsOf:AV->Option (List (List PV))
 | .pv (.list rows)=>some rows
 | .AA rows=>some rows
 | .own _ rows=>some rows
 | _=>none
def CR (k:Nat):Nat->List PV->List (List PV)
 | 0,_=>[]
 | n+1,cs=>cs.take k::CR k n (cs.drop k)
def Ih (bs:List (List AV)) (id off len sz:Nat):Option (List (List PV)):=
 match bs[id]? with
 | some cs=>if off+len*sz<=cs.length/\cs.isEmpty=false then match Co ((cs.drop off).take (len*sz)) with
   | some ps=>some (CR sz len ps)
   | none=>none
  else none
 | none=>none
mutual
def close (bs:List (List AV)) (n m:Nat):AV->Option AV
 | .pv p=>some (.pv p)
 | .ptr id off=>if id<n then some (.ptr id off) else none
 | .DX g off=>some (.DX g off)
 | .Cn row off=>some (.Cn row off)
 | .AA rows=>some (.AA rows)
 | .own t rows=>if t<m then some (.own t rows) else some (.pv (.list rows))
 | .ref id off len sz=>if id<n then some (.ref id off len sz) else match Ih bs id off len sz with
  | some rows=>some (.pv (.list rows))
  | none=>none
 | .func fn first captured=>match AX bs n m first,AX bs n m captured with
  | some a,some b=>some (.func fn a b)
  | _,_=>none
 | .iface t v=>match close bs n m v with
  | some v=>some (.iface t v)
  | none=>none
 | .agg cs=>match AX bs n m cs with
  | some cs=>some (.agg cs)
  | none=>none
 | .tuple vs=>match AX bs n m vs with
  | some vs=>some (.tuple vs)
  | none=>none
 | .G2=>some .G2
 | .FL id=>if id<n then some (.FL id) else none
 | .K7 _ _=>none
 | .bz id t k=>if id<n then some (.bz id t k) else none
def AX (bs:List (List AV)) (n m:Nat):List AV->Option (List AV)
 | []=>some []
 | c::cs=>match close bs n m c,AX bs n m cs with
  | some c,some cs=>some (c::cs)
  | _,_=>none
end
mutual
def GO:AV->Bool
 | .ptr _ _|.ref _ _ _ _|.own _ _|.FL _|.K7 _ _|.bz _ _ _=>false
 | .func _ first captured=>Bo first&&Bo captured
 | .iface _ v=>GO v
 | .agg cs=>Bo cs
 | .tuple vs=>Bo vs
 | _=>true
def Bo:List AV->Bool
 | []=>true
 | c::cs=>GO c&&Bo cs
end
mutual
def Jm:AV->Bool
 | .ptr _ _|.ref _ _ _ _|.FL _|.K7 _ _|.bz _ _ _=>false
 | .func _ first captured=>II first&&II captured
 | .iface _ v=>Jm v
 | .agg cs=>II cs
 | .tuple vs=>II vs
 | _=>true
def II:List AV->Bool
 | []=>true
 | c::cs=>Jm c&&II cs
end
def Qn (s:AL) (id:Nat):Option (List AV):=s.bs[id]?
def alive (s:AL) (id:Nat):Bool:=match s.bs[id]? with
 | some (_::_)=>true
 | _=>false
def partOf (P:Program) (t:TypeId) (cs:List AV) (off:Nat):Option AV:=
 match P.underlying t,P.info? t with
 | some d,some i=>match d with
  | .struct _|.array _ _=>if off+i.size<=cs.length/\i.size≠0 then some (.agg ((cs.drop off).take i.size)) else none
  | _=>cs[off]?
 | _,_=>none
def SL (E:Env) (s:AL) (t:TypeId):AV->Option AV
 | .ptr id off=>match Qn s id with
  | some cs=>partOf E.P t cs off
  | none=>none
 | .DX g off=>match E.G g with
  | some row=>partOf E.P t (row.map .pv) off
  | none=>none
 | .Cn row off=>partOf E.P t (row.map .pv) off
 | _=>none
def setCells (cs:List AV) (off:Nat):List AV->List AV
 | []=>cs
 | v::vs=>setCells (cs.set off v) (off+1) vs
def BE:AV->Bool
 | .agg _|.tuple _|.K7 _ _|.bz _ _ _=>false
 | .pv (.sc (.agg _))|.pv (.sc (.tuple _))=>false
 | _=>true
def NQ (E:Env) (L:A3) (s:AL) (t:TypeId) (a x:AV):Option AL:=
 match a,E.P.info? t with
 | .ptr id off,some i=>match Qn s id with
  | some cs=>
   let vs:=cellsOf x
   if vs.length=i.size/\off+vs.length<=cs.length/\L.ro<=id/\(vs.all BE)=true/\(L.n0<=id\/II vs=true)/\i.size≠0 then
    some { s with bs:=s.bs.set id (setCells cs off vs) } else none
  | none=>none
 | _,_=>none
def M8 (E:Env) (id:Nat) (t:TypeId) (z:List AV):List AV:=bif E.bz t then match z with
  | .pv (.sc (.pointer none))::r=>.bz id t (r.length+1)::r
  | z=>z
 else z
def GV (s:AL) (cs:List AV):AV×AL:=(.ptr s.bs.length 0,{ s with bs:=s.bs++[cs] })
def Lc (place:Nat->Option (Nat×Nat)) (cells:List AV):List (Nat×AV)->Option (List AV)
 | []=>some cells
 | (i,v)::rest=>match place i with
  | none=>none
  | some (off,size)=>
   if (cellsOf v).length=size/\off+size<=cells.length/\(cellsOf v).all BE=true then
    Lc place (setCells cells off (cellsOf v)) rest
   else none
def zeroOf (P:Program) (t:TypeId):Option (List AV):=
 match P.info? t with
 | some i=>match i.zero with
  | some v=>some (cellsOf (ofConst v))
  | none=>none
 | none=>none
def Dk (P:Program) (t:TypeId):Option Nat:=match P.info? t with|some i=>some i.size|none=>none
def Xf (P:Program) (fields:Array Field) (i:Nat):Option (Nat×Nat):=
 match fields[i]? with
 | some f=>match Dk P f.type with|some k=>some (f.offset,k)|none=>none
 | none=>none
def SM (P:Program) (t:TypeId) (parts:List (Nat×AV)):Option AV:=
 match zeroOf P t,P.underlying t with
 | some z,some (.struct fields)=>
  match Lc (Xf P fields) z parts with
  | some cs=>if fields.all (λf=>(Dk P f.type).isSome) then some (.agg cs) else none
  | none=>none
 | some z,some (.array _ elem)=>
  match Dk P elem with
  | some k=>match Lc (λi=>some (i*k,k)) z parts with
   | some cs=>some (.agg cs)
   | none=>none
  | none=>none
 | _,_=>none
def Fg {α:Type} (n:Nat) (l:List α):List α:=match n with
 | 0=>[]
 | n+1=>l++Fg n l
def Gm (P:Program) (L:A3) (s:AL) (t:TypeId) (len:Nat) (parts:List (Nat×AV)):Option (AV×AL):=
 match P.underlying t with
 | some (.slice elem)=>match Dk P elem,zeroOf P elem with
  | some k,some z=>
   if len*k<=2 ^ 24/\z.length=k/\k≠0 then
    match Lc (λi=>some (i*k,k)) (Fg len z) parts with
    | some cs=>bif L.mu elem&&Nat.blt 0 len then some (.ref s.bs.length 0 len k,{ s with bs:=s.bs++[cs] })
     else match Co cs with
     | some ps=>some (.AA (CR k len ps),s)
     | none=>none
    | none=>none
   else none
  | _,_=>none
 | _=>none
def I6 (P:Program) (s:AL) (t:TypeId) (len cap:AV):Option (AV×AL):=
 match P.underlying t,len,cap with
 | some (.slice elem),.pv (.sc (.int .i64 l)),.pv (.sc (.int .i64 c))=>match P.info? elem,zeroOf P elem with
  | some i,some z=>
   if 0<=l/\l<=c/\c<=2 ^ 40/\c*i.bytes<=2 ^ 45/\z.length=i.size/\i.size≠0 then
    if c=0 then some (.AA [],s)
    else if l=c then some (.ref s.bs.length 0 l.toNat i.size,{ s with bs:=s.bs++[Fg l.toNat z] })
    else if l=0 then some (.own s.ts.length [],{ s with ts:=s.ts++[(0,elem)] })
    else none
   else none
  | _,_=>none
 | _,_,_=>none
def KM (s:AL):AV->Option AV
 | .ptr id off=>bif alive s id then some (.ptr id off) else none
 | .DX g off=>some (.DX g off)
 | .Cn r off=>some (.Cn r off)
 | .func (.func f) a b=>some (.func (.func f) a b)
 | _=>none
def HV (P:Program) (s:AL) (t:TypeId) (x:AV) (field:Nat):Option AV:=
 match P.underlying t with
 | some (.struct fields)=>match fields[field]? with
  | some f=>match Dk P f.type with
   | some k=>if k=0 then none else match x with
    | .ptr id off=>bif alive s id then some (.ptr id (off+f.offset)) else none
    | .DX g off=>some (.DX g (off+f.offset))
    | .Cn r off=>some (.Cn r (off+f.offset))
    | _=>none
   | none=>none
  | none=>none
 | _=>none
def SN (P:Program) (t:TypeId) (x:AV) (field:Nat):Option AV:=
 match P.underlying t,x with
 | some (.struct fields),.agg cs=>match fields[field]? with
  | some f=>partOf P f.type cs f.offset
  | none=>none
 | _,_=>none
def Xg:AV->Option Int
 | .pv (.sc (.int _ n))=>some n
 | _=>none
def HW (P:Program) (s:AL) (t:TypeId) (x ix:AV):Option AV:=
 match P.underlying t,Xg ix with
 | some (.slice elem),some i=>match Dk P elem with
  | some k=>match rowsOf x with
   | some rows=>if 0<=i then match rows[i.toNat]? with
     | some row=>if row.length=k/\k≠0 then some (.Cn row 0) else none
     | none=>none
    else none
   | none=>match x with
    | .ref id off len sz=>if 0<=i/\i<len/\sz=k/\alive s id=true then some (.ptr id (off+i.toNat*k)) else none
    | _=>none
  | none=>none
 | some (.array len elem),some i=>match Dk P elem with
  | some k=>if 0<=i/\i<len then match x with
    | .ptr id off=>bif alive s id then some (.ptr id (off+i.toNat*k)) else none
    | .DX g off=>some (.DX g (off+i.toNat*k))
    | .Cn r off=>some (.Cn r (off+i.toNat*k))
    | _=>none
   else none
  | none=>none
 | _,_=>none
def Lt:AV->Nat->Option AV
 | .tuple vs,i=>vs[i]?
 | _,_=>none
def HD:AV->Option Nat
 | .pv (.sc (.int _ n))=>if 0<=n then some n.toNat else none
 | _=>none
def Fj (d:Nat):Option AV->Option Nat
 | none=>some d
 | some v=>HD v
def PZ (P:Program) (s:AL) (t:TypeId) (x:AV) (lo hi mx:Option AV):Option AV:=
 match P.underlying t with
 | some (.slice elem)=>match Dk P elem with
  | some k=>match x with
   | .ref id off len sz=>match Fj len hi,Fj 0 lo,mx with
    | some h,some l,none=>if l<=h/\h<=len/\sz=k/\k≠0/\alive s id=true then(if l=h then some (.pv (.list [])) else some (.ref id (off+l*k) (h-l) sz)) else none
    | some h,some l,some m=>match HD m with
     | some m=>if l=h/\h<=len/\m=h/\hi.isSome=true/\alive s id=true then some (.AA []) else none
     | none=>none
    | _,_,_=>none
   | x=>match rowsOf x with
    | some rows=>match Fj rows.length hi,Fj 0 lo with
     | some h,some l=>
      if l<=h/\h<=rows.length/\(rows.all λr=>r.length==k)=true then match mx with
       | none=>some (.pv (.list ((rows.take h).drop l)))
       | some m=>match HD m with
        | some m=>if m=h/\hi.isSome then some (.AA ((rows.take h).drop l)) else none
        | none=>none
      else none
     | _,_=>none
    | none=>none
  | none=>none
 | _=>none
def A9 (s:AL):AV->Option Nat
 | .ref id _ len _=>bif alive s id then some len else none
 | v=>match rowsOf v with
  | some rows=>some rows.length
  | none=>none
def C0 (s:AL) (k:Nat):AV->Option (List AV)
 | .pv (.sc (.string b))=>if k=1 then some (b.data.toList.map λb=>IE (.int .u8 b.toNat)) else none
 | .ref id off len sz=>match s.bs[id]? with
  | some cs=>if off+len*sz<=cs.length/\sz=k/\alive s id=true then some ((cs.drop off).take (len*sz)) else none
  | none=>none
 | v=>match rowsOf v with
  | some rows=>if (rows.all λr=>r.length==k)=true then some (rows.flatten.map .pv) else none
  | none=>none
def Ii (P:Program) (L:A3) (s:AL) (t:TypeId) (x y:AV):Option (AV×AL):=
 match P.underlying t with
 | some (.slice elem)=>match P.info? elem with
  | some i=>if (zeroOf P elem).map List.length=some i.size/\i.size≠0 then
    match C0 s i.size y with
    | some []=>match x with
     | .ref id _ _ _=>bif alive s id then some (x,s) else none
     | _=>match rowsOf x with
      | some _=>some (x,s)
      | none=>none
    | some (c::cs)=>if (c::cs).all BE=true then
     let new:=c::cs
     let n:=new.length / i.size
     match x with
     | .ref id off len sz=>match s.bs[id]? with
      | some old=>if off=0/\sz=i.size/\len*sz<=old.length/\alive s id=true/\(len+n)*i.bytes<=2 ^ 45/\len+n<=2 ^ 45/\L.ro<=id then
        some (.ref s.bs.length 0 (len+n) sz,{ s with bs:=s.bs.set id []++[old.take (len*sz)++new] }) else none
      | none=>none
     | .AA rows=>
      if (rows.length+n)*i.bytes<=2 ^ 45/\rows.length+n<=2 ^ 45/\(rows.all λr=>r.length==i.size)=true then
       bif L.mu elem then some (.ref s.bs.length 0 (rows.length+n) i.size,{ s with bs:=s.bs++[rows.flatten.map .pv++new] })
       else match Co new with
       | some ps=>some (.own s.ts.length (rows++CR i.size n ps),{ s with ts:=s.ts++[(rows.length+n,elem)] })
       | none=>none
      else none
     | .own k rows=>
      if (rows.length+n)*i.bytes<=2 ^ 45/\rows.length+n<=2 ^ 45/\s.ts[k]?=some (rows.length,elem)/\L.rt<=k/\(rows.all λr=>r.length==i.size)=true then
       match Co new with
       | some ps=>some (.own k (rows++CR i.size n ps),{ s with ts:=s.ts.set k (rows.length+n,elem) })
       | none=>none
      else none
     | _=>none
     else none
    | none=>none
   else none
  | none=>none
 | _=>none
def KN:List AV->Option (List UInt8)
 | []=>some []
 | .pv (.sc (.int .u8 n))::rest=>match KN rest with
  | some l=>some (UInt8.ofNat n.toNat::l)
  | none=>none
 | _=>none
def K8 (s:AL):AV->Option (List UInt8)
 | .pv (.sc _)=>none
 | y=>match C0 s 1 y with
  | some cs=>KN cs
  | none=>none
def D4 (s:AL):AV->Option Nat
 | .ptr id _=>bif alive s id then some 0 else none
 | .DX _ _=>some 0
 | .Cn _ _=>some 0
 | .func _ _ _=>some 2
 | .iface _ _=>some 3
 | .ref id _ _ _=>bif alive s id then some 1 else none
 | v=>match rowsOf v with
  | some ((_::_)::_)=>some 1
  | _=>none
def Fc (ρ:Nat->AV):Operand->Option Nat
 | .const (.slice none 0 0)=>some 1
 | x=>match Ad ρ x with
  | .pv (.sc (.pointer none))=>some 0
  | .pv (.sc .nilFunc)=>some 2
  | .pv (.sc .nilIface)=>some 3
  | _=>none
def C7 (P:Program) (t:TypeId):Option Nat:=match P.underlying t with
 | some (.pointer _)=>some 0
 | some (.slice _)=>some 1
 | some (.func _ _ _)=>some 2
 | some (.interface _)=>some 3
 | _=>none
def sameKind:Option Nat->Option Nat->Option Nat->Bool
 | some a,some b,some c=>Nat.beq a b&&Nat.beq a c
 | _,_,_=>false
def IJ (P:Program) (s:AL) (ρ:Nat->AV) (op:BinOp) (t:TypeId) (x y:Operand):Option AV:=
 bif sameKind (C7 P t) (D4 s (Ad ρ x)) (Fc ρ y)||sameKind (C7 P t) (Fc ρ x) (D4 s (Ad ρ y)) then match op with
  | .eql=>some (IE (.bool false))
  | .neq=>some (IE (.bool true))
  | _=>none
 else none
def Ej (ρ:Nat->AV) (xs:List Operand):Bool:=xs.all λx=>(GN (Ad ρ x)).isSome
def Cy (E:Env) (ρ:Nat->AV) (o:Oper):Option AV:=
 if Ej ρ o.op.operands.toList then
  match quick E.P (execOp (λx=>(GN (Ad ρ x)).getD undef) o) with
  | some (.value v)=>some (Lr v)
  | _=>none
 else none
def Ek:List UInt8->List UInt8->Bool
 | [],[]=>true
 | a::xs,b::ys=>Nat.beq a.toNat b.toNat&&Ek xs ys
 | _,_=>false
def GQ:IntKind->Nat
 | .i8=>0|.i16=>1|.i32=>2|.i64=>3|.u8=>4|.u16=>5|.u32=>6|.u64=>7
def jb:AV->Option Value
 | .pv (.sc v)=>some v
 | .func (.func f) [] []=>some (.func (.func f) #[] #[])
 | _=>none
def SP:List AV->Option (List Value)
 | []=>some []
 | c::cs=>match jb c,SP cs with
  | some v,some vs=>some (v::vs)
  | _,_=>none
def jc:AV->Option Value
 | .agg cs=>match SP cs with
  | some vs=>some (.agg vs.toArray)
  | none=>none
 | c=>jb c
def Ru:Value->AV
 | .func fn a b=>.func fn (a.toList.map IE) (b.toList.map IE)
 | v=>IE v
def ng:Value->AV
 | .agg cs=>.agg (cs.toList.map Ru)
 | .func fn a b=>.func fn (a.toList.map IE) (b.toList.map IE)
 | v=>Lr v
def OP (k:List UInt8):List MapEntry->Nat->Option (Option (Nat×Value))
 | [],_=>some none
 | e::es,i=>match e.key with
  | .string b=>bif Ek k b.data.toList then some (some (i,e.val)) else OP k es (i+1)
  | _=>none
def SQ (P:Program) (t:TypeId) (k:Value) (es:List MapEntry):Option (Option (Nat×Value)):=
 match P.underlying t with
 | some (.int i)=>Instr.findNow (.int i) k es 0
 | some .string=>match k with
  | .string b=>OP b.data.toList es 0
  | _=>none
 | _=>none
def K9 (s:AL):AV->Option (List MapEntry×Nat)
 | .FL id=>match s.bs[id]? with
  | some [.K7 es clock]=>some (es,clock)
  | _=>none
 | _=>none
def OQ (P:Program) (s:AL) (t:TypeId) (m k:AV) (commaOk:Bool):Option AV:=
 match P.underlying t,K9 s m,GN k with
 | some (.map kt elem),some (es,_),some key=>match SQ P kt key es with
  | some (some (_,v))=>some (bif commaOk then .tuple [ng v,IE (.bool true)] else ng v)
  | some none=>match P.info? elem with
   | some i=>match i.zero with
    | some z=>some (bif commaOk then .tuple [ofConst z,IE (.bool false)] else ofConst z)
    | none=>none
   | none=>none
  | none=>none
 | _,_,_=>none
def NR (L:A3) (s:AL) (es:List MapEntry) (clock:Nat):AV->Option AL
 | .FL id=>bif Nat.ble L.ro id then some { s with bs:=s.bs.set id [.K7 es clock] } else none
 | _=>none
def LA (P:Program) (L:A3) (s:AL) (t:TypeId) (m k x:AV):Option AL:=
 match P.underlying t,K9 s m,GN k,jc x with
 | some (.map kt _),some (es,clock),some key,some v=>match SQ P kt key es with
  | some (some (i,_))=>match (es[i]?).map (·.key) with
   | some old=>bif Instr.sameBits 10000 old key then NR L s (es.modify i λe=>{ e with key:=key,val:=v }) clock m else none
   | none=>none
  | some none=>NR L s (es++[{ key:=key,val:=v,born:=clock }]) (clock+1) m
  | none=>none
 | _,_,_,_=>none
def Xh (P:Program) (L:A3) (s:AL) (t:TypeId) (m k:AV):Option AL:=
 match P.underlying t,K9 s m,GN k with
 | some (.map kt _),some (es,clock),some key=>match SQ P kt key es with
  | some (some (i,_))=>NR L s (es.eraseIdx i) clock m
  | some none=>NR L s es clock m
  | none=>none
 | _,_,_=>none
def LB:List UInt8->List UInt8->Bool
 | _,[]=>false
 | [],_::_=>true
 | a::x,b::y=>Nat.blt a.toNat b.toNat||(Nat.beq a.toNat b.toNat&&LB x y)
def Xi (k:IntKind) (op:BinOp) (a b:Nat):Option Value:=match op with
 | .eql=>some (.bool (Nat.beq a b))
 | .neq=>some (.bool (!Nat.beq a b))
 | .lss=>some (.bool (Nat.blt a b))
 | .leq=>some (.bool (Nat.ble a b))
 | .gtr=>some (.bool (Nat.blt b a))
 | .geq=>some (.bool (Nat.ble b a))
 | .add=>bif Nat.beq (GQ k) 3&&Nat.blt (a+b) 9223372036854775808 then some (.int .i64 (.ofNat (a+b))) else none
 | .sub=>bif Nat.beq (GQ k) 3&&(Nat.ble b a&&Nat.blt a 9223372036854775808) then some (.int .i64 (.ofNat (a-b))) else none
 | _=>none
def Xj (op:BinOp) (a b:List UInt8):Option Value:=match op with
 | .eql=>some (.bool (Ek a b))
 | .neq=>some (.bool (!Ek a b))
 | .lss=>some (.bool (LB a b))
 | .leq=>some (.bool (LB a b||Ek a b))
 | .gtr=>some (.bool (!(LB a b||Ek a b)))
 | .geq=>some (.bool (!LB a b))
 | _=>none
def Ij (op:BinOp):AV->AV->Option Value
 | .pv (.sc (.int k (.ofNat a))),.pv (.sc (.int k' (.ofNat b)))=>bif Nat.beq (GQ k) (GQ k') then Xi k op a b else none
 | .pv (.sc (.string a)),.pv (.sc (.string b))=>Xj op a.data.toList b.data.toList
 | _,_=>none
def Xk (op:UnOp):AV->Option Value
 | .pv (.sc (.bool b))=>match op with
  | .not=>some (.bool !b)
  | _=>none
 | _=>none
def Me (P:Program) (t:TypeId):AV->AV->Option Value
 | .pv (.sc (.string b)),.pv (.sc (.int _ (.ofNat n)))=>match P.underlying t,b.data.toList[n]? with
  | some .string,some c=>some (.int .u8 c.toNat)
  | _,_=>none
 | _,_=>none
def Mf (P:Program) (t:TypeId):AV->Option Value
 | .pv (.sc (.string b))=>match P.underlying t with
  | some .string=>some (.int .i64 (.ofNat b.data.toList.length))
  | _=>none
 | _=>none
def CS (E:Env) (L:A3) (ρ:Nat->AV) (s:AL) (o:Oper):Option (AV×AL):=
 let q (r:Option AV):Option (AV×AL):=match r with|some v=>some (v,s)|none=>none
 match o.op with
 | .move x|.assign x=>some (Ad ρ x,s)
 | .pick c a b=>match Ad ρ c with
  | .pv (.sc (.bool t))=>some (bif t then Ad ρ a else Ad ρ b,s)
  | _=>none
 | .alloc t=>match zeroOf E.P t with
  | some z=>some (GV s (M8 E s.bs.length t z))
  | none=>none
 | .box t x=>if (cellsOf (Ad ρ x)).all BE then some (GV s (M8 E s.bs.length t (cellsOf (Ad ρ x)))) else none
 | .build t parts=>q (SM E.P t (parts.toList.map λp=>(p.1,Ad ρ p.2)))
 | .buildSlice t len parts=>Gm E.P L s t len (parts.toList.map λp=>(p.1,Ad ρ p.2))
 | .makeSlice t l c=>I6 E.P s t (Ad ρ l) (Ad ρ c)
 | .load t a=>q (SL E s t (Ad ρ a))
 | .store t a x=>match NQ E L s t (Ad ρ a) (Ad ρ x) with
  | some s'=>some (.tuple [],s')
  | none=>none
 | .nilCheck x=>q (KM s (Ad ρ x))
 | .fieldAddr t x f=>q (HV E.P s t (Ad ρ x) f)
 | .field t x f=>q (SN E.P t (Ad ρ x) f)
 | .indexAddr t x i=>q (HW E.P s t (Ad ρ x) (Ad ρ i))
 | .extract t i=>q (Lt (Ad ρ t) i)
 | .makeFunc fn first captured=>some (.func fn (first.toList.map (Ad ρ)) (captured.toList.map (Ad ρ)),s)
 | .makeInterface t x=>match E.P.underlying t with
  | some (.interface _)=>none
  | some _=>some (.iface t (Ad ρ x),s)
  | none=>none
 | .slice t x lo hi mx=>
  match PZ E.P s t (Ad ρ x) (lo.map (Ad ρ)) (hi.map (Ad ρ)) (mx.map (Ad ρ)) with
  | some v=>some (v,s)
  | none=>q (Cy E ρ o)
 | .call { callee:=.builtin .len,args:=args,argTypes:=ts }=>
  match args.toList,ts.toList with
  | [x],[t]=>match Mf E.P t (Ad ρ x) with
   | some v=>some (IE v,s)
   | none=>match E.P.underlying t,A9 s (Ad ρ x) with
    | some (.slice _),some n=>some (IE (.int .i64 n),s)
    | _,_=>q (Cy E ρ o)
  | _,_=>none
 | .call { callee:=.builtin .append,args:=args,argTypes:=ts }=>
  match args.toList,ts.toList with
  | [x,y],t::u::_=>match E.P.underlying u with
   | some (.int _)=>none
   | some _=>Ii E.P L s t (Ad ρ x) (Ad ρ y)
   | none=>none
  | _,_=>none
 | .call { callee:=.builtin .delete,args:=args,argTypes:=ts }=>
  match args.toList,ts.toList with
  | [m,k],t::_=>match Xh E.P L s t (Ad ρ m) (Ad ρ k) with
   | some s'=>some (.tuple [],s')
   | none=>none
  | _,_=>none
 | .call { callee:=.builtin _,.. }=>q (Cy E ρ o)
 | .makeMap _ none=>some (.FL s.bs.length,{ s with bs:=s.bs++[[.K7 [] 0]] })
 | .lookup t m k ok=>q (OQ E.P s t (Ad ρ m) (Ad ρ k) ok)
 | .mapUpdate t m k x|.insert t m k x=>match LA E.P L s t (Ad ρ m) (Ad ρ k) (Ad ρ x) with
  | some s'=>some (.tuple [],s')
  | none=>none
 | .binOp op t x y _=>match Ij op (Ad ρ x) (Ad ρ y) with
  | some v=>some (IE v,s)
  | none=>match IJ E.P s ρ op t x y with
   | some v=>some (v,s)
   | none=>q (Cy E ρ o)
 | .convert a b x=>match E.P.underlying a,E.P.underlying b,Ad ρ x with
  | some .string,some (.slice e),.pv (.sc (.string t))=>match E.P.underlying e with
   | some (.int .u8)=>some (.pv (.list (t.data.toList.map λb=>[.sc (.int .u8 b.toNat)])),s)
   | _=>none
  | some (.slice e),some .string,y=>match E.P.underlying e,K8 s y with
   | some (.int .u8),some l=>some (IE (.string ⟨l.toArray⟩),s)
   | _,_=>none
  | _,_,_=>q (Cy E ρ o)
 | .unOp op _ x=>match Xk op (Ad ρ x) with
  | some v=>some (IE v,s)
  | none=>q (Cy E ρ o)
 | .index t x i=>match Me E.P t (Ad ρ x) (Ad ρ i) with
  | some v=>some (IE v,s)
  | none=>q (Cy E ρ o)
 | _=>none
def AIg (E:Env) (ρ:Nat->AV) (s:AL) (t:TypeId) (a:Operand):Option (AV×AL):=match SL E s t (Ad ρ a) with
 | some v=>some (v,s)
 | none=>none
def ZY (E:Env) (ρ:Nat->AV) (s:AL) (t:TypeId) (x:Operand) (f:Nat):Option (AV×AL):=match HV E.P s t (Ad ρ x) f with
 | some v=>some (v,s)
 | none=>none
def ACQ (E:Env) (ρ:Nat->AV) (s:AL) (t:TypeId) (x:Operand) (f:Nat):Option (AV×AL):=match SN E.P t (Ad ρ x) f with
 | some v=>some (v,s)
 | none=>none
def ZZ (E:Env) (ρ:Nat->AV) (s:AL) (t:TypeId) (x i:Operand):Option (AV×AL):=match HW E.P s t (Ad ρ x) (Ad ρ i) with
 | some v=>some (v,s)
 | none=>none
def ni (ρ:Nat->AV) (s:AL) (x:Operand) (i:Nat):Option (AV×AL):=match Lt (Ad ρ x) i with
 | some v=>some (v,s)
 | none=>none
def ACR (E:Env) (ρ:Nat->AV) (s:AL) (t:TypeId) (parts:Array (Nat×Operand)):Option (AV×AL):=match SM E.P t (parts.toList.map λp=>(p.1,Ad ρ p.2)) with
 | some v=>some (v,s)
 | none=>none
def ACS (E:Env) (L:A3) (ρ:Nat->AV) (s:AL) (t:TypeId) (a x:Operand):Option (AV×AL):=match NQ E L s t (Ad ρ a) (Ad ρ x) with
 | some s'=>some (.tuple [],s')
 | none=>none
def ANn (E:Env) (ρ:Nat->AV) (s:AL) (o:Oper) (op:BinOp) (t:TypeId) (x y:Operand):Option (AV×AL):=match Ij op (Ad ρ x) (Ad ρ y) with
 | some v=>some (IE v,s)
 | none=>match IJ E.P s ρ op t x y with
  | some v=>some (v,s)
  | none=>match Cy E ρ o with
   | some v=>some (v,s)
   | none=>none
def opF (E:Env) (L:A3) (ρ:Nat->AV) (s:AL) (o:Oper):Option (AV×AL):=match o.op with
 | .move x=>some (Ad ρ x,s)
 | .assign x=>some (Ad ρ x,s)
 | .load t a=>AIg E ρ s t a
 | .fieldAddr t x f=>ZY E ρ s t x f
 | .field t x f=>ACQ E ρ s t x f
 | .indexAddr t x i=>ZZ E ρ s t x i
 | .extract x i=>ni ρ s x i
 | .build t parts=>ACR E ρ s t parts
 | .store t a x=>ACS E L ρ s t a x
 | .binOp op t x y _=>ANn E ρ s o op t x y
 | _=>CS E L ρ s o
theorem rZ (E:Env) (L:A3) (ρ:Nat->AV) (s:AL) (o:Oper):opF E L ρ s o=CS E L ρ s o:=by
 obtain⟨dst,op,type,pos,after,guard⟩:=o;cases op <;> rfl
def LC (ρ:Nat->AV) (c:Call):Option (FuncId×List AV):=
 match c.callee with
 | .value f=>match Ad ρ f with
  | .func (.func g) first captured=>some (g,first++c.args.toList.map (Ad ρ)++captured)
  | _=>none
 | _=>none
inductive Out where
 | norm|exit (id:Nat)|ret
def OS (ops:Array Oper) (o:Oper):Option Nat:=match o.guard with
 | none=>none
 | some (j,_)=>match ops[j]? with
  | some p=>p.dst
  | none=>none
def E7 (ops:Array Oper) (ρ:Nat->AV) (o:Oper):Option Bool:=
 match o.guard with
 | none=>some true
 | some (_,want)=>match OS ops o with
  | some d=>match ρ d with
   | .pv (.sc (.bool b))=>some (b==want)
   | .tuple []=>some false
   | _=>none
  | none=>some false
def KO (st:St) (d:Option Nat) (v:AV):Option St:=
 match d with
 | none=>some st
 | some d=>bif Nat.blt d st.N then some { st with ρ:=ZX st.ρ d v } else none
abbrev Cp:=FuncId->List AV->AL->Option (AV×AL)
def nj (E:Env) (L:A3) (cf:Cp) (ρ:Nat->AV) (s:AL) (o:Oper):Option (AV×AL):=
 match o.op with
 | .call c=>match c.callee with
  | .builtin _=>CS E L ρ s o
  | _=>match LC ρ c with
   | some (f,args)=>cf f args s
   | none=>none
 | _=>CS E L ρ s o
def NT (E:Env) (L:A3) (cf:Cp) (ρ:Nat->AV) (s:AL) (o:Oper):Option (AV×AL):=
 match o.op with
 | .call c=>match c.callee with
  | .builtin _=>CS E L ρ s o
  | _=>match LC ρ c with
   | some (f,args)=>cf f args s
   | none=>none
 | _=>opF E L ρ s o
theorem OT (E:Env) (L:A3) (cf:Cp) (ρ:Nat->AV) (s:AL) (o:Oper):NT E L cf ρ s o=nj E L cf ρ s o:=by
 unfold NT nj;simp only[rZ]
def M9 (E:Env) (L:A3) (cf:Cp) (st:St) (o:Oper):Option St:=
 match NT E L cf st.ρ st.s o with
 | some (v,s)=>KO { st with s:=s } o.dst v
 | none=>none
def Ld:Operand->Nat->Bool
 | .tmp t,d=>Nat.beq t d
 | _,_=>false
structure I7 where
 t:TypeId
 x:Operand
 y:Operand
 d:Nat
 ix:Operand
 p:Nat
 te:TypeId
 v:Operand
def fused (o o1 o2:Oper):Option I7:=
 match o.op,o.dst,o1.op,o1.dst,o2.op,o2.dst with
 | .call { callee:=.builtin .append,args:=args,argTypes:=ts },some d,.indexAddr t1 (.tmp d1) ix,some p,.store te (.tmp p1) v,none=>
  match args.toList,ts.toList with
  | [x,y],[t,t']=>if d1=d/\p1=p/\t1=t/\t'=t/\d≠p/\o.guard.isNone=true/\o1.guard.isNone=true/\o2.guard.isNone=true/\Ld ix d=false/\Ld v d=false/\Ld v p=false/\Ld x d=false/\Ld y d=false/\Ld x p=false/\Ld y p=false/\Ld ix p=false then
    some ⟨t,x,y,d,ix,p,te,v⟩ else none
  | _,_=>none
 | _,_,_,_,_,_=>none
def KP (L:A3) (s:AL) (elem:TypeId) (i:TypeInfo) (x:AV) (row:List PV):Option (AV×AL):=
 match x with
 | .AA rows=>
  if (rows.length+1)*i.bytes<=2 ^ 45/\rows.length+1<=2 ^ 45/\(rows.all λr=>r.length==i.size)=true then
   some (.own s.ts.length (rows++[row]),{ s with ts:=s.ts++[(rows.length+1,elem)] })
  else none
 | .own k rows=>
  if (rows.length+1)*i.bytes<=2 ^ 45/\rows.length+1<=2 ^ 45/\s.ts[k]?=some (rows.length,elem)/\L.rt<=k/\(rows.all λr=>r.length==i.size)=true then
   some (.own k (rows++[row]),{ s with ts:=s.ts.set k (rows.length+1,elem) })
  else none
 | _=>none
def I8 (E:Env) (L:A3) (ρ:Nat->AV) (s:AL) (k:I7):Option (AV×AL):=
 match E.P.underlying k.t with
 | some (.slice elem)=>
  if L.mu elem=false/\k.te=elem then
   match E.P.info? elem,rowsOf (Ad ρ k.x),rowsOf (Ad ρ k.y),HD (Ad ρ k.ix),Co (cellsOf (Ad ρ k.v)) with
   | some i,some rows,some [z],some n,some row=>
    if n=rows.length/\z.length=i.size/\row.length=i.size/\(cellsOf (Ad ρ k.v)).all BE=true/\(z.map AV.pv).all BE=true/\i.size≠0/\(zeroOf E.P elem).map List.length=some i.size then
     KP L s elem i (Ad ρ k.x) row
    else none
   | _,_,_,_,_=>none
  else none
 | _=>none
def Vb (E:Env) (L:A3) (ρ:Nat->AV) (s:AL) (k:I7):Option (AV×AL):=
 match E.P.underlying k.t with
 | some (.slice elem)=>
  if L.mu elem=true/\k.te=elem then
   match E.P.info? elem,Ad ρ k.x,HD (Ad ρ k.ix) with
   | some i,.ref id off len sz,some n=>match C0 s i.size (Ad ρ k.y),s.bs[id]? with
    | some zs,some old=>
     if n=len/\zs.length=i.size/\(cellsOf (Ad ρ k.v)).length=i.size/\(cellsOf (Ad ρ k.v)).all BE=true/\zs.all BE=true/\i.size≠0/\(zeroOf E.P elem).map List.length=some i.size /\
       off=0/\sz=i.size/\len*sz<=old.length/\alive s id=true/\(len+1)*i.bytes<=2 ^ 45/\len+1<=2 ^ 45/\L.ro<=id then
      some (.ref s.bs.length 0 (len+1) sz,{ s with bs:=s.bs.set id []++[old.take (len*sz)++cellsOf (Ad ρ k.v)] })
     else none
    | _,_=>none
   | _,_,_=>none
  else none
 | _=>none
def KQ (E:Env) (L:A3) (ρ:Nat->AV) (s:AL) (k:I7):Option (AV×AL):=match I8 E L ρ s k with
 | some r=>some r
 | none=>Vb E L ρ s k
def J5 (st:St) (k:I7) (v:AV) (s:AL):Option St:=
 match KO { st with s:=s } (some k.d) v with
 | some st=>KO st (some k.p) .G2
 | none=>none
def IK (E:Env) (L:A3) (cf:Cp) (ops:Array Oper):List Oper->St->Option St
 | [],st=>some st
 | o::rest,st=>
  let one:Option St:=match E7 ops st.ρ o with
   | some true=>match M9 E L cf st o with
    | some st=>IK E L cf ops rest st
    | none=>none
   | some false=>match KO st o.dst (.tuple []) with
    | some st=>IK E L cf ops rest st
    | none=>none
   | none=>none
  match rest with
  | o1::o2::rest'=>match fused o o1 o2 with
   | some k=>match I8 E L st.ρ st.s k with
    | some (v,s)=>match J5 st k v s with
     | some st=>IK E L cf ops rest' st
     | none=>none
    | none=>one
   | none=>one
  | _=>one
def hcells (E:Env) (ρ:Nat->AV) (o:Oper):Option (List AV×(Nat->AV)):=
 match o.op with
 | .alloc t=>match zeroOf E.P t with
  | some z=>bif E.bz t then none else some (z,λid=>.ptr id 0)
  | none=>none
 | .makeSlice t l c=>match E.P.underlying t,Ad ρ l,Ad ρ c with
  | some (.slice elem),.pv (.sc (.int .i64 l)),.pv (.sc (.int .i64 c))=>match E.P.info? elem,zeroOf E.P elem with
   | some i,some z=>
    if 0<l/\l=c/\c<=2 ^ 40/\c*i.bytes<=2 ^ 45/\z.length=i.size/\i.size≠0 then some (Fg l.toNat z,λid=>.ref id 0 l.toNat i.size)
    else none
   | _,_=>none
  | _,_,_=>none
 | _=>none
def IL:AV->Option Nat
 | .ptr id _=>some id
 | .ref id _ _ _=>some id
 | _=>none
def Za:Int->Int->Bool
 | .ofNat a,.ofNat b=>Nat.beq a b
 | .negSucc a,.negSucc b=>Nat.beq a b
 | _,_=>false
def eqV:Value->Value->Bool
 | .int k n,.int k' n'=>Nat.beq (GQ k) (GQ k')&&Za n n'
 | .bool a,.bool b=>a==b
 | .string a,.string b=>Ek a.data.toList b.data.toList
 | .pointer none,.pointer none=>true
 | .nilFunc,.nilFunc=>true
 | .nilIface,.nilIface=>true
 | .map none,.map none=>true
 | .slice none a b,.slice none c d=>Nat.beq a c&&Nat.beq b d
 | _,_=>false
mutual
def NA:PV->PV->Bool
 | .sc a,.sc b=>eqV a b
 | .list a,.list b=>IV a b
 | _,_=>false
def Lu:List PV->List PV->Bool
 | [],[]=>true
 | a::xs,b::ys=>NA a b&&Lu xs ys
 | _,_=>false
def IV:List (List PV)->List (List PV)->Bool
 | [],[]=>true
 | a::xs,b::ys=>Lu a b&&IV xs ys
 | _,_=>false
end
def nk:List MapEntry->List MapEntry->Bool
 | [],[]=>true
 | a::xs,b::ys=>eqV a.key b.key&&eqV a.val b.val&&Nat.beq a.born b.born&&nk xs ys
 | _,_=>false
mutual
def Bl:AV->AV->Bool
 | .pv a,.pv b=>NA a b
 | .ptr a b,.ptr c d=>Nat.beq a c&&Nat.beq b d
 | .DX a b,.DX c d=>Nat.beq a c&&Nat.beq b d
 | .Cn a b,.Cn c d=>Lu a c&&Nat.beq b d
 | .AA a,.AA b=>IV a b
 | .own t a,.own u b=>Nat.beq t u&&IV a b
 | .ref a b c d,.ref a' b' c' d'=>Nat.beq a a'&&Nat.beq b b'&&Nat.beq c c'&&Nat.beq d d'
 | .func (.func f) a b,.func (.func g) c d=>Nat.beq f g&&IM a c&&IM b d
 | .iface t a,.iface u b=>Nat.beq t u&&Bl a b
 | .agg a,.agg b=>IM a b
 | .tuple a,.tuple b=>IM a b
 | .G2,.G2=>true
 | .FL a,.FL b=>Nat.beq a b
 | .K7 a c,.K7 b d=>nk a b&&Nat.beq c d
 | .bz a t n,.bz b u m=>Nat.beq a b&&Nat.beq t u&&Nat.beq n m
 | _,_=>false
def IM:List AV->List AV->Bool
 | [],[]=>true
 | a::xs,b::ys=>Bl a b&&IM xs ys
 | _,_=>false
end
def ET (E:Env) (L:A3) (ρ:Nat->AV) (s:AL) (o:Oper):Option AV:=
 match o.op with
 | .alloc _|.box _ _|.store _ _ _|.makeMap _ _|.mapUpdate _ _ _ _|.insert _ _ _ _=>none
 | .makeSlice _ _ _=>match CS E L ρ s o with
  | some (.AA [],_)=>some (.AA [])
  | _=>none
 | .call { callee:=.builtin .delete,.. }=>none
 | .buildSlice t _ _=>match E.P.underlying t with
  | some (.slice elem)=>bif L.mu elem then none else match CS E L ρ s o with
   | some (v,_)=>some v
   | none=>none
  | _=>none
 | .call { callee:=.builtin .append,.. }=>none
 | _=>match CS E L ρ s o with
  | some (v,_)=>some v
  | none=>none
def I9 (E:Env) (L:A3) (ρ:Nat->AV) (s:AL) (o:Oper):Option AV:=
 match o.op with
 | .alloc _|.box _ _|.store _ _ _|.makeMap _ _|.mapUpdate _ _ _ _|.insert _ _ _ _=>none
 | .makeSlice _ _ _=>match CS E L ρ s o with
  | some (.AA [],_)=>some (.AA [])
  | _=>none
 | .call { callee:=.builtin .delete,.. }=>none
 | .buildSlice t _ _=>match E.P.underlying t with
  | some (.slice elem)=>bif L.mu elem then none else match CS E L ρ s o with
   | some (v,_)=>some v
   | none=>none
  | _=>none
 | .call { callee:=.builtin .append,.. }=>none
 | _=>match opF E L ρ s o with
  | some (v,_)=>some v
  | none=>none
theorem KR (E:Env) (L:A3) (ρ:Nat->AV) (s:AL) (o:Oper):I9 E L ρ s o=ET E L ρ s o:=by
 unfold I9 ET;simp only[rZ]
def E8 (E:Env) (L:A3) (ops:Array Oper) (ρ:Nat->AV) (s:AL) (o:Oper):Option AV:=
 match E7 ops ρ o with
 | some true=>I9 E L ρ s o
 | some false=>some (.tuple [])
 | none=>none
def NU (E:Env) (L:A3) (cf:Cp) (ops:Array Oper) (ρ:Nat->AV) (s:AL) (o:Oper):Option (AV×AL):=
 match E7 ops ρ o with
 | some true=>NT E L cf ρ s o
 | some false=>some (.tuple [],s)
 | none=>none
def JA (E:Env) (L:A3) (ops:Array Oper) (cls:List eH):List Nat->St->Option St
 | [],st=>some st
 | i::rest,st=>match ops[i]?,cls[i]? with
  | some o,some (.q _)=>match E8 E L ops st.ρ st.s o with
   | some v=>match KO st o.dst v with
    | some st=>JA E L ops cls rest st
    | none=>none
   | none=>none
  | some o,some (.h _)=>match hcells E st.ρ o with
   | some (cs,mk)=>match KO { st with s:={ st.s with bs:=st.s.bs++[cs] } } o.dst (mk st.s.bs.length) with
    | some st=>JA E L ops cls rest st
    | none=>none
   | none=>none
  | _,_=>none
def HE (E:Env) (L:A3) (cf:Cp) (ops:Array Oper) (cls:List eH):List Nat->St->List AL->Option (St×List AL)
 | [],st,acc=>some (st,acc)
 | i::rest,st,acc=>match ops[i]?,cls[i]? with
  | some o,some (.q _)=>match E8 E L ops st.ρ st.s o with
   | some v=>match KO st o.dst v with
    | some st=>HE E L cf ops cls rest st acc
    | none=>none
   | none=>none
  | some o,some (.w _)=>match NU E L cf ops st.ρ st.s o with
   | some (v,s)=>match KO { st with s:=s } o.dst v with
    | some st=>HE E L cf ops cls rest st (s::acc)
    | none=>none
   | none=>none
  | some o,some (.fa _ j x)=>match ops[j]?,ops[x]? with
   | some o1,some o2=>match fused o o1 o2 with
    | some k=>match KQ E L st.ρ st.s k with
     | some (v,s)=>match J5 st k v s with
      | some st=>HE E L cf ops cls rest st (s::acc)
      | none=>none
     | none=>none
    | none=>none
   | _,_=>none
  | some _,some .fj=>HE E L cf ops cls rest st acc
  | some _,some .fx=>HE E L cf ops cls rest st acc
  | _,_=>none
def HQ (GU:List (List Nat)) (i:Nat):List Nat:=match GU[i]? with
 | some l=>l
 | none=>[]
def has (l:List Nat) (x:Nat):Bool:=l.any λy=>Nat.beq y x
def Fe (GU:List (List Nat)) (ρ0 ρf:Nat->AV) (i t:Nat):AV:=bif has (HQ GU i) t then ρ0 t else ρf t
def eI (E:Env) (L:A3) (ops:Array Oper) (cls:List eH) (GU:List (List Nat)) (ρ0 ρf:Nat->AV) (σ:List AL):List (Nat×Nat)->Bool
 | []=>true
 | (i,k)::rest=>(match ops[i]?,cls[i]?,σ[k]? with
  | some o,some (.q _),some s=>match E8 E L ops (Fe GU ρ0 ρf i) s o with
   | some v=>match o.dst with
    | some d=>Bl v (ρf d)
    | none=>true
   | none=>false
  | some o,some (.h _),some s=>match hcells E (Fe GU ρ0 ρf i) o,o.dst with
   | some (cs,_),some d=>match IL (ρf d) with
    | some id=>match s.bs[id]? with
     | some cs'=>IM cs' cs
     | none=>false
    | none=>false
   | _,_=>false
  | _,_,_=>false)&&eI E L ops cls GU ρ0 ρf σ rest
def Qo (ops:Array Oper) (p:Bd) (ρ0 ρf:Nat->AV) (E9:Nat):List Nat->Bool
 | []=>true
 | m::rest=>(match ops[m]?,p.cls[m]? with
  | some om,some (.w _)=>match om.op with
   | .store _ y _=>match Ad (Fe p.GU ρ0 ρf m) y with
    | .ptr id _=>!(Nat.beq id E9)
    | _=>true
   | _=>true
  | _,_=>true)&&Qo ops p ρ0 ρf E9 rest
def RK (E:Env) (L:A3) (ops:Array Oper) (i j x:Nat):Bool:=match ops[i]?,ops[j]?,ops[x]? with
 | some o,some o1,some o2=>match fused o o1 o2 with
  | some k=>match E.P.underlying k.t with
   | some (.slice elem)=>L.mu elem
   | _=>false
  | none=>false
 | _,_,_=>false
def ri (E:Env) (L:A3) (ops:Array Oper) (cls:List eH):List Nat->Bool
 | []=>true
 | i::rest=>(match cls[i]? with
  | some (.fa _ j x)=>!(RK E L ops i j x)
  | _=>true)&&ri E L ops cls rest
def SR (E:Env) (L:A3) (ops:Array Oper) (p:Bd) (ρ0 ρf:Nat->AV):List Nat->Bool
 | []=>true
 | i::rest=>(match p.cls[i]? with
  | some (.fa _ j x)=>bif RK E L ops i j x then match ops[i]? with
   | some o=>match o.dst with
    | some d=>match ρf d with
     | .ref E9 _ _ _=>Qo ops p ρ0 ρf E9 p.rest
     | _=>true
    | none=>true
   | none=>true
   else true
  | _=>true)&&SR E L ops p ρ0 ρf rest
def Vc (E:Env) (L:A3) (ops:Array Oper) (p:Bd) (ρ0 ρf:Nat->AV):Bool:=ri E L ops p.cls p.rest||SR E L ops p ρ0 ρf p.rest
def Xl (E:Env) (L:A3) (cf:Cp) (p:Bd) (ops:Array Oper) (st0:St):Option St:=
 match JA E L ops p.cls p.first st0 with
 | some st=>match HE E L cf ops p.cls p.rest st [st.s] with
  | some (st,acc)=>bif eI E L ops p.cls p.GU st0.ρ st.ρ acc.reverse p.Xe&&Vc E L ops p st0.ρ st.ρ then some st else none
  | none=>none
 | none=>none
def Jn (E:Env) (L:A3) (cf:Cp) (ops:Array Oper) (st:St):Option Bd->Option St
 | some p=>Xl E L cf p ops st
 | none=>none
def rj (E:Env) (L:A3) (ops:Array Oper) (st:St) (p q:Option Bd):Option Bd:=match p with
 | some p=>match JA E L ops p.cls p.first st with
  | some _=>some p
  | none=>q
 | none=>q
def initρ:List AV->Nat->AV
 | [],_=>.tuple []
 | v::_,0=>v
 | _::vs,n+1=>initρ vs n
def Mg (E:Env) (st:St):ResultVar->Option AV
 | .tmp t=>some (st.ρ t)
 | .cell a t=>SL E st.s t (st.ρ a)
def Fk (E:Env) (st:St):List ResultVar->Option (List AV)
 | []=>some []
 | r::rs=>match Mg E st r,Fk E st rs with
  | some v,some vs=>some (v::vs)
  | _,_=>none
def KS:List AV->AV
 | [v]=>v
 | vs=>.tuple vs
def KT:Code->Bool
 | .rangeFunc _ _ _ _=>false
 | .seq a b=>KT a&&KT b
 | .cond _ a b=>KT a&&KT b
 | .block _ b=>KT b
 | .loop b=>KT b
 | _=>true
def Jo (f:Nat->List PV->AL->Option (Out×AL)) (rows:List (List PV)):Nat->AL->Option (Out×AL)
 | 0,s=>some (.norm,s)
 | j+1,s=>match rows[j]? with
  | some row=>match f j row s with
   | some (.norm,s')=>Jo f rows j s'
   | r=>r
  | none=>none
def rm (P:Program) (el:TypeId) (row:List PV):Option AV:=
 if Dk P el=some row.length/\row.length≠0 then partOf P el (row.map .pv) 0 else none
def JB (P:Program) (ev:Code->St->Option (Out×St)) (a b:Code) (st:St) (p q:Nat) (el:TypeId) (j:Nat) (row:List PV) (s:AL):Option (Out×AL):=
 match rm P el row with
 | some v=>match ev a ⟨st.N,ZX (ZX st.ρ p (IE (.int .i64 j))) q v,s⟩ with
  | some (.norm,Fh)=>match ev b Fh with
   | some (o,rq)=>some (o,rq.s)
   | none=>none
  | _=>none
 | none=>none
def Jd (E:Env) (cf:A3->Cp):Nat->A3->Code->St->Option (Out×St)
 | 0,_,_,_=>none
 | n+1,L,c,st=>match c with
  | .skip=>some (.norm,st)
  | .ret=>some (.ret,st)
  | .exit id=>some (.exit id,st)
  | .region _ ops false=>match IK E L (cf L) ops ops.toList st with
   | some st=>some (.norm,st)
   | none=>none
  | .region id ops true=>match Jn E L (cf L) ops st (rj E L ops st (L.pl id) (L.pl (id+1000000))) with
   | some st=>some (.norm,st)
   | none=>none
  | .seq a b=>match Jd E cf n L a st with
   | some (.norm,st)=>Jd E cf n L b st
   | r=>r
  | .cond c a b=>match Ad st.ρ c with
   | .pv (.sc (.bool t))=>Jd E cf n L (bif t then a else b) st
   | _=>none
  | .block id b=>match Jd E cf n L b st with
   | some (.exit j,st)=>bif Nat.beq j id then some (.norm,st) else some (.exit j,st)
   | r=>r
  | .loop b=>match Jd E cf n L b st with
   | some (.norm,st)=>Jd E cf n L (.loop b) st
   | r=>r
  | .rangeFunc g ps a b=>match Ad st.ρ g,ps.toList with
   | .func (.func k) [] [.ptr id 0],[p,q]=>match E.back k,st.s.bs[id]? with
    | some el,some (c::_)=>match rowsOf c with
     | some rows=>bif Nat.ble L.ro id&&(KT a&&(KT b&&(Nat.blt p st.N&&(Nat.blt q st.N&&(!Nat.beq p q&&(Nat.ble rows.length 1000000000000000000&&(Dk E.P el).isSome)))))) then
       match Jo (JB E.P (Jd E cf n L) a b st p q el) rows rows.length { st.s with bs:=st.s.bs.set id [] } with
       | some (o,s')=>some (o,{ st with s:=s' })
       | none=>none
      else none
     | none=>none
    | _,_=>none
   | _,_=>none
  | _=>none
def JC (E:Env) (cf:A3->Cp) (n:Nat) (fn:Func) (L:A3) (args:List AV) (s:AL):Option (AV×AL):=
 match fn.body with
 | none=>none
 | some body=>match Jd E cf n L body ⟨fn.ntmps,initρ args,s⟩ with
  | some (.exit _,_)=>none
  | some (_,st)=>match Fk E st fn.results.toList with
   | some vs=>some (KS vs,st.s)
   | none=>none
  | none=>none
mutual
def Ar (n:Nat):AV->Bool
 | .ptr id _|.ref id _ _ _|.FL id|.bz id _ _=>Nat.blt id n
 | .func _ first captured=>Ah n first&&Ah n captured
 | .iface _ v=>Ar n v
 | .agg cs=>Ah n cs
 | .tuple vs=>Ah n vs
 | _=>true
def Ah (n:Nat):List AV->Bool
 | []=>true
 | c::cs=>Ar n c&&Ah n cs
end
def HX (r:Bool) (n:Nat):AV->Option (Nat×Nat×Nat×Nat)
 | .ref id off len sz=>bif r&&Nat.ble n id then some (id,off,len,sz) else none
 | _=>none
def HR (r:Bool) (n:Nat) (v:AV) (s:AL):Option (AV×AL):=
 bif (s.bs.take n).all (Ah n) then match HX r n v with
  | some (id,off,len,sz)=>match s.bs[id]? with
   | some (c::cs)=>bif Ah n (c::cs) then some (.ref n off len sz,⟨s.bs.take n++[c::cs],s.ts⟩) else none
   | _=>none
  | none=>match close s.bs n s.ts.length v with
   | some v=>some (v,⟨s.bs.take n,s.ts⟩)
   | none=>none
 else none
def IW (E:Env) (cf:A3->Cp) (n:Nat) (f:FuncId) (fn:Func) (args:List AV) (s:AL):Option (AV×AL):=
 match JC E cf n fn ⟨0,0,0,E.mu f,E.rr f,E.plan f⟩ args ⟨[],[]⟩ with
 | some (v,s')=>match close s'.bs 0 0 v with
  | some v=>some (v,s)
  | none=>none
 | none=>none
def D5 (E:Env) (cf:A3->Cp) (n:Nat) (L:A3) (f:FuncId) (fn:Func) (args:List AV) (s:AL):Option (AV×AL):=
 if args.length<=fn.ntmps then
  match E.kind f with
  | .esc=>JC E cf n fn { L with mu:=E.mu f,rr:=E.rr f,pl:=E.plan f } args s
  | .rd=>match AX [] 0 0 args with
   | some args=>IW E cf n f fn args s
   | none=>match JC E cf n fn ⟨s.bs.length,s.bs.length,s.ts.length,E.mu f,E.rr f,E.plan f⟩ args s with
    | some (v,s')=>match close s'.bs s.bs.length s.ts.length v with
     | some v=>some (v,s)
     | none=>none
    | none=>none
  | k=>bif (match k with|.im=>Bo args|_=>false) then IW E cf n f fn args s else
   match JC E cf n fn ⟨0,L.ro,L.rt,E.mu f,E.rr f,E.plan f⟩ args s with
   | some (v,s')=>HR (L.rr f) s.bs.length v s'
   | none=>none
 else none
def JD:List AV->Bool
 | [x]=>match rowsOf x with
  | some []=>true
  | _=>false
 | _=>false
def OU (E:Env) (L:A3) (f:FuncId) (args:List AV) (s:AL) (r:Option (AV×AL)):Option (AV×AL):=match E.told f with
 | some T=>T L args s
 | none=>bif JD args then some (.AA [],s) else r
def Dl (E:Env):Nat->A3->Cp
 | 0,_,_,_,_=>none
 | n+1,L,f,args,s=>match E.P.funcs[f]? with
  | some fn=>bif E.clone f then OU E L f args s (D5 E (Dl E n) n L f fn args s) else D5 E (Dl E n) n L f fn args s
  | none=>none
end Go.Tel
