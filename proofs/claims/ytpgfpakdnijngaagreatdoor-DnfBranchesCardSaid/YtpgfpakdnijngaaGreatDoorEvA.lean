/-
  A deterministic evaluator for the model's code on abstract values: definitions only.
-/
import Derived.Test.YtpgfpakdnijngaaGreatDoorAl
set_option linter.all false
namespace Go.Tel
open Option renaming some->Y
open Bool renaming true->Z,false->ϴ
open Go renaming Value->ϛ,TypeId->ϝ,Program->ϟ,Oper->ϡ,FuncId->ϣ,Operand->ϧ
inductive PV where
 | sc (v:ϛ)
 | list (rows:List (List PV))
inductive AV where
 | pv (p:PV)
 | ptr (id off:Nat)
 | EF (g off:Nat)
 | DF (row:List PV) (off:Nat)
 | AE (rows:List (List PV))
 | own (tok:Nat) (rows:List (List PV))
 | ref (id off len sz:Nat)
 | func (fn:Fn) (first captured:List AV)
 | iface (t:ϝ) (v:AV)
 | agg (cs:List AV)
 | tuple (vs:List AV)
 | Gy
 | Hl (id:Nat)
 | PZ (es:List MapEntry) (clock:Nat)
 | bz (id:Nat) (t:ϝ) (n:Nat)
abbrev Ϩ:=List (List AV)
abbrev Ϯ:=List (List PV)
abbrev Ϫ:=List (Nat×Nat)
abbrev Ϭ:=List AV
abbrev Ϧ:=List PV
abbrev Ϟ:=List Nat
abbrev Ϝ:=List UInt8
abbrev Ϛ:=List Int
inductive Kind where
 | rd|im|st|esc
inductive aa where
 | w (r:Nat)
 | q (ts:Ϟ)
 | h (ts:Ϟ)
 | fa (r j x:Nat)
 | fj|fx
structure B3 where
 first:Ϟ
 rest:Ϟ
 cls:List aa
 pre:List Ϟ
 LL:List Ϟ
 fe:Ϫ
structure Ba where
 n0:Nat
 ro:Nat
 rt:Nat
 mu:ϝ->Bool
 rr:ϣ->Bool
 pl:Nat->Option B3
structure AY where
 bs:Ϩ
 ts:Ϫ
abbrev Ϡ:=AV->AY->Prop
structure Env where
 P:ϟ
 G:Nat->Option Ϧ
 kind:ϣ->Kind
 mu:ϣ->ϝ->Bool
 rr:ϣ->ϣ->Bool
 clone:ϣ->Bool
 plan:ϣ->Nat->Option B3
 told:ϣ->Option (Ba->Ϭ->AY->Option (AV×AY)):=λ_=>none
 bz:ϝ->Bool:=λ_=>ϴ
 back:ϣ->Option ϝ:=λ_=>none
structure St where
 N:Nat
 U:Nat->AV
 s:AY
abbrev Jo (v:ϛ):AV:=.pv (.sc v)
def Yq (U:Nat->AV) (i:Nat) (v:AV) (j:Nat):AV:=bif Nat.beq j i then v else U j
def quick (P:ϟ) {α:Type}:Sem α->Option α
 | .pure a=>Y a
 | .program k=>quick P (k P)
 | .mark _ k=>quick P k
 | _=>none
def Hx:AV->Option ϛ
 | .pv (.sc v)=>Y v
 | _=>none
def OQ:ϛ->AV
 | .agg b=>.agg (b.toList.map Jo)
 | .tuple d=>.tuple (d.toList.map Jo)
 | v=>Jo v
def IC:ϛ->AV
 | .slice none 0 0=>.AE []
 | v=>Jo v
def ofConst:ϛ->AV
 | .agg b=>.agg (b.toList.map IC)
 | .tuple d=>.tuple (d.toList.map Jo)
 | v=>IC v
def A1 (U:Nat->AV):ϧ->AV
 | .tmp t=>U t
 | .const v=>ofConst v
 | .global g=>.EF g 0
 | .func f=>.func (.func f) [] []
def cellsOf:AV->Ϭ
 | .agg b=>b
 | v=>[v]
def KX:AV->Option PV
 | .pv p=>Y p
 | .AE rows=>Y (.list rows)
 | .own _ rows=>Y (.list rows)
 | _=>none
def C0:Ϭ->Option Ϧ
 | []=>Y []
 | c::b=>match KX c,C0 b with
  | some p,Y ps=>Y (p::ps)
  | _,_=>none
def rowsOf:AV->Option Ϯ
 | .pv (.list rows)=>Y rows
 | .AE rows=>Y rows
 | .own _ rows=>Y rows
 | _=>none
def CZ (k:Nat):Nat->Ϧ->Ϯ
 | 0,_=>[]
 | n+1,b=>b.take k::CZ k n (b.drop k)
def JU (bs:Ϩ) (id off len sz:Nat):Option Ϯ:=
 match bs[id]? with
 | some b=>if off+len*sz<=b.length/\b.isEmpty=ϴ then match C0 ((b.drop off).take (len*sz)) with
   | some ps=>Y (CZ sz len ps)
   | none=>none
  else none
 | none=>none
mutual
def close (bs:Ϩ) (n m:Nat):AV->Option AV
 | .pv p=>Y (.pv p)
 | .ptr id d=>if id<n then Y (.ptr id d) else none
 | .EF g d=>Y (.EF g d)
 | .DF j d=>Y (.DF j d)
 | .AE rows=>Y (.AE rows)
 | .own t rows=>if t<m then Y (.own t rows) else Y (.pv (.list rows))
 | .ref id d len sz=>if id<n then Y (.ref id d len sz) else match JU bs id d len sz with
  | some rows=>Y (.pv (.list rows))
  | none=>none
 | .func l first i=>match BZ bs n m first,BZ bs n m i with
  | some a,Y b=>Y (.func l a b)
  | _,_=>none
 | .iface t v=>match close bs n m v with
  | some v=>Y (.iface t v)
  | none=>none
 | .agg e=>match BZ bs n m e with
  | some e=>Y (.agg e)
  | none=>none
 | .tuple f=>match BZ bs n m f with
  | some f=>Y (.tuple f)
  | none=>none
 | .Gy=>Y .Gy
 | .Hl id=>if id<n then Y (.Hl id) else none
 | .PZ _ _=>none
 | .bz id t k=>if id<n then Y (.bz id t k) else none
def BZ (bs:Ϩ) (n m:Nat):Ϭ->Option Ϭ
 | []=>Y []
 | c::b=>match close bs n m c,BZ bs n m b with
  | some c,Y b=>Y (c::b)
  | _,_=>none
end
mutual
def F9:AV->Bool
 | .ptr _ _|.ref _ _ _ _|.own _ _|.Hl _|.PZ _ _|.bz _ _ _=>ϴ
 | .func _ first b=>Da first&&Da b
 | .iface _ v=>F9 v
 | .agg d=>Da d
 | .tuple e=>Da e
 | _=>Z
def Da:Ϭ->Bool
 | []=>Z
 | c::b=>F9 c&&Da b
end
mutual
def Jw:AV->Bool
 | .ptr _ _|.ref _ _ _ _|.Hl _|.PZ _ _|.bz _ _ _=>ϴ
 | .func _ first b=>JB first&&JB b
 | .iface _ v=>Jw v
 | .agg d=>JB d
 | .tuple e=>JB e
 | _=>Z
def JB:Ϭ->Bool
 | []=>Z
 | c::b=>Jw c&&JB b
end
def Ro (s:AY) (id:Nat):Option Ϭ:=s.bs[id]?
def alive (s:AY) (id:Nat):Bool:=match s.bs[id]? with
 | some (_::_)=>Z
 | _=>ϴ
def partOf (P:ϟ) (t:ϝ) (cs:Ϭ) (off:Nat):Option AV:=
 match P.underlying t,P.info? t with
 | some d,Y i=>match d with
  | .struct _|.array _ _=>if off+i.size<=cs.length/\i.size≠0 then Y (.agg ((cs.drop off).take i.size)) else none
  | _=>cs[off]?
 | _,_=>none
def TQ (E:Env) (s:AY) (t:ϝ):AV->Option AV
 | .ptr id b=>match Ro s id with
  | some e=>partOf E.P t e b
  | none=>none
 | .EF g b=>match E.G g with
  | some d=>partOf E.P t (d.map .pv) b
  | none=>none
 | .DF d b=>partOf E.P t (d.map .pv) b
 | _=>none
def setCells (cs:Ϭ) (off:Nat):Ϭ->Ϭ
 | []=>cs
 | v::b=>setCells (cs.set off v) (off+1) b
def BS:AV->Bool
 | .agg _|.tuple _|.PZ _ _|.bz _ _ _=>ϴ
 | .pv (.sc (.agg _))|.pv (.sc (.tuple _))=>ϴ
 | _=>Z
def Og (E:Env) (L:Ba) (s:AY) (t:ϝ) (a x:AV):Option AY:=
 match a,E.P.info? t with
 | .ptr id d,Y i=>match Ro s id with
  | some e=>
   let b:=cellsOf x
   if b.length=i.size/\d+b.length<=e.length/\L.ro<=id/\(b.all BS)=Z/\(L.n0<=id\/JB b=Z)/\i.size≠0 then
    Y { s with bs:=s.bs.set id (setCells e d b) } else none
  | none=>none
 | _,_=>none
def OS (E:Env) (id:Nat) (t:ϝ) (z:Ϭ):Ϭ:=bif E.bz t then match z with
  | .pv (.sc (.pointer none))::r=>.bz id t (r.length+1)::r
  | z=>z
 else z
def HY (s:AY) (cs:Ϭ):AV×AY:=(.ptr s.bs.length 0,{ s with bs:=s.bs++[cs] })
def Mf (place:Nat->Option (Nat×Nat)) (cells:Ϭ):List (Nat×AV)->Option Ϭ
 | []=>Y cells
 | (i,v)::d=>match place i with
  | none=>none
  | some (b,size)=>
   if (cellsOf v).length=size/\b+size<=cells.length/\(cellsOf v).all BS=Z then
    Mf place (setCells cells b (cellsOf v)) d
   else none
def zeroOf (P:ϟ) (t:ϝ):Option Ϭ:=
 match P.info? t with
 | some i=>match i.zero with
  | some v=>Y (cellsOf (ofConst v))
  | none=>none
 | none=>none
def Dy (P:ϟ) (t:ϝ):Option Nat:=match P.info? t with|some i=>Y i.size|none=>none
def TR (P:ϟ) (fields:Array Field) (i:Nat):Option (Nat×Nat):=
 match fields[i]? with
 | some f=>match Dy P f.type with|some k=>Y (f.offset,k)|none=>none
 | none=>none
def TS (P:ϟ) (t:ϝ) (parts:List (Nat×AV)):Option AV:=
 match zeroOf P t,P.underlying t with
 | some z,Y (.struct fields)=>
  match Mf (TR P fields) z parts with
  | some b=>if fields.all (λf=>(Dy P f.type).isSome) then Y (.agg b) else none
  | none=>none
 | some z,Y (.array _ d)=>
  match Dy P d with
  | some k=>match Mf (λi=>Y (i*k,k)) z parts with
   | some b=>Y (.agg b)
   | none=>none
  | none=>none
 | _,_=>none
def GC {α:Type} (n:Nat) (l:List α):List α:=match n with
 | 0=>[]
 | n+1=>l++GC n l
def y7 (L:Ba) (e:ϝ):Bool:=L.mu e&&!L.mu (e+1000000)
def HN (P:ϟ) (L:Ba) (s:AY) (t:ϝ) (len:Nat) (parts:List (Nat×AV)):Option (AV×AY):=
 match P.underlying t with
 | some (.slice b)=>match Dy P b,zeroOf P b with
  | some k,Y z=>
   if len*k<=2 ^ 24/\z.length=k/\k≠0 then
    match Mf (λi=>Y (i*k,k)) (GC len z) parts with
    | some d=>bif y7 L b&&Nat.blt 0 len then Y (.ref s.bs.length 0 len k,{ s with bs:=s.bs++[d] })
     else match C0 d with
     | some ps=>Y (.AE (CZ k len ps),s)
     | none=>none
    | none=>none
   else none
  | _,_=>none
 | _=>none
def fh (P:ϟ) (s:AY) (t:ϝ) (len cap:AV):Option (AV×AY):=
 match P.underlying t,len,cap with
 | some (.slice b),.pv (.sc (.int .i64 l)),.pv (.sc (.int .i64 c))=>match P.info? b,zeroOf P b with
  | some i,Y z=>
   if 0<=l/\l<=c/\c<=2 ^ 40/\c*i.bytes<=2 ^ 45/\z.length=i.size/\i.size≠0 then
    if c=0 then Y (.AE [],s)
    else if l=c then Y (.ref s.bs.length 0 l.toNat i.size,{ s with bs:=s.bs++[GC l.toNat z] })
    else if l=0 then Y (.own s.ts.length [],{ s with ts:=s.ts++[(0,b)] })
    else none
   else none
  | _,_=>none
 | _,_,_=>none
def LN (s:AY):AV->Option AV
 | .ptr id d=>bif alive s id then Y (.ptr id d) else none
 | .EF g d=>Y (.EF g d)
 | .DF r d=>Y (.DF r d)
 | .func (.func f) a b=>Y (.func (.func f) a b)
 | _=>none
def ID (P:ϟ) (s:AY) (t:ϝ) (x:AV) (d:Nat):Option AV:=
 match P.underlying t with
 | some (.struct fields)=>match fields[d]? with
  | some f=>match Dy P f.type with
   | some k=>if k=0 then none else match x with
    | .ptr id b=>bif alive s id then Y (.ptr id (b+f.offset)) else none
    | .EF g b=>Y (.EF g (b+f.offset))
    | .DF r b=>Y (.DF r (b+f.offset))
    | _=>none
   | none=>none
  | none=>none
 | _=>none
def TT (P:ϟ) (t:ϝ) (x:AV) (b:Nat):Option AV:=
 match P.underlying t,x with
 | some (.struct fields),.agg d=>match fields[b]? with
  | some f=>partOf P f.type d f.offset
  | none=>none
 | _,_=>none
def Yr:AV->Option Int
 | .pv (.sc (.int _ n))=>Y n
 | _=>none
def IE (P:ϟ) (s:AY) (t:ϝ) (x f:AV):Option AV:=
 match P.underlying t,Yr f with
 | some (.slice d),Y i=>match Dy P d with
  | some k=>match rowsOf x with
   | some rows=>if 0<=i then match rows[i.toNat]? with
     | some e=>if e.length=k/\k≠0 then Y (.DF e 0) else none
     | none=>none
    else none
   | none=>match x with
    | .ref id b len sz=>if 0<=i/\i<len/\sz=k/\alive s id=Z then Y (.ptr id (b+i.toNat*k)) else none
    | _=>none
  | none=>none
 | some (.array len d),Y i=>match Dy P d with
  | some k=>if 0<=i/\i<len then match x with
    | .ptr id b=>bif alive s id then Y (.ptr id (b+i.toNat*k)) else none
    | .EF g b=>Y (.EF g (b+i.toNat*k))
    | .DF r b=>Y (.DF r (b+i.toNat*k))
    | _=>none
   else none
  | none=>none
 | _,_=>none
def Mr:AV->Nat->Option AV
 | .tuple b,i=>b[i]?
 | _,_=>none
def Ho:AV->Option Nat
 | .pv (.sc (.int _ n))=>if 0<=n then Y n.toNat else none
 | _=>none
def GH (d:Nat):Option AV->Option Nat
 | none=>Y d
 | some v=>Ho v
def Qm (P:ϟ) (s:AY) (t:ϝ) (x:AV) (lo b mx:Option AV):Option AV:=
 match P.underlying t with
 | some (.slice d)=>match Dy P d with
  | some k=>match x with
   | .ref id e len sz=>match GH len b,GH 0 lo,mx with
    | some h,Y l,none=>if l<=h/\h<=len/\sz=k/\k≠0/\alive s id=Z then(if l=h then Y (.pv (.list [])) else Y (.ref id (e+l*k) (h-l) sz)) else none
    | some h,Y l,Y m=>match Ho m with
     | some m=>if l=h/\h<=len/\m=h/\b.isSome=Z/\alive s id=Z then Y (.AE []) else none
     | none=>none
    | _,_,_=>none
   | x=>match rowsOf x with
    | some rows=>match GH rows.length b,GH 0 lo with
     | some h,Y l=>
      if l<=h/\h<=rows.length/\(rows.all λr=>r.length==k)=Z then match mx with
       | none=>Y (.pv (.list ((rows.take h).drop l)))
       | some m=>match Ho m with
        | some m=>if m=h/\b.isSome then Y (.AE ((rows.take h).drop l)) else none
        | none=>none
      else none
     | _,_=>none
    | none=>none
  | none=>none
 | _=>none
def BG (s:AY):AV->Option Nat
 | .ref id _ len _=>bif alive s id then Y len else none
 | v=>match rowsOf v with
  | some rows=>Y rows.length
  | none=>none
def DS (s:AY) (k:Nat):AV->Option Ϭ
 | .pv (.sc (.string b))=>if k=1 then Y (b.data.toList.map λb=>Jo (.int .u8 b.toNat)) else none
 | .ref id d len sz=>match s.bs[id]? with
  | some e=>if d+len*sz<=e.length/\sz=k/\alive s id=Z then Y ((e.drop d).take (len*sz)) else none
  | none=>none
 | v=>match rowsOf v with
  | some rows=>if (rows.all λr=>r.length==k)=Z then Y (rows.flatten.map .pv) else none
  | none=>none
def JV (P:ϟ) (L:Ba) (s:AY) (t:ϝ) (x y:AV):Option (AV×AY):=
 match P.underlying t with
 | some (.slice b)=>match P.info? b with
  | some i=>if (zeroOf P b).map List.length=Y i.size/\i.size≠0 then
    match DS s i.size y with
    | some []=>match x with
     | .ref id _ _ _=>bif alive s id then Y (x,s) else none
     | _=>match rowsOf x with
      | some _=>Y (x,s)
      | none=>none
    | some (c::f)=>if (c::f).all BS=Z then
     let d:=c::f
     let n:=d.length / i.size
     match x with
     | .ref id j len sz=>match s.bs[id]? with
      | some e=>if j=0/\sz=i.size/\len*sz<=e.length/\alive s id=Z/\(len+n)*i.bytes<=2 ^ 45/\len+n<=2 ^ 45/\L.ro<=id then
        Y (.ref s.bs.length 0 (len+n) sz,{ s with bs:=s.bs.set id []++[e.take (len*sz)++d] }) else none
      | none=>none
     | .AE rows=>
      if (rows.length+n)*i.bytes<=2 ^ 45/\rows.length+n<=2 ^ 45/\(rows.all λr=>r.length==i.size)=Z then
       bif L.mu b then Y (.ref s.bs.length 0 (rows.length+n) i.size,{ s with bs:=s.bs++[rows.flatten.map .pv++d] })
       else match C0 d with
       | some ps=>Y (.own s.ts.length (rows++CZ i.size n ps),{ s with ts:=s.ts++[(rows.length+n,b)] })
       | none=>none
      else none
     | .own k rows=>
      if (rows.length+n)*i.bytes<=2 ^ 45/\rows.length+n<=2 ^ 45/\s.ts[k]?=Y (rows.length,b)/\L.rt<=k/\(rows.all λr=>r.length==i.size)=Z then
       match C0 d with
       | some ps=>Y (.own k (rows++CZ i.size n ps),{ s with ts:=s.ts.set k (rows.length+n,b) })
       | none=>none
      else none
     | _=>none
     else none
    | none=>none
   else none
  | none=>none
 | _=>none
def Wq:Ϭ->Option Ϝ
 | []=>Y []
 | .pv (.sc (.int .u8 n))::b=>match Wq b with
  | some l=>Y (UInt8.ofNat n.toNat::l)
  | none=>none
 | _=>none
def AEu (s:AY):AV->Option Ϝ
 | .pv (.sc _)=>none
 | y=>match DS s 1 y with
  | some b=>Wq b
  | none=>none
def Ec (s:AY):AV->Option Nat
 | .ptr id _=>bif alive s id then Y 0 else none
 | .EF _ _=>Y 0
 | .DF _ _=>Y 0
 | .func _ _ _=>Y 2
 | .iface _ _=>Y 3
 | .ref id _ _ _=>bif alive s id then Y 1 else none
 | v=>match rowsOf v with
  | some ((_::_)::_)=>Y 1
  | _=>none
def F1 (U:Nat->AV):ϧ->Option Nat
 | .const (.slice none 0 0)=>Y 1
 | x=>match A1 U x with
  | .pv (.sc (.pointer none))=>Y 0
  | .pv (.sc .nilFunc)=>Y 2
  | .pv (.sc .nilIface)=>Y 3
  | _=>none
def DT (P:ϟ) (t:ϝ):Option Nat:=match P.underlying t with
 | some (.pointer _)=>Y 0
 | some (.slice _)=>Y 1
 | some (.func _ _ _)=>Y 2
 | some (.interface _)=>Y 3
 | _=>none
def sameKind:Option Nat->Option Nat->Option Nat->Bool
 | some a,Y b,Y c=>Nat.beq a b&&Nat.beq a c
 | _,_,_=>ϴ
def JC (P:ϟ) (s:AY) (U:Nat->AV) (op:BinOp) (t:ϝ) (x y:ϧ):Option AV:=
 bif sameKind (DT P t) (Ec s (A1 U x)) (F1 U y)||sameKind (DT P t) (F1 U x) (Ec s (A1 U y)) then match op with
  | .eql=>Y (Jo (.bool ϴ))
  | .neq=>Y (Jo (.bool Z))
  | _=>none
 else none
def FA (U:Nat->AV) (xs:List ϧ):Bool:=xs.all λx=>(Hx (A1 U x)).isSome
def DN (E:Env) (U:Nat->AV) (o:ϡ):Option AV:=
 if FA U o.op.operands.toList then
  match quick E.P (execOp (λx=>(Hx (A1 U x)).getD undef) o) with
  | some (.value v)=>Y (OQ v)
  | _=>none
 else none
def F2:Ϝ->Ϝ->Bool
 | [],[]=>Z
 | a::d,b::e=>Nat.beq a.toNat b.toNat&&F2 d e
 | _,_=>ϴ
def Gs:IntKind->Nat
 | .i8=>0|.i16=>1|.i32=>2|.i64=>3|.u8=>4|.u16=>5|.u32=>6|.u64=>7
def ABL:AV->Option ϛ
 | .pv (.sc v)=>Y v
 | .func (.func f) [] []=>Y (.func (.func f) #[] #[])
 | _=>none
def rD:Ϭ->Option (List ϛ)
 | []=>Y []
 | c::b=>match ABL c,rD b with
  | some v,Y d=>Y (v::d)
  | _,_=>none
def ALc:AV->Option ϛ
 | .agg b=>match rD b with
  | some d=>Y (.agg d.toArray)
  | none=>none
 | c=>ABL c
def y9:ϛ->AV
 | .func d a b=>.func d (a.toList.map Jo) (b.toList.map Jo)
 | v=>Jo v
def ALd:ϛ->AV
 | .agg d=>.agg (d.toList.map y9)
 | .func e a b=>.func e (a.toList.map Jo) (b.toList.map Jo)
 | v=>OQ v
def kq (k:Ϝ):List MapEntry->Nat->Option (Option (Nat×ϛ))
 | [],_=>Y none
 | e::d,i=>match e.key with
  | .string b=>bif F2 k b.data.toList then Y (Y (i,e.val)) else kq k d (i+1)
  | _=>none
def rF (P:ϟ) (t:ϝ) (k:ϛ) (es:List MapEntry):Option (Option (Nat×ϛ)):=
 match P.underlying t with
 | some (.int i)=>Instr.findNow (.int i) k es 0
 | some .string=>match k with
  | .string b=>kq b.data.toList es 0
  | _=>none
 | _=>none
def Ys (s:AY):AV->Option (List MapEntry×Nat)
 | .Hl id=>match s.bs[id]? with
  | some [.PZ d b]=>Y (d,b)
  | _=>none
 | _=>none
def AVT (P:ϟ) (s:AY) (t:ϝ) (m k:AV) (b:Bool):Option AV:=
 match P.underlying t,Ys s m,Hx k with
 | some (.map f d),Y (j,_),Y e=>match rF P f e j with
  | some (Y (_,v))=>Y (bif b then .tuple [ALd v,Jo (.bool Z)] else ALd v)
  | some none=>match P.info? d with
   | some i=>match i.zero with
    | some z=>Y (bif b then .tuple [ofConst z,Jo (.bool ϴ)] else ofConst z)
    | none=>none
   | none=>none
  | none=>none
 | _,_,_=>none
def Yt (L:Ba) (s:AY) (es:List MapEntry) (b:Nat):AV->Option AY
 | .Hl id=>bif Nat.ble L.ro id then Y { s with bs:=s.bs.set id [.PZ es b] } else none
 | _=>none
def AEv (P:ϟ) (L:Ba) (s:AY) (t:ϝ) (m k x:AV):Option AY:=
 match P.underlying t,Ys s m,Hx k,ALc x with
 | some (.map l _),Y (d,f),Y b,Y v=>match rF P l b d with
  | some (Y (i,_))=>match (d[i]?).map (·.key) with
   | some j=>bif Instr.sameBits 10000 j b then Yt L s (d.modify i λe=>{ e with key:=b,val:=v }) f m else none
   | none=>none
  | some none=>Yt L s (d++[{ key:=b,val:=v,born:=f }]) (f+1) m
  | none=>none
 | _,_,_,_=>none
def AVU (P:ϟ) (L:Ba) (s:AY) (t:ϝ) (m k:AV):Option AY:=
 match P.underlying t,Ys s m,Hx k with
 | some (.map f _),Y (b,d),Y e=>match rF P f e b with
  | some (Y (i,_))=>Yt L s (b.eraseIdx i) d m
  | some none=>Yt L s b d m
  | none=>none
 | _,_,_=>none
def L4:Ϝ->Ϝ->Bool
 | _,[]=>ϴ
 | [],_::_=>Z
 | a::x,b::y=>Nat.blt a.toNat b.toNat||(Nat.beq a.toNat b.toNat&&L4 x y)
def Yu (k:IntKind) (op:BinOp) (a b:Nat):Option ϛ:=match op with
 | .eql=>Y (.bool (Nat.beq a b))
 | .neq=>Y (.bool (!Nat.beq a b))
 | .lss=>Y (.bool (Nat.blt a b))
 | .leq=>Y (.bool (Nat.ble a b))
 | .gtr=>Y (.bool (Nat.blt b a))
 | .geq=>Y (.bool (Nat.ble b a))
 | .add=>bif Nat.beq (Gs k) 3&&Nat.blt (a+b) 9223372036854775808 then Y (.int .i64 (.ofNat (a+b))) else none
 | .sub=>bif Nat.beq (Gs k) 3&&(Nat.ble b a&&Nat.blt a 9223372036854775808) then Y (.int .i64 (.ofNat (a-b))) else none
 | _=>none
def Yv (op:BinOp) (a b:Ϝ):Option ϛ:=match op with
 | .eql=>Y (.bool (F2 a b))
 | .neq=>Y (.bool (!F2 a b))
 | .lss=>Y (.bool (L4 a b))
 | .leq=>Y (.bool (L4 a b||F2 a b))
 | .gtr=>Y (.bool (!(L4 a b||F2 a b)))
 | .geq=>Y (.bool (!L4 a b))
 | _=>none
def JW (op:BinOp):AV->AV->Option ϛ
 | .pv (.sc (.int k (.ofNat a))),.pv (.sc (.int d (.ofNat b)))=>bif Nat.beq (Gs k) (Gs d) then Yu k op a b else none
 | .pv (.sc (.string a)),.pv (.sc (.string b))=>Yv op a.data.toList b.data.toList
 | _,_=>none
def Yw (op:UnOp):AV->Option ϛ
 | .pv (.sc (.bool b))=>match op with
  | .not=>Y (.bool !b)
  | _=>none
 | _=>none
def Nv (P:ϟ) (t:ϝ):AV->AV->Option ϛ
 | .pv (.sc (.string b)),.pv (.sc (.int _ (.ofNat n)))=>match P.underlying t,b.data.toList[n]? with
  | some .string,Y c=>Y (.int .u8 c.toNat)
  | _,_=>none
 | _,_=>none
def Nw (P:ϟ) (t:ϝ):AV->Option ϛ
 | .pv (.sc (.string b))=>match P.underlying t with
  | some .string=>Y (.int .i64 (.ofNat b.data.toList.length))
  | _=>none
 | _=>none
def C6 (E:Env) (L:Ba) (U:Nat->AV) (s:AY) (o:ϡ):Option (AV×AY):=
 let q (r:Option AV):Option (AV×AY):=match r with|some v=>Y (v,s)|none=>none
 match o.op with
 | .move x|.assign x=>Y (A1 U x,s)
 | .pick c a b=>match A1 U c with
  | .pv (.sc (.bool t))=>Y (bif t then A1 U a else A1 U b,s)
  | _=>none
 | .alloc t=>match zeroOf E.P t with
  | some z=>Y (HY s (OS E s.bs.length t z))
  | none=>none
 | .box t x=>if (cellsOf (A1 U x)).all BS then Y (HY s (OS E s.bs.length t (cellsOf (A1 U x)))) else none
 | .build t parts=>q (TS E.P t (parts.toList.map λp=>(p.1,A1 U p.2)))
 | .buildSlice t len parts=>HN E.P L s t len (parts.toList.map λp=>(p.1,A1 U p.2))
 | .load t a=>q (TQ E s t (A1 U a))
 | .store t a x=>match Og E L s t (A1 U a) (A1 U x) with
  | some j=>Y (.tuple [],j)
  | none=>none
 | .nilCheck x=>q (LN s (A1 U x))
 | .fieldAddr t x f=>q (ID E.P s t (A1 U x) f)
 | .field t x f=>q (TT E.P t (A1 U x) f)
 | .indexAddr t x i=>q (IE E.P s t (A1 U x) (A1 U i))
 | .extract t i=>q (Mr (A1 U t) i)
 | .makeFunc k first e=>Y (.func k (first.toList.map (A1 U)) (e.toList.map (A1 U)),s)
 | .makeInterface t x=>match E.P.underlying t with
  | some (.interface _)=>none
  | some _=>Y (.iface t (A1 U x),s)
  | none=>none
 | .slice t x l m mx=>
  match Qm E.P s t (A1 U x) (l.map (A1 U)) (m.map (A1 U)) (mx.map (A1 U)) with
  | some v=>Y (v,s)
  | none=>q (DN E U o)
 | .call { callee:=.builtin .len,args:=d,argTypes:=ts }=>
  match d.toList,ts.toList with
  | [x],[t]=>match Nw E.P t (A1 U x) with
   | some v=>Y (Jo v,s)
   | none=>match E.P.underlying t,BG s (A1 U x) with
    | some (.slice _),Y n=>Y (Jo (.int .i64 n),s)
    | _,_=>q (DN E U o)
  | _,_=>none
 | .call { callee:=.builtin .append,args:=d,argTypes:=ts }=>
  match d.toList,ts.toList with
  | [x,y],t::u::_=>match E.P.underlying u with
   | some (.int _)=>none
   | some _=>JV E.P L s t (A1 U x) (A1 U y)
   | none=>none
  | _,_=>none
 | .call { callee:=.builtin .delete,.. }=>none
 | .call { callee:=.builtin _,.. }=>q (DN E U o)
 | .binOp op t x y _=>match JW op (A1 U x) (A1 U y) with
  | some v=>Y (Jo v,s)
  | none=>match JC E.P s U op t x y with
   | some v=>Y (v,s)
   | none=>q (DN E U o)
 | .convert _ _ _=>q (DN E U o)
 | .unOp op _ x=>match Yw op (A1 U x) with
  | some v=>Y (Jo v,s)
  | none=>q (DN E U o)
 | .index t x i=>match Nv E.P t (A1 U x) (A1 U i) with
  | some v=>Y (Jo v,s)
  | none=>q (DN E U o)
 | _=>none
def AEw (E:Env) (U:Nat->AV) (s:AY) (t:ϝ) (a:ϧ):Option (AV×AY):=match TQ E s t (A1 U a) with
 | some v=>Y (v,s)
 | none=>none
def au (E:Env) (U:Nat->AV) (s:AY) (t:ϝ) (x:ϧ) (f:Nat):Option (AV×AY):=match ID E.P s t (A1 U x) f with
 | some v=>Y (v,s)
 | none=>none
def zA (E:Env) (U:Nat->AV) (s:AY) (t:ϝ) (x:ϧ) (f:Nat):Option (AV×AY):=match TT E.P t (A1 U x) f with
 | some v=>Y (v,s)
 | none=>none
def av (E:Env) (U:Nat->AV) (s:AY) (t:ϝ) (x i:ϧ):Option (AV×AY):=match IE E.P s t (A1 U x) (A1 U i) with
 | some v=>Y (v,s)
 | none=>none
def oW (U:Nat->AV) (s:AY) (x:ϧ) (i:Nat):Option (AV×AY):=match Mr (A1 U x) i with
 | some v=>Y (v,s)
 | none=>none
def zB (E:Env) (U:Nat->AV) (s:AY) (t:ϝ) (parts:Array (Nat×ϧ)):Option (AV×AY):=match TS E.P t (parts.toList.map λp=>(p.1,A1 U p.2)) with
 | some v=>Y (v,s)
 | none=>none
def zC (E:Env) (L:Ba) (U:Nat->AV) (s:AY) (t:ϝ) (a x:ϧ):Option (AV×AY):=match Og E L s t (A1 U a) (A1 U x) with
 | some b=>Y (.tuple [],b)
 | none=>none
def ALe (E:Env) (U:Nat->AV) (s:AY) (o:ϡ) (op:BinOp) (t:ϝ) (x y:ϧ):Option (AV×AY):=match JW op (A1 U x) (A1 U y) with
 | some v=>Y (Jo v,s)
 | none=>match JC E.P s U op t x y with
  | some v=>Y (v,s)
  | none=>match DN E U o with
   | some v=>Y (v,s)
   | none=>none
def opF (E:Env) (L:Ba) (U:Nat->AV) (s:AY) (o:ϡ):Option (AV×AY):=match o.op with
 | .move x=>Y (A1 U x,s)
 | .assign x=>Y (A1 U x,s)
 | .load t a=>AEw E U s t a
 | .fieldAddr t x f=>au E U s t x f
 | .field t x f=>zA E U s t x f
 | .indexAddr t x i=>av E U s t x i
 | .extract x i=>oW U s x i
 | .build t parts=>zB E U s t parts
 | .store t a x=>zC E L U s t a x
 | .binOp op t x y _=>ALe E U s o op t x y
 | _=>C6 E L U s o
def rH (E:Env) (L:Ba) (U:Nat->AV) (s:AY) (o:ϡ):opF E L U s o=C6 E L U s o:=by
 obtain⟨dst,op,d,pos,b,guard⟩:=o;cases op <;> rfl
def L5 (U:Nat->AV) (c:Call):Option (ϣ×Ϭ):=
 match c.callee with
 | .value f=>match A1 U f with
  | .func (.func g) first b=>Y (g,first++c.args.toList.map (A1 U)++b)
  | _=>none
 | _=>none
inductive Out where
 | norm|exit (id:Nat)|ret
def Mt (b:Array ϡ) (o:ϡ):Option Nat:=match o.guard with
 | none=>none
 | some (j,_)=>match b[j]? with
  | some p=>p.dst
  | none=>none
def FZ (f:Array ϡ) (U:Nat->AV) (o:ϡ):Option Bool:=
 match o.guard with
 | none=>Y Z
 | some (_,e)=>match Mt f o with
  | some d=>match U d with
   | .pv (.sc (.bool b))=>Y (b==e)
   | .tuple []=>Y ϴ
   | _=>none
  | none=>Y ϴ
def LO (st:St) (d:Option Nat) (v:AV):Option St:=
 match d with
 | none=>Y st
 | some d=>bif Nat.blt d st.N then Y { st with U:=Yq st.U d v } else none
abbrev DH:=ϣ->Ϭ->AY->Option (AV×AY)
def oY (E:Env) (L:Ba) (d:DH) (U:Nat->AV) (s:AY) (o:ϡ):Option (AV×AY):=
 match o.op with
 | .call c=>match c.callee with
  | .builtin _=>C6 E L U s o
  | _=>match L5 U c with
   | some (f,b)=>d f b s
   | none=>none
 | _=>C6 E L U s o
def Oh (E:Env) (L:Ba) (d:DH) (U:Nat->AV) (s:AY) (o:ϡ):Option (AV×AY):=
 match o.op with
 | .call c=>match c.callee with
  | .builtin _=>C6 E L U s o
  | _=>match L5 U c with
   | some (f,b)=>d f b s
   | none=>none
 | _=>opF E L U s o
theorem Pa (E:Env) (L:Ba) (b:DH) (U:Nat->AV) (s:AY) (o:ϡ):Oh E L b U s o=oY E L b U s o:=by
 unfold Oh oY;simp only[rH]
def OT (E:Env) (L:Ba) (b:DH) (st:St) (o:ϡ):Option St:=
 match Oh E L b st.U st.s o with
 | some (v,s)=>LO { st with s:=s } o.dst v
 | none=>none
def Mg:ϧ->Nat->Bool
 | .tmp t,d=>Nat.beq t d
 | _,_=>ϴ
structure JX where
 t:ϝ
 x:ϧ
 y:ϧ
 d:Nat
 ix:ϧ
 p:Nat
 te:ϝ
 v:ϧ
def fused (o b e:ϡ):Option JX:=
 match o.op,o.dst,b.op,b.dst,e.op,e.dst with
 | .call { callee:=.builtin .append,args:=i,argTypes:=ts },Y d,.indexAddr j (.tmp k) f,Y p,.store l (.tmp m) v,none=>
  match i.toList,ts.toList with
  | [x,y],[t,n]=>if k=d/\m=p/\j=t/\n=t/\d≠p/\o.guard.isNone=Z/\b.guard.isNone=Z/\e.guard.isNone=Z/\Mg f d=ϴ/\Mg v d=ϴ/\Mg v p=ϴ/\Mg x d=ϴ/\Mg y d=ϴ/\Mg x p=ϴ/\Mg y p=ϴ/\Mg f p=ϴ then
    Y ⟨t,x,y,d,f,p,l,v⟩ else none
  | _,_=>none
 | _,_,_,_,_,_=>none
def LP (L:Ba) (s:AY) (elem:ϝ) (i:TypeInfo) (x:AV) (row:Ϧ):Option (AV×AY):=
 match x with
 | .AE rows=>
  if (rows.length+1)*i.bytes<=2 ^ 45/\rows.length+1<=2 ^ 45/\(rows.all λr=>r.length==i.size)=Z then
   Y (.own s.ts.length (rows++[row]),{ s with ts:=s.ts++[(rows.length+1,elem)] })
  else none
 | .own k rows=>
  if (rows.length+1)*i.bytes<=2 ^ 45/\rows.length+1<=2 ^ 45/\s.ts[k]?=Y (rows.length,elem)/\L.rt<=k/\(rows.all λr=>r.length==i.size)=Z then
   Y (.own k (rows++[row]),{ s with ts:=s.ts.set k (rows.length+1,elem) })
  else none
 | _=>none
def Jy (E:Env) (L:Ba) (U:Nat->AV) (s:AY) (k:JX):Option (AV×AY):=
 match E.P.underlying k.t with
 | some (.slice b)=>
  if L.mu b=ϴ/\k.te=b then
   match E.P.info? b,rowsOf (A1 U k.x),rowsOf (A1 U k.y),Ho (A1 U k.ix),C0 (cellsOf (A1 U k.v)) with
   | some i,Y rows,Y [z],Y n,Y d=>
    if n=rows.length/\z.length=i.size/\d.length=i.size/\(cellsOf (A1 U k.v)).all BS=Z/\(z.map AV.pv).all BS=Z/\i.size≠0/\(zeroOf E.P b).map List.length=Y i.size then
     LP L s b i (A1 U k.x) d
    else none
   | _,_,_,_,_=>none
  else none
 | _=>none
def Wr (E:Env) (L:Ba) (U:Nat->AV) (s:AY) (k:JX):Option (AV×AY):=
 match E.P.underlying k.t with
 | some (.slice b)=>
  if L.mu b=Z/\k.te=b then
   match E.P.info? b,A1 U k.x,Ho (A1 U k.ix) with
   | some i,.ref id f len sz,Y n=>match DS s i.size (A1 U k.y),s.bs[id]? with
    | some e,Y d=>
     if n=len/\e.length=i.size/\(cellsOf (A1 U k.v)).length=i.size/\(cellsOf (A1 U k.v)).all BS=Z/\e.all BS=Z/\i.size≠0/\(zeroOf E.P b).map List.length=Y i.size /\
       f=0/\sz=i.size/\len*sz<=d.length/\alive s id=Z/\(len+1)*i.bytes<=2 ^ 45/\len+1<=2 ^ 45/\L.ro<=id then
      Y (.ref s.bs.length 0 (len+1) sz,{ s with bs:=s.bs.set id []++[d.take (len*sz)++cellsOf (A1 U k.v)] })
     else none
    | _,_=>none
   | _,_,_=>none
  else none
 | _=>none
def LQ (E:Env) (L:Ba) (U:Nat->AV) (s:AY) (k:JX):Option (AV×AY):=match Jy E L U s k with
 | some r=>Y r
 | none=>Wr E L U s k
def K3 (st:St) (k:JX) (v:AV) (s:AY):Option St:=
 match LO { st with s:=s } (Y k.d) v with
 | some st=>LO st (Y k.p) .Gy
 | none=>none
def JD (E:Env) (L:Ba) (d:DH) (b:Array ϡ):List ϡ->St->Option St
 | [],st=>Y st
 | o::e,st=>
  let one:Option St:=match FZ b st.U o with
   | some Z=>match OT E L d st o with
    | some st=>JD E L d b e st
    | none=>none
   | some ϴ=>match LO st o.dst (.tuple []) with
    | some st=>JD E L d b e st
    | none=>none
   | none=>none
  match e with
  | o1::i::f=>match fused o o1 i with
   | some k=>match Jy E L st.U st.s k with
    | some (v,s)=>match K3 st k v s with
     | some st=>JD E L d b f st
     | none=>none
    | none=>one
   | none=>one
  | _=>one
def hcells (E:Env) (U:Nat->AV) (o:ϡ):Option (Ϭ×(Nat->AV)):=
 match o.op with
 | .alloc t=>match zeroOf E.P t with
  | some z=>bif E.bz t then none else Y (z,λid=>.ptr id 0)
  | none=>none
 | .makeSlice t l c=>match E.P.underlying t,A1 U l,A1 U c with
  | some (.slice b),.pv (.sc (.int .i64 l)),.pv (.sc (.int .i64 c))=>match E.P.info? b,zeroOf E.P b with
   | some i,Y z=>
    if 0<l/\l=c/\c<=2 ^ 40/\c*i.bytes<=2 ^ 45/\z.length=i.size/\i.size≠0 then Y (GC l.toNat z,λid=>.ref id 0 l.toNat i.size)
    else none
   | _,_=>none
  | _,_,_=>none
 | _=>none
def KY:AV->Option Nat
 | .ptr id _=>Y id
 | .ref id _ _ _=>Y id
 | _=>none
def ax:Int->Int->Bool
 | .ofNat a,.ofNat b=>Nat.beq a b
 | .negSucc a,.negSucc b=>Nat.beq a b
 | _,_=>ϴ
def zD:ϛ->ϛ->Bool
 | .int k n,.int e f=>Nat.beq (Gs k) (Gs e)&&ax n f
 | .bool a,.bool b=>a==b
 | .string a,.string b=>F2 a.data.toList b.data.toList
 | .pointer none,.pointer none=>Z
 | .nilFunc,.nilFunc=>Z
 | .nilIface,.nilIface=>Z
 | .map none,.map none=>Z
 | .slice none a b,.slice none c d=>Nat.beq a c&&Nat.beq b d
 | _,_=>ϴ
mutual
def OH:PV->PV->Bool
 | .sc a,.sc b=>zD a b
 | .list a,.list b=>JI a b
 | _,_=>ϴ
def Mu:Ϧ->Ϧ->Bool
 | [],[]=>Z
 | a::d,b::e=>OH a b&&Mu d e
 | _,_=>ϴ
def JI:Ϯ->Ϯ->Bool
 | [],[]=>Z
 | a::d,b::e=>Mu a b&&JI d e
 | _,_=>ϴ
end
def oZ:List MapEntry->List MapEntry->Bool
 | [],[]=>Z
 | a::d,b::e=>zD a.key b.key&&zD a.val b.val&&Nat.beq a.born b.born&&oZ d e
 | _,_=>ϴ
mutual
def D9:AV->AV->Bool
 | .pv a,.pv b=>OH a b
 | .ptr a b,.ptr c d=>Nat.beq a c&&Nat.beq b d
 | .EF a b,.EF c d=>Nat.beq a c&&Nat.beq b d
 | .DF a b,.DF c d=>Mu a c&&Nat.beq b d
 | .AE a,.AE b=>JI a b
 | .own t a,.own u b=>Nat.beq t u&&JI a b
 | .ref a b c d,.ref e i j k=>Nat.beq a e&&Nat.beq b i&&Nat.beq c j&&Nat.beq d k
 | .func (.func f) a b,.func (.func g) c d=>Nat.beq f g&&JY a c&&JY b d
 | .iface t a,.iface u b=>Nat.beq t u&&D9 a b
 | .agg a,.agg b=>JY a b
 | .tuple a,.tuple b=>JY a b
 | .Gy,.Gy=>Z
 | .Hl a,.Hl b=>Nat.beq a b
 | .PZ a c,.PZ b d=>oZ a b&&Nat.beq c d
 | .bz a t n,.bz b u m=>Nat.beq a b&&Nat.beq t u&&Nat.beq n m
 | _,_=>ϴ
def JY:Ϭ->Ϭ->Bool
 | [],[]=>Z
 | a::d,b::e=>D9 a b&&JY d e
 | _,_=>ϴ
end
def E0 (E:Env) (L:Ba) (U:Nat->AV) (s:AY) (o:ϡ):Option AV:=
 match o.op with
 | .alloc _|.box _ _|.store _ _ _|.makeMap _ _|.mapUpdate _ _ _ _|.insert _ _ _ _=>none
 | .makeSlice _ _ _=>match C6 E L U s o with
  | some (.AE [],_)=>Y (.AE [])
  | _=>none
 | .call { callee:=.builtin .delete,.. }=>none
 | .buildSlice t _ _=>match E.P.underlying t with
  | some (.slice b)=>bif y7 L b then none else match C6 E L U s o with
   | some (v,_)=>Y v
   | none=>none
  | _=>none
 | .call { callee:=.builtin .append,.. }=>none
 | _=>match C6 E L U s o with
  | some (v,_)=>Y v
  | none=>none
def Jz (E:Env) (L:Ba) (U:Nat->AV) (s:AY) (o:ϡ):Option AV:=
 match o.op with
 | .alloc _|.box _ _|.store _ _ _|.makeMap _ _|.mapUpdate _ _ _ _|.insert _ _ _ _=>none
 | .makeSlice _ _ _=>match C6 E L U s o with
  | some (.AE [],_)=>Y (.AE [])
  | _=>none
 | .call { callee:=.builtin .delete,.. }=>none
 | .buildSlice t _ _=>match E.P.underlying t with
  | some (.slice b)=>bif y7 L b then none else match C6 E L U s o with
   | some (v,_)=>Y v
   | none=>none
  | _=>none
 | .call { callee:=.builtin .append,.. }=>none
 | _=>match opF E L U s o with
  | some (v,_)=>Y v
  | none=>none
theorem LR (E:Env) (L:Ba) (U:Nat->AV) (s:AY) (o:ϡ):Jz E L U s o=E0 E L U s o:=by
 unfold Jz E0;simp only[rH]
def Fa (E:Env) (L:Ba) (b:Array ϡ) (U:Nat->AV) (s:AY) (o:ϡ):Option AV:=
 match FZ b U o with
 | some Z=>Jz E L U s o
 | some ϴ=>Y (.tuple [])
 | none=>none
def Oi (E:Env) (L:Ba) (d:DH) (b:Array ϡ) (U:Nat->AV) (s:AY) (o:ϡ):Option (AV×AY):=
 match FZ b U o with
 | some Z=>Oh E L d U s o
 | some ϴ=>Y (.tuple [],s)
 | none=>none
def J0 (E:Env) (L:Ba) (b:Array ϡ) (d:List aa):Ϟ->St->Option St
 | [],st=>Y st
 | i::e,st=>match b[i]?,d[i]? with
  | some o,Y (.q _)=>match Fa E L b st.U st.s o with
   | some v=>match LO st o.dst v with
    | some st=>J0 E L b d e st
    | none=>none
   | none=>none
  | some o,Y (.h _)=>match hcells E st.U o with
   | some (f,mk)=>match LO { st with s:={ st.s with bs:=st.s.bs++[f] } } o.dst (mk st.s.bs.length) with
    | some st=>J0 E L b d e st
    | none=>none
   | none=>none
  | _,_=>none
def Hp (E:Env) (L:Ba) (e:DH) (b:Array ϡ) (d:List aa):Ϟ->St->List AY->Option (St×List AY)
 | [],st,acc=>Y (st,acc)
 | i::f,st,acc=>match b[i]?,d[i]? with
  | some o,Y (.q _)=>match Fa E L b st.U st.s o with
   | some v=>match LO st o.dst v with
    | some st=>Hp E L e b d f st acc
    | none=>none
   | none=>none
  | some o,Y (.w _)=>match Oi E L e b st.U st.s o with
   | some (v,s)=>match LO { st with s:=s } o.dst v with
    | some st=>Hp E L e b d f st (s::acc)
    | none=>none
   | none=>none
  | some o,Y (.fa _ j x)=>match b[j]?,b[x]? with
   | some l,Y m=>match fused o l m with
    | some k=>match LQ E L st.U st.s k with
     | some (v,s)=>match K3 st k v s with
      | some st=>Hp E L e b d f st (s::acc)
      | none=>none
     | none=>none
    | none=>none
   | _,_=>none
  | some _,Y .fj=>Hp E L e b d f st acc
  | some _,Y .fx=>Hp E L e b d f st acc
  | _,_=>none
def H8 (b:List Ϟ) (i:Nat):Ϟ:=match b[i]? with
 | some l=>l
 | none=>[]
def has (l:Ϟ) (x:Nat):Bool:=l.any λy=>Nat.beq y x
def F3 (b:List Ϟ) (U0 Uf:Nat->AV) (i t:Nat):AV:=bif has (H8 b i) t then U0 t else Uf t
def fk (E:Env) (L:Ba) (b:Array ϡ) (f:List aa) (e:List Ϟ) (U0 Uf:Nat->AV) (σ:List AY):Ϫ->Bool
 | []=>Z
 | (i,k)::j=>(match b[i]?,f[i]?,σ[k]? with
  | some o,Y (.q _),Y s=>match Fa E L b (F3 e U0 Uf i) s o with
   | some v=>match o.dst with
    | some d=>D9 v (Uf d)
    | none=>Z
   | none=>ϴ
  | some o,Y (.h _),Y s=>match hcells E (F3 e U0 Uf i) o,o.dst with
   | some (m,_),Y d=>match KY (Uf d) with
    | some id=>match s.bs[id]? with
     | some l=>JY l m
     | none=>ϴ
    | none=>ϴ
   | _,_=>ϴ
  | _,_,_=>ϴ)&&fk E L b f e U0 Uf σ j
def Rp (b:Array ϡ) (p:B3) (U0 Uf:Nat->AV) (d:Nat):Ϟ->Bool
 | []=>Z
 | m::e=>(match b[m]?,p.cls[m]? with
  | some om,Y (.w _)=>match om.op with
   | .store _ y _=>match A1 (F3 p.LL U0 Uf m) y with
    | .ptr id _=>!(Nat.beq id d)
    | _=>Z
   | _=>Z
  | _,_=>Z)&&Rp b p U0 Uf d e
def Qn (E:Env) (L:Ba) (b:Array ϡ) (i j x:Nat):Bool:=match b[i]?,b[j]?,b[x]? with
 | some o,Y e,Y f=>match fused o e f with
  | some k=>match E.P.underlying k.t with
   | some (.slice d)=>L.mu d
   | _=>ϴ
  | none=>ϴ
 | _,_,_=>ϴ
def oa (E:Env) (L:Ba) (b:Array ϡ) (d:List aa):Ϟ->Bool
 | []=>Z
 | i::e=>(match d[i]? with
  | some (.fa _ j x)=>!(Qn E L b i j x)
  | _=>Z)&&oa E L b d e
def TU (E:Env) (L:Ba) (b:Array ϡ) (p:B3) (U0 Uf:Nat->AV):Ϟ->Bool
 | []=>Z
 | i::e=>(match p.cls[i]? with
  | some (.fa _ j x)=>bif Qn E L b i j x then match b[i]? with
   | some o=>match o.dst with
    | some d=>match Uf d with
     | .ref f _ _ _=>Rp b p U0 Uf f p.rest
     | _=>Z
    | none=>Z
   | none=>Z
   else Z
  | _=>Z)&&TU E L b p U0 Uf e
def Ws (E:Env) (L:Ba) (b:Array ϡ) (p:B3) (U0 Uf:Nat->AV):Bool:=oa E L b p.cls p.rest||TU E L b p U0 Uf p.rest
def Yx (E:Env) (L:Ba) (d:DH) (p:B3) (b:Array ϡ) (st0:St):Option St:=
 match J0 E L b p.cls p.first st0 with
 | some st=>match Hp E L d b p.cls p.rest st [st.s] with
  | some (st,acc)=>bif fk E L b p.cls p.LL st0.U st.U acc.reverse p.fe&&Ws E L b p st0.U st.U then Y st else none
  | none=>none
 | none=>none
def Kj (E:Env) (L:Ba) (d:DH) (b:Array ϡ) (st:St):Option B3->Option St
 | some p=>Yx E L d p b st
 | none=>none
def rI (E:Env) (L:Ba) (b:Array ϡ) (st:St) (p q:Option B3):Option B3:=match p with
 | some p=>match J0 E L b p.cls p.first st with
  | some _=>Y p
  | none=>q
 | none=>q
def Rq:Ϭ->Nat->AV
 | [],_=>.tuple []
 | v::_,0=>v
 | _::b,n+1=>Rq b n
def Nx (E:Env) (st:St):ResultVar->Option AV
 | .tmp t=>Y (st.U t)
 | .cell a t=>TQ E st.s t (st.U a)
def GI (E:Env) (st:St):List ResultVar->Option Ϭ
 | []=>Y []
 | r::b=>match Nx E st r,GI E st b with
  | some v,Y d=>Y (v::d)
  | _,_=>none
def H9:Ϭ->AV
 | [v]=>v
 | vs=>.tuple vs
def JZ:Code->Bool
 | .rangeFunc _ _ _ _=>ϴ
 | .seq a b=>JZ a&&JZ b
 | .cond _ a b=>JZ a&&JZ b
 | .block _ b=>JZ b
 | .loop b=>JZ b
 | _=>Z
def F4 (f:Nat->Ϧ->AY->Option (Out×AY)) (rows:Ϯ):Nat->AY->Option (Out×AY)
 | 0,s=>Y (.norm,s)
 | j+1,s=>match rows[j]? with
  | some b=>match f j b s with
   | some (.norm,d)=>F4 f rows j d
   | r=>r
  | none=>none
def az (P:ϟ) (el:ϝ) (row:Ϧ):Option AV:=
 if Dy P el=Y row.length/\row.length≠0 then partOf P el (row.map .pv) 0 else none
def GJ (P:ϟ) (ev:Code->St->Option (Out×St)) (a b:Code) (st:St) (p q:Nat) (el:ϝ) (j:Nat) (row:Ϧ) (s:AY):Option (Out×AY):=
 match az P el row with
 | some v=>match ev a ⟨st.N,Yq (Yq st.U p (Jo (.int .i64 j))) q v,s⟩ with
  | some (.norm,GD)=>match ev b GD with
   | some (o,qk)=>Y (o,qk.s)
   | none=>none
  | _=>none
 | none=>none
def JA (E:Env) (d:Ba->DH):Nat->Ba->Code->St->Option (Out×St)
 | 0,_,_,_=>none
 | n+1,L,c,st=>match c with
  | .skip=>Y (.norm,st)
  | .ret=>Y (.ret,st)
  | .exit id=>Y (.exit id,st)
  | .region _ e ϴ=>match JD E L (d L) e e.toList st with
   | some st=>Y (.norm,st)
   | none=>none
  | .region id e Z=>match Kj E L (d L) e st (rI E L e st (L.pl id) (L.pl (id+1000000))) with
   | some st=>Y (.norm,st)
   | none=>none
  | .seq a b=>match JA E d n L a st with
   | some (.norm,st)=>JA E d n L b st
   | r=>r
  | .cond c a b=>match A1 st.U c with
   | .pv (.sc (.bool t))=>JA E d n L (bif t then a else b) st
   | _=>none
  | .block id b=>match JA E d n L b st with
   | some (.exit j,st)=>bif Nat.beq j id then Y (.norm,st) else Y (.exit j,st)
   | r=>r
  | .loop b=>match JA E d n L b st with
   | some (.norm,st)=>JA E d n L (.loop b) st
   | r=>r
  | .rangeFunc g ps a b=>match A1 st.U g,ps.toList with
   | .func (.func k) [] [.ptr id 0],[p,q]=>match E.back k,st.s.bs[id]? with
    | some f,Y (c::_)=>match rowsOf c with
     | some rows=>bif Nat.ble L.ro id&&(JZ a&&(JZ b&&(Nat.blt p st.N&&(Nat.blt q st.N&&(!Nat.beq p q&&(Nat.ble rows.length 1000000000000000000&&(Dy E.P f).isSome)))))) then
       match F4 (GJ E.P (JA E d n L) a b st p q f) rows rows.length { st.s with bs:=st.s.bs.set id [] } with
       | some (o,i)=>Y (o,{ st with s:=i })
       | none=>none
      else none
     | none=>none
    | _,_=>none
   | _,_=>none
  | _=>none
def J1 (E:Env) (d:Ba->DH) (n:Nat) (fn:Func) (L:Ba) (args:Ϭ) (s:AY):Option (AV×AY):=
 match fn.body with
 | none=>none
 | some b=>match JA E d n L b ⟨fn.ntmps,Rq args,s⟩ with
  | some (.exit _,_)=>none
  | some (_,st)=>match GI E st fn.results.toList with
   | some e=>Y (H9 e,st.s)
   | none=>none
  | none=>none
mutual
def A6 (n:Nat):AV->Bool
 | .ptr id _|.ref id _ _ _|.Hl id|.bz id _ _=>Nat.blt id n
 | .func _ first b=>Ap n first&&Ap n b
 | .iface _ v=>A6 n v
 | .agg d=>Ap n d
 | .tuple e=>Ap n e
 | _=>Z
def Ap (n:Nat):Ϭ->Bool
 | []=>Z
 | c::b=>A6 n c&&Ap n b
end
def IG (r:Bool) (n:Nat):AV->Option (Nat×Nat×Nat×Nat)
 | .ref id b len sz=>bif r&&Nat.ble n id then Y (id,b,len,sz) else none
 | _=>none
def IA (r:Bool) (n:Nat) (v:AV) (s:AY):Option (AV×AY):=
 bif (s.bs.take n).all (Ap n) then match IG r n v with
  | some (id,d,len,sz)=>match s.bs[id]? with
   | some (c::b)=>bif Ap n (c::b) then Y (.ref n d len sz,⟨s.bs.take n++[c::b],s.ts⟩) else none
   | _=>none
  | none=>match close s.bs n s.ts.length v with
   | some v=>Y (v,⟨s.bs.take n,s.ts⟩)
   | none=>none
 else none
def JJ (E:Env) (b:Ba->DH) (n:Nat) (f:ϣ) (fn:Func) (args:Ϭ) (s:AY):Option (AV×AY):=
 match J1 E b n fn ⟨0,0,0,E.mu f,E.rr f,E.plan f⟩ args ⟨[],[]⟩ with
 | some (v,d)=>match close d.bs 0 0 v with
  | some v=>Y (v,s)
  | none=>none
 | none=>none
def Ed (E:Env) (b:Ba->DH) (n:Nat) (L:Ba) (f:ϣ) (fn:Func) (args:Ϭ) (s:AY):Option (AV×AY):=
 if args.length<=fn.ntmps then
  match E.kind f with
  | .esc=>J1 E b n fn { L with mu:=E.mu f,rr:=E.rr f,pl:=E.plan f } args s
  | .rd=>match BZ [] 0 0 args with
   | some args=>JJ E b n f fn args s
   | none=>match J1 E b n fn ⟨s.bs.length,s.bs.length,s.ts.length,E.mu f,E.rr f,E.plan f⟩ args s with
    | some (v,d)=>match close d.bs s.bs.length s.ts.length v with
     | some v=>Y (v,s)
     | none=>none
    | none=>none
  | k=>bif (match k with|.im=>Da args|_=>ϴ) then JJ E b n f fn args s else
   match J1 E b n fn ⟨0,L.ro,L.rt,E.mu f,E.rr f,E.plan f⟩ args s with
   | some (v,d)=>IA (L.rr f) s.bs.length v d
   | none=>none
 else none
def J2:Ϭ->Bool
 | [x]=>match rowsOf x with
  | some []=>Z
  | _=>ϴ
 | _=>ϴ
def Pb (E:Env) (L:Ba) (f:ϣ) (args:Ϭ) (s:AY) (r:Option (AV×AY)):Option (AV×AY):=match E.told f with
 | some T=>T L args s
 | none=>bif J2 args then Y (.AE [],s) else r
def Dk (E:Env):Nat->Ba->DH
 | 0,_,_,_,_=>none
 | n+1,L,f,b,s=>match E.P.funcs[f]? with
  | some d=>bif E.clone f then Pb E L f b s (Ed E (Dk E n) n L f d b s) else Ed E (Dk E n) n L f d b s
  | none=>none
end Go.Tel
