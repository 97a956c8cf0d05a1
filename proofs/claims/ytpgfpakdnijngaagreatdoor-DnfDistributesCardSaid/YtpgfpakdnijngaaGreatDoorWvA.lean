/-
  Arguments that are not known: what a single operation needs so that it answers as wanted.
-/
import Derived.Test.YtpgfpakdnijngaaGreatDoorEvI
set_option linter.unusedSimpArgs false
set_option linter.unusedVariables false
namespace Go.Tel
abbrev Lk:=Nat->Option AV
abbrev AD (n:Int):AV:=.pv (.sc (.int .i64 n))
abbrev BB (b:Bool):AV:=.pv (.sc (.bool b))
abbrev SS (l:List UInt8):AV:=.pv (.sc (.string ⟨l.toArray⟩))
def BC (E:Env) (L:A0) (f:FuncId) (args:List AV) (s:AK) (v:AV) (s':AK):Prop:=
 ∃ n,∀ m,n<=m->Cw E m L f args s=some (v,s')
def Ik (lk:Lk) (ρ:Nat->AV):Prop:=∀ t v,lk t=some v->ρ t=v
abbrev wO {α:Type} (x:Option α) (K:α->Prop):Prop:=match x with
 | some a=>K a
 | none=>False
theorem Ag {α:Type} {x:Option α} {K:α->Prop} (h:wO x K):∃ a,x=some a/\K a:=by
 cases x with
 | none=>exact h.elim
 | some a=>exact⟨a,rfl,h⟩
abbrev Im (lk:Lk):Operand->Option AV
 | .tmp t=>lk t
 | .const v=>some (ofConst v)
 | .global g=>some (.De g 0)
 | .func f=>some (.func (.func f) [] [])
theorem BU {lk:Lk} {ρ:Nat->AV} (hA:Ik lk ρ) {x:Operand} {v:AV} (h:Im lk x=some v):AP ρ x=v:=by
 cases x with
 | tmp t=>exact hA t v h
 | const u=>simpa[Im,AP] using h
 | global g=>simpa[Im,AP] using h
 | func f=>simpa[Im,AP] using h
abbrev gR (lk:Lk):List Operand->Option (List AV)
 | []=>some []
 | x::xs=>match Im lk x,gR lk xs with
  | some a,some as=>some (a::as)
  | _,_=>none
theorem R8 {lk:Lk} {ρ:Nat->AV} (hA:Ik lk ρ):∀ {xs:List Operand} {vs:List AV},gR lk xs=some vs->xs.map (AP ρ)=vs
 | [],vs,h=>by simpa[gR] using h
 | x::xs,vs,h=>by
  simp only[gR] at h;split at h
  ·rename_i a as h1 h2
   simp at h; subst h;simp[BU hA h1,R8 hA h2]
  ·simp at h
abbrev nD (lk:Lk) (place:Nat->Option (Nat×Nat)):List (Nat×Operand)->Option (List (Nat×Nat×AV))
 | []=>some []
 | (i,x)::xs=>match place i,Im lk x,nD lk place xs with
  | some (off,size),some a,some as=>some ((off,size,a)::as)
  | _,_,_=>none
def Ia (cells:List AV):List (Nat×Nat×AV)->Option (List AV)
 | []=>some cells
 | (off,size,v)::rest=>if (cellsOf v).length=size/\off+size<=cells.length/\(cellsOf v).all Ar=true then Ia (setCells cells off (cellsOf v)) rest else none
theorem UK {lk:Lk} {ρ:Nat->AV} (hA:Ik lk ρ) {place:Nat->Option (Nat×Nat)}:∀ {parts:List (Nat×Operand)} {ps:List (Nat×Nat×AV)} {cells:List AV},nD lk place parts=some ps ->
  Lp place cells (parts.map fun p=>(p.1,AP ρ p.2))=Ia cells ps
 | [],ps,cells,h=>by
  simp[nD] at h; subst h;rfl
 | (i,x)::parts,ps,cells,h=>by
  simp only[nD] at h;split at h
  ·rename_i off size a as h1 h2 h3
   simp at h; subst h;simp only[CI,Lp,h1,BU hA h2,Ia];split
   ·exact UK hA h3
   ·rfl
  ·simp at h
def Bi (c a b:AV) (K:AV->Prop):Prop:=match c with
 | .pv (.sc (.bool t))=>K (bif t then a else b)
 | _=>False
def CX (s:AK) (cs:List AV) (K:AV->AK->Prop):Prop:=K (.ptr s.bs.length 0) ⟨s.bs++[cs],s.ts⟩
def Cx (s:AK) (x:AV) (K:AV->AK->Prop):Prop:=(cellsOf x).all Ar=true/\CX s (cellsOf x) K
def MQ (id:Nat) (t:TypeId):List AV->List AV
 | .pv (.sc (.pointer none))::r=>.bz id t (r.length+1)::r
 | z=>z
def MP (s:AK) (t:TypeId) (x:AV) (K:AV->AK->Prop):Prop:=(cellsOf x).all Ar=true/\CX s (MQ s.bs.length t (cellsOf x)) K
def Df (z:List AV) (ps:List (Nat×Nat×AV)) (K:AV->Prop):Prop:=wO (Ia z ps) fun cs=>K (.agg cs)
def D4 (mu:Bool) (s:AK) (k:Nat) (z:List AV) (len:Nat) (ps:List (Nat×Nat×AV)) (K:AV->AK->Prop):Prop:=
 (len*k<=2 ^ 24/\z.length=k/\k≠0)/\wO (Ia (Fh len z) ps) fun cs=>
  bif mu&&Nat.blt 0 len then K (.ref s.bs.length 0 len k) ⟨s.bs++[cs],s.ts⟩ else wO (Cn cs) fun ps=>K (.AA (B6 k len ps)) s
def DN (k:Option Nat) (cs:List AV) (off:Nat) (K:AV->Prop):Prop:=match k with
 | some k=>off+k<=cs.length/\K (.agg ((cs.drop off).take k))
 | none=>wO cs[off]? K
def FA (E:Env) (s:AK) (k:Option Nat) (x:AV) (K:AV->Prop):Prop:=match x with
 | .ptr id off=>wO s.bs[id]? fun cs=>DN k cs off K
 | .De g off=>wO (E.G g) fun row=>DN k (row.map .pv) off K
 | .DK row off=>DN k (row.map .pv) off K
 | _=>False
def C2 (L:A0) (s:AK) (k:Nat) (a x:AV) (K:AK->Prop):Prop:=match a with
 | .ptr id off=>wO s.bs[id]? fun cs=>((cellsOf x).length=k/\off+(cellsOf x).length<=cs.length/\L.ro<=id/\(cellsOf x).all Ar=true/\(L.n0<=id\/HL (cellsOf x)=true)/\k≠0)/\K ⟨s.bs.set id (setCells cs off (cellsOf x)),s.ts⟩
 | _=>False
def Eo (s:AK) (x:AV) (K:AV->Prop):Prop:=match x with
 | .ptr id off=>alive s id=true/\K (.ptr id off)
 | .De g off=>K (.De g off)
 | .DK r off=>K (.DK r off)
 | .func (.func f) a b=>K (.func (.func f) a b)
 | _=>False
def Bo (s:AK) (x:AV) (d:Nat) (K:AV->Prop):Prop:=match x with
 | .ptr id off=>alive s id=true/\K (.ptr id (off+d))
 | .De g off=>K (.De g (off+d))
 | .DK r off=>K (.DK r (off+d))
 | _=>False
def AMP (k:Option Nat) (x:AV) (off:Nat) (K:AV->Prop):Prop:=match x with
 | .agg cs=>DN k cs off K
 | _=>False
def Dc (s:AK) (k:Nat) (x ix:AV) (K:AV->Prop):Prop:=match ix with
 | .pv (.sc (.int _ i))=>match x with
  | .ref id off len sz=>(0<=i/\i<len/\sz=k/\alive s id=true)/\K (.ptr id (off+i.toNat*k))
  | x=>wO (rowsOf x) fun rows=>0<=i/\∃ row,rows[i.toNat]?=some row/\row.length=k/\k≠0/\K (.DK row 0)
 | _=>False
def DF (x:AV) (i:Nat) (K:AV->Prop):Prop:=match x with
 | .tuple vs=>wO vs[i]? K
 | _=>False
def Bz (s:AK) (x:AV) (K:AV->Prop):Prop:=wO (Bk s x) fun n=>K (AD n)
def Ib (x:AV) (K:AV->Prop):Prop:=match x with
 | .pv (.sc (.string b))=>K (AD b.data.toList.length)
 | _=>False
def Sx (x i:AV) (K:AV->Prop):Prop:=match x,i with
 | .pv (.sc (.string b)),.pv (.sc (.int _ n))=>0<=n/\∃ c,b.data.toList[n.toNat]?=some c/\K (.pv (.sc (.int .u8 c.toNat)))
 | _,_=>False
def nE (k:IntKind) (n:Int) (K:AV->Prop):Prop:=K (.pv (.sc (.int k (k.wrap n))))
def Dx (k:IntKind) (op:BinOp) (x y:AV) (K:AV->Prop):Prop:=match x,y with
 | .pv (.sc (.int k1 a)),.pv (.sc (.int k2 b))=>(k1=k/\k2=k)/\match op with
  | .add=>nE k (a+b) K
  | .sub=>nE k (a-b) K
  | .mul=>nE k (a*b) K
  | .quo=>b≠0/\nE k (a.tdiv b) K
  | .rem=>b≠0/\K (.pv (.sc (.int k (a.tmod b))))
  | .eql=>K (BB (a==b))
  | .neq=>K (BB (a != b))
  | .lss=>K (BB (a<b))
  | .leq=>K (BB (a<=b))
  | .gtr=>K (BB (a>b))
  | .geq=>K (BB (a>=b))
  | .shr=>0<=b/\K (.pv (.sc (.int k (a.fdiv (2 ^ (min b.toNat k.bits))))))
  | _=>False
 | _,_=>False
def Hv (op:BinOp) (x y:AV) (K:AV->Prop):Prop:=match x,y with
 | .pv (.sc (.string a)),.pv (.sc (.string b))=>match op with
  | .add=>a.data.toList.length+b.data.toList.length<2 ^ 63/\K (.pv (.sc (.string ⟨(a.data.toList++b.data.toList).toArray⟩)))
  | .eql=>K (BB (a.data.toList==b.data.toList))
  | .neq=>K (BB (!(a.data.toList==b.data.toList)))
  | .lss=>K (BB (Op.bytesLess a.data.toList b.data.toList))
  | .leq=>K (BB (Op.bytesLess a.data.toList b.data.toList||(a.data.toList==b.data.toList)))
  | .gtr=>K (BB (!(Op.bytesLess a.data.toList b.data.toList||(a.data.toList==b.data.toList))))
  | .geq=>K (BB (!(Op.bytesLess a.data.toList b.data.toList)))
  | _=>False
 | _,_=>False
def vv (op:BinOp) (x y:AV) (K:AV->Prop):Prop:=match x,y with
 | .pv (.sc (.bool a)),.pv (.sc (.bool b))=>match op with
  | .eql=>K (BB (a==b))
  | .neq=>K (BB (!(a==b)))
  | _=>False
 | _,_=>False
def Fj (x:AV) (K:AV->Prop):Prop:=match x with
 | .pv (.sc (.bool b))=>K (BB (!b))
 | _=>False
def RP:AV->Option Nat
 | .pv (.sc (.pointer none))=>some 0
 | .pv (.sc .nilFunc)=>some 2
 | .pv (.sc .nilIface)=>some 3
 | _=>none
abbrev Qf (lk:Lk):Operand->Option Nat
 | .const v=>match v with
  | .slice none 0 0=>some 1
  | v=>RP (ofConst v)
 | .tmp t=>match lk t with
  | some v=>RP v
  | none=>none
 | _=>none
def rN (s:AK) (k:Option Nat) (n m:Option Nat) (op:BinOp) (x y:AV) (K:AV->Prop):Prop:=
 (sameKind k (D6 s x) m||sameKind k n (D6 s y))=true/\match op with
  | .eql=>K (BB false)
  | .neq=>K (BB true)
  | _=>False
def QL:AV->Bool
 | .pv (.sc (.pointer none))=>true
 | _=>false
def YI (s:AK) (n m:Option Nat) (op:BinOp) (x y:AV) (K:AV->Prop):Prop:=match QL x&&QL y with
 | true=>match op with
  | .eql=>K (BB true)
  | .neq=>K (BB false)
  | _=>False
 | false=>rN s (some 0) n m op x y K
def E1 (mu:Bool) (L:A0) (s:AK) (e:TypeId) (k bytes:Nat) (x y:AV) (K:AV->AK->Prop):Prop:=
 wO (C8 s k y) fun new=>match new with
  | []=>match x with
   | .ref id _ _ _=>alive s id=true/\K x s
   | x=>wO (rowsOf x) fun _=>K x s
  | c::cs=>((c::cs).all Ar=true)/\match x with
   | .ref id off len sz=>wO s.bs[id]? fun old=>(off=0/\sz=k/\len*sz<=old.length/\alive s id=true/\(len+(c::cs).length / k)*bytes<=2 ^ 45/\len+(c::cs).length / k<=2 ^ 45/\L.ro<=id) /\
     K (.ref s.bs.length 0 (len+(c::cs).length / k) sz) ⟨s.bs.set id []++[old.take (len*sz)++(c::cs)],s.ts⟩
   | .AA rows=>((rows.length+(c::cs).length / k)*bytes<=2 ^ 45/\rows.length+(c::cs).length / k<=2 ^ 45/\(rows.all fun r=>r.length==k)=true) /\
     bif mu then K (.ref s.bs.length 0 (rows.length+(c::cs).length / k) k) ⟨s.bs++[rows.flatten.map .pv++(c::cs)],s.ts⟩
     else wO (Cn (c::cs)) fun ps=>K (.own s.ts.length (rows++B6 k ((c::cs).length / k) ps)) ⟨s.bs,s.ts++[(rows.length+(c::cs).length / k,e)]⟩
   | .own t rows=>((rows.length+(c::cs).length / k)*bytes<=2 ^ 45/\rows.length+(c::cs).length / k<=2 ^ 45/\s.ts[t]?=some (rows.length,e)/\L.rt<=t/\(rows.all fun r=>r.length==k)=true) /\
     wO (Cn (c::cs)) fun ps=>K (.own t (rows++B6 k ((c::cs).length / k) ps)) ⟨s.bs,s.ts.set t (rows.length+(c::cs).length / k,e)⟩
   | _=>False
def AJa (L:A0) (s:AK) (e:TypeId) (k bytes:Nat) (x v:AV) (K:AV->AK->Prop):Prop:=
 (cellsOf v).all Ar=true/\wO (Cn (cellsOf v)) fun row=>row.length=k/\match x with
  | .AA rows=>((rows.length+1)*bytes<=2 ^ 45/\rows.length+1<=2 ^ 45/\(rows.all fun r=>r.length==k)=true)/\K (.own s.ts.length (rows++[row])) ⟨s.bs,s.ts++[(rows.length+1,e)]⟩
  | .own t rows=>((rows.length+1)*bytes<=2 ^ 45/\rows.length+1<=2 ^ 45/\s.ts[t]?=some (rows.length,e)/\L.rt<=t/\(rows.all fun r=>r.length==k)=true)/\K (.own t (rows++[row])) ⟨s.bs,s.ts.set t (rows.length+1,e)⟩
  | _=>False
def AMQ (s:AK) (k:Nat) (x:AV) (lo hi mx:Option AV) (K:AV->Prop):Prop:=match x with
 | .ref id off len sz=>∃ l h,Gw 0 lo=some l/\Gw len hi=some h/\match mx with
  | none=>(l<=h/\h<=len/\sz=k/\k≠0/\alive s id=true)/\K (if l=h then .pv (.list []) else .ref id (off+l*k) (h-l) sz)
  | some m=>(l=h/\h<=len/\Hg m=some h/\hi.isSome=true/\alive s id=true)/\K (.AA [])
 | x=>wO (rowsOf x) fun rows=>∃ l h,Gw 0 lo=some l/\Gw rows.length hi=some h/\(l<=h/\h<=rows.length/\(rows.all fun r=>r.length==k)=true)/\match mx with
  | none=>K (.pv (.list ((rows.take h).drop l)))
  | some m=>(Hg m=some h/\hi.isSome=true)/\K (.AA ((rows.take h).drop l))
def Mf (k:IntKind) (x:AV) (K:AV->Prop):Prop:=match x with
 | .pv (.sc (.int _ n))=>K (.pv (.sc (.int k (k.wrap n))))
 | _=>False
def vw (x:AV) (K:AV->Prop):Prop:=match x with
 | .pv (.sc (.string t))=>K (.pv (.list (t.data.toList.map fun b=>[.sc (.int .u8 b.toNat)])))
 | _=>False
def findD (d:TypeDesc) (k:Value) (es:List MapEntry):Option (Option (Nat×Value)):=match d with
 | .int i=>Instr.findNow (.int i) k es 0
 | .string=>match k with
  | .string b=>Ms b.data.toList es 0
  | _=>none
 | _=>none
def wMk (s:AK) (K:AV->AK->Prop):Prop:=K (.Fg s.bs.length) ⟨s.bs++[[.LD [] 0]],s.ts⟩
def AMR (s:AK) (d:TypeDesc) (z:AV) (m k:AV) (ok:Bool) (K:AV->Prop):Prop:=
 wO (LH s m) fun e=>wO (Gg k) fun key=>wO (findD d key e.1) fun r=>match r with
  | some (_,v)=>K (bif ok then .tuple [lB v,BB true] else lB v)
  | none=>K (bif ok then .tuple [z,BB false] else z)
def AMS (L:A0) (s:AK) (d:TypeDesc) (m k x:AV) (K:AK->Prop):Prop:=
 wO (LH s m) fun e=>wO (Gg k) fun key=>wO (iD x) fun v=>findD d key e.1=some none/\match m with
  | .Fg id=>L.ro<=id/\K ⟨s.bs.set id [.LD (e.1++[{ key:=key,val:=v,born:=e.2 }]) (e.2+1)],s.ts⟩
  | _=>False
def VC (E:Env) (L:A0) (lk:Lk) (s:AK) (o:Oper) (K:AV->AK->Prop):Prop:=
 ∃ v s',(∀ ρ,Ik lk ρ->CE E L ρ s o=some (v,s'))/\K v s'
def Fe (E:Env) (L:A0) (f:AV) (args:List AV) (s:AK) (K:AV->AK->Prop):Prop:=match f with
 | .func (.func g) first captured=>∃ v s',BC E L g (first++args++captured) s v s'/\K v s'
 | _=>False
abbrev ldK (P:Program) (t:TypeId):Option (Option Nat):=match P.underlying t,P.info? t with
 | some d,some i=>match d with
  | .struct _|.array _ _=>if i.size≠0 then some (some i.size) else none
  | _=>some none
 | _,_=>none
abbrev AAH (P:Program) (t:TypeId) (f:Nat):Option Field:=match P.underlying t with
 | some (.struct fields)=>fields[f]?
 | _=>none
abbrev v7 (P:Program) (t:TypeId):Option (Nat->Option (Nat×Nat)):=match P.underlying t with
 | some (.struct fields)=>bif fields.all (fun f=>(Dd P f.type).isSome) then some (XN P fields) else none
 | some (.array _ elem)=>match Dd P elem with
  | some k=>some fun i=>some (i*k,k)
  | none=>none
 | _=>none
abbrev Wk (P:Program) (t:TypeId):Option (TypeId×TypeInfo×List AV):=match P.underlying t with
 | some (.slice e)=>match P.info? e,zeroOf P e with
  | some i,some z=>some (e,i,z)
  | _,_=>none
 | _=>none
abbrev nG (lk:Lk):Option Operand->Option (Option AV)
 | none=>some none
 | some x=>match Im lk x with
  | some v=>some (some v)
  | none=>none
abbrev AAI (P:Program) (t:TypeId):Option (TypeDesc×Option AV):=match P.underlying t with
 | some (.map kt e)=>match P.underlying kt with
  | some d=>match P.info? e with
   | some i=>match i.zero with
    | some z=>some (d,some (ofConst z))
    | none=>some (d,none)
   | none=>some (d,none)
  | none=>none
 | _=>none
abbrev v8 (E:Env) (L:A0) (lk:Lk) (s:AK) (o:Oper) (K:AV->AK->Prop):Prop:=
 match o.op with
 | .move x=>wO (Im lk x) fun x=>K x s
 | .assign x=>wO (Im lk x) fun x=>K x s
 | .pick c a b=>wO (Im lk c) fun c=>wO (Im lk a) fun a=>wO (Im lk b) fun b=>Bi c a b fun v=>K v s
 | .alloc t=>wO (zeroOf E.P t) fun z=>CX s (NN E s.bs.length t z) K
 | .box t x=>wO (Im lk x) fun x=>match E.bz t with
  | true=>MP s t x K
  | false=>Cx s x K
 | .build t parts=>wO (zeroOf E.P t) fun z=>wO (v7 E.P t) fun pl=>wO (nD lk pl parts.toList) fun ps=>Df z ps fun v=>K v s
 | .buildSlice t len parts=>wO (Wk E.P t) fun e=>wO (nD lk (fun i=>some (i*e.2.1.size,e.2.1.size)) parts.toList) fun ps=>D4 (L.mu e.1) s e.2.1.size e.2.2 len ps K
 | .load t a=>wO (Im lk a) fun a=>wO (ldK E.P t) fun k=>FA E s k a fun v=>K v s
 | .store t a x=>wO (Im lk a) fun a=>wO (Im lk x) fun x=>wO (Dd E.P t) fun k=>C2 L s k a x fun s=>K (.tuple []) s
 | .nilCheck x=>wO (Im lk x) fun x=>Eo s x fun v=>K v s
 | .fieldAddr t x f=>wO (Im lk x) fun x=>wO (AAH E.P t f) fun f=>wO (Dd E.P f.type) fun k=>match k with
  | 0=>False
  | _+1=>Bo s x f.offset fun v=>K v s
 | .field t x f=>wO (Im lk x) fun x=>wO (AAH E.P t f) fun f=>wO (ldK E.P f.type) fun k=>AMP k x f.offset fun v=>K v s
 | .indexAddr t x i=>wO (Im lk x) fun x=>wO (Im lk i) fun i=>match E.P.underlying t with
  | some (.slice e)=>wO (Dd E.P e) fun k=>Dc s k x i fun v=>K v s
  | _=>VC E L lk s o K
 | .extract x i=>wO (Im lk x) fun x=>DF x i fun v=>K v s
 | .makeFunc fn first captured=>wO (gR lk first.toList) fun a=>wO (gR lk captured.toList) fun b=>K (.func fn a b) s
 | .makeInterface t x=>wO (Im lk x) fun x=>match E.P.underlying t with
  | some (.interface _)=>False
  | some _=>K (.iface t x) s
  | none=>False
 | .slice t x lo hi mx=>match E.P.underlying t with
  | some (.slice e)=>wO (Dd E.P e) fun k=>wO (Im lk x) fun x=>wO (nG lk lo) fun lo=>wO (nG lk hi) fun hi=>wO (nG lk mx) fun mx=>AMQ s k x lo hi mx fun v=>K v s
  | _=>VC E L lk s o K
 | .call { callee:=.builtin .len,args:=args,argTypes:=ts }=>match args.toList,ts.toList with
  | [x],[t]=>wO (Im lk x) fun x=>match E.P.underlying t with
   | some .string=>Ib x fun v=>K v s
   | some (.slice _)=>Bz s x fun v=>K v s
   | _=>VC E L lk s o K
  | _,_=>False
 | .call { callee:=.builtin .append,args:=args,argTypes:=ts }=>match args.toList,ts.toList with
  | [x,y],t::u::_=>match E.P.underlying u with
   | some (.int _)=>False
   | some _=>wO (Im lk x) fun x=>wO (Im lk y) fun y=>wO (Wk E.P t) fun e=>(e.2.2.length=e.2.1.size/\e.2.1.size≠0)/\E1 (L.mu e.1) L s e.1 e.2.1.size e.2.1.bytes x y K
   | none=>False
  | _,_=>False
 | .binOp op t x y _=>wO (Im lk x) fun a=>wO (Im lk y) fun b=>match E.P.underlying t with
  | some (.int k)=>Dx k op a b fun v=>K v s
  | some .string=>Hv op a b fun v=>K v s
  | some .bool=>vv op a b fun v=>K v s
  | some (.interface _)=>VC E L lk s o K
  | some (.pointer _)=>YI s (Qf lk x) (Qf lk y) op a b fun v=>K v s
  | _=>rN s (C9 E.P t) (Qf lk x) (Qf lk y) op a b fun v=>K v s
 | .makeMap _ none=>wMk s K
 | .lookup t m k ok=>wO (AAI E.P t) fun d=>wO d.2 fun z=>wO (Im lk m) fun m=>wO (Im lk k) fun k=>AMR s d.1 z m k ok fun v=>K v s
 | .insert t m k x=>wO (AAI E.P t) fun d=>wO (Im lk m) fun m=>wO (Im lk k) fun k=>wO (Im lk x) fun x=>AMS L s d.1 m k x fun s=>K (.tuple []) s
 | .unOp op _ x=>match op with
  | .not=>wO (Im lk x) fun x=>Fj x fun v=>K v s
  | _=>VC E L lk s o K
 | .index t x i=>match E.P.underlying t with
  | some .string=>wO (Im lk x) fun x=>wO (Im lk i) fun i=>Sx x i fun v=>K v s
  | _=>VC E L lk s o K
 | .convert a b x=>match E.P.underlying a,E.P.underlying b with
  | some (.int _),some (.int k)=>wO (Im lk x) fun x=>Mf k x fun v=>K v s
  | some .string,some (.slice e)=>match E.P.underlying e with
   | some (.int .u8)=>wO (Im lk x) fun x=>vw x fun v=>K v s
   | _=>False
  | some (.slice e),some .string=>match E.P.underlying e with
   | some (.int .u8)=>wO (Im lk x) fun x=>wO (LG s x) fun l=>K (.pv (.sc (.string ⟨l.toArray⟩))) s
   | _=>False
  | _,_=>VC E L lk s o K
 | _=>VC E L lk s o K
theorem R9 {P:Program} {t:TypeId} {k:Option Nat} {cs:List AV} {off:Nat} {K:AV->Prop} (hk:ldK P t=some k) (h:DN k cs off K):∃ v,partOf P t cs off=some v/\K v:=by
 unfold ldK at hk;unfold partOf;split at hk
 ·rename_i d i hd hi
  rw[hd,hi];simp only
  have Ai:∀ k',(if i.size≠0 then some (some i.size) else none)=some k'->DN k' cs off K->∃ v,(if off+i.size<=cs.length/\i.size≠0 then some (AV.agg ((cs.drop off).take i.size)) else none)=some v/\K v:=by
   intro k' hk' hw
   by_cases hz:i.size≠0
   ·rw[if_pos hz] at hk'
    simp at hk'; subst hk';obtain⟨h1,h2⟩:=hw;exact⟨_,if_pos ⟨h1,hz⟩,h2⟩
   ·rw[if_neg hz] at hk'
    simp at hk'
  have one:∀ k',some none=some k'->DN k' cs off K->∃ v,cs[off]?=some v/\K v:=by
   intro k' hk' hw;simp at hk'; subst hk';exact Ag hw
  cases d <;> first|exact Ai _ hk h|exact one _ hk h
 ·simp at hk
theorem ADH {E:Env} {s:AK} {t:TypeId} {k:Option Nat} {x:AV} {K:AV->Prop} (hk:ldK E.P t=some k) (h:FA E s k x K):∃ v,NM E s t x=some v/\K v:=by
 unfold FA at h;split at h
 ·obtain⟨cs,h1,h2⟩:=Ag h
  simp only[NM,Qh,h1];exact R9 hk h2
 ·obtain⟨cs,h1,h2⟩:=Ag h
  simp only[NM,h1];exact R9 hk h2
 ·simp only[NM]
  exact R9 hk h
 ·exact h.elim
theorem Cb {P:Program} {α β:Type} {x:Sem α} {f:α->Sem β} {a:α} {b:β} (h:quick P x=some a) (k:quick P (f a)=some b):quick P (x >>= f)=some b:=by
 induction x with
 | pure a'=>simp only[quick,AY] at h; subst h; exact k
 | program g ih=>exact ih _ h
 | mark _ g ih=>exact ih h
 | _=>simp[quick] at h
theorem JO {P:Program} {t:TypeId} {d:TypeDesc} (h:P.underlying t=some d):quick P (underlying t)=some d:=by
 unfold underlying;refine Cb (a:=P) rfl ?_;rw[h];rfl
theorem gS {E:Env} {L:A0} {ρ:Nat->AV} {s:AK} {o:Oper} {op:BinOp} {t:TypeId} {x y:Operand} {c:TypeId} {xv yv v:Value} (ho:o.op=.binOp op t x y c) (hx:AP ρ x=.pv (.sc xv)) (hy:AP ρ y=.pv (.sc yv))
  (hk:C9 E.P t=none) (hg:∀ a b,quick E.P (eqGuard op t a b xv yv)=some ()) (hq:quick E.P (binOp op t xv yv)=some v) (hv:L5 v=.pv (.sc v)):CE E L ρ s o=some (.pv (.sc v),s):=by
 obtain⟨dst,op',type,pos,after,guard⟩:=o;simp only at ho;subst ho;simp only[CE];cases hf:I6 op (AP ρ x) (AP ρ y) with
 | some u=>
  have h1:=(Nb (P:=E.P) (g:=AH.bare fun _ _=>False) (w:=default) (t:=t) (by rw[hx]; exact V.IW xv) (by rw[hy]; exact V.IW yv) hf).1;have h2:=VH E.P _ _ hq default;rw[h1] at h2;simp only[Result.ok.injEq,IK] at h2;rw[h2]
 | none=>
  have hn:Hh E.P s ρ op t x y=none:=by
   simp[Hh,hk,sameKind]
  simp only[hn]
  have hq':Ct E ρ ⟨dst,.binOp op t x y c,type,pos,after,guard⟩=some (.pv (.sc v)):=by
   unfold Ct
   have hall:E4 ρ (Op.operands (.binOp op t x y c)).toList=true:=by
    simp[E4,Op.operands,hx,hy,Gg]
   rw[if_pos hall]
   have:quick E.P (execOp (fun z=>(Gg (AP ρ z)).getD undef) ⟨dst,.binOp op t x y c,type,pos,after,guard⟩)=some (.value v):=by
    simp only[execOp,hx,hy,Gg,I2];exact Cb (Cb (hg x y) hq) rfl
   rw[this];simp[hv]
  rw[hq']
theorem nH {P:Program} {op:BinOp} {t:TypeId} {a b:Operand} {k1 k2:IntKind} {m n:Int}:quick P (eqGuard op t a b (.int k1 m) (.int k2 n))=some ():=by
 unfold eqGuard;split <;> rfl
theorem nI {P:Program} {op:BinOp} {t:TypeId} {a b:Operand} {m n:ByteArray}:quick P (eqGuard op t a b (.string m) (.string n))=some ():=by
 unfold eqGuard;split <;> rfl
theorem gT {P:Program} {op:BinOp} {t:TypeId} {a b:Operand} {m n:Bool}:quick P (eqGuard op t a b (.bool m) (.bool n))=some ():=by
 unfold eqGuard;split <;> rfl
theorem AGd {E:Env} {L:A0} {ρ:Nat->AV} {s:AK} {o:Oper} {op:BinOp} {t:TypeId} {x y:Operand} {c:TypeId} {k:IntKind} {K:AV->Prop} (ho:o.op=.binOp op t x y c) (ht:E.P.underlying t=some (.int k))
  (h:Dx k op (AP ρ x) (AP ρ y) K):∃ v,CE E L ρ s o=some (v,s)/\K v:=by
 unfold Dx at h;split at h
 ·rename_i k1 a k2 b hx hy
  obtain⟨⟨e1,e2⟩,h⟩:=h;subst e1;subst e2;have hk:C9 E.P t=none:=by simp[C9,ht]
  have go:∀ v,quick E.P (binOp op t (.int k2 a) (.int k2 b))=some v->L5 v=.pv (.sc v)->K (.pv (.sc v))->∃ v,CE E L ρ s o=some (v,s)/\K v:=fun v h1 h2 h3=>
   ⟨_,gS ho hx hy hk (fun _ _=>nH) h1 h2,h3⟩
  cases op <;> first
   | exact h.elim
   | exact go _ (by simp[binOp,Op.intArith]; rfl) rfl h
   | exact go _ (by simp[binOp,Op.intCmp]; rfl) rfl h
   | exact go _ (by simp[binOp,Op.intDiv,h.1]; rfl) rfl h.2
   | exact go _ (by simp[binOp,Op.shift,Int.not_lt.2 h.1]; rfl) rfl h.2
 ·exact h.elim
theorem AGe {E:Env} {L:A0} {ρ:Nat->AV} {s:AK} {o:Oper} {op:BinOp} {t:TypeId} {x y:Operand} {c:TypeId} {K:AV->Prop} (ho:o.op=.binOp op t x y c) (ht:E.P.underlying t=some .string)
  (h:Hv op (AP ρ x) (AP ρ y) K):∃ v,CE E L ρ s o=some (v,s)/\K v:=by
 unfold Hv at h;split at h
 ·rename_i a b hx hy
  have hk:C9 E.P t=none:=by simp[C9,ht]
  have go:∀ v,quick E.P (Op.stringOp op a b)=some v->L5 v=.pv (.sc v)->K (.pv (.sc v))->∃ v,CE E L ρ s o=some (v,s)/\K v:=fun v h1 h2 h3=>
   ⟨_,gS ho hx hy hk (fun _ _=>nI) (by simpa[binOp] using h1) h2,h3⟩
  cases op <;> first
   | exact h.elim
   | exact go _ (by simp only[Op.stringOp,Go.ByteArray.toList_eq]; rfl) rfl h
   | skip
  obtain⟨h1,h2⟩:=h
  have e:(a++b)=(⟨(a.data.toList++b.data.toList).toArray⟩:ByteArray):=by
   apply ByteArray.ext;simp[ByteArray.data_append]
  refine go (.string (a++b)) ?_ rfl (by rw[e]; exact h2)
  have hl:¬ ((a.size+b.size:Nat):Int)>IntKind.i64.max:=by
   have h3:a.size=a.data.toList.length:=(DS (xs:=a.data)).symm;have h4:b.size=b.data.toList.length:=(DS (xs:=b.data)).symm;have h5:IntKind.i64.max=9223372036854775807:=by rfl
   rw[h5,h3,h4];omega
  simp only[Op.stringOp,if_neg hl];rfl
 ·exact h.elim
theorem AAJ {E:Env} {L:A0} {ρ:Nat->AV} {s:AK} {o:Oper} {op:BinOp} {t:TypeId} {x y:Operand} {c:TypeId} {K:AV->Prop} (ho:o.op=.binOp op t x y c) (ht:E.P.underlying t=some .bool)
  (h:vv op (AP ρ x) (AP ρ y) K):∃ v,CE E L ρ s o=some (v,s)/\K v:=by
 unfold vv at h;split at h
 ·rename_i a b hx hy
  have hk:C9 E.P t=none:=by simp[C9,ht]
  have hq:quick E.P (Op.equal t (.bool a) (.bool b))=some (a==b):=by
   unfold Op.equal;obtain⟨m,hm⟩:∃ m,Op.maxDepth=m+1:=⟨9999,rfl⟩;rw[hm];unfold Op.equalIn;have hu:quick E.P (underlying t)=some .bool:=JO ht;exact Cb hu rfl
  have go:∀ v,quick E.P (binOp op t (.bool a) (.bool b))=some v->L5 v=.pv (.sc v)->K (.pv (.sc v))->∃ v,CE E L ρ s o=some (v,s)/\K v:=fun v h1 h2 h3=>
   ⟨_,gS ho hx hy hk (fun _ _=>gT) h1 h2,h3⟩
  cases op <;> first
   | exact h.elim
   | exact go _ (Cb hq rfl) rfl h
 ·exact h.elim
theorem Wl {ρ:Nat->AV} {x:Operand} {k:Nat} (hx:∀ a b c,x≠.const (.slice a b c)) (h:RP (AP ρ x)=some k):Fw ρ x=some k:=by
 unfold RP at h;unfold Fw;split
 ·exact absurd rfl (hx _ _ _)
 ·split at h
  ·rename_i e; rw[e]; exact h
  ·rename_i e; rw[e]; exact h
  ·rename_i e; rw[e]; exact h
  ·simp at h
theorem gU {a:Option Addr} {b c:Nat}:RP (ofConst (.slice a b c))=none:=by
 show RP (HZ (.slice a b c))=none
 unfold HZ;split
 ·rfl
 ·rfl
theorem ko {lk:Lk} {ρ:Nat->AV} (hA:Ik lk ρ) {x:Operand} {k:Nat} (h:Qf lk x=some k):Fw ρ x=some k:=by
 cases x with
 | const v=>
  by_cases hz:v=.slice none 0 0
  ·subst hz
   exact h
  ·have h:RP (ofConst v)=some k:=by
    simp only[Qf] at h;exact h
   by_cases hs:∃ a b c,v=.slice a b c
   ·obtain⟨a,b,c,rfl⟩:=hs
    rw[gU] at h;simp at h
   ·exact Wl (fun a b c e=>hs ⟨a,b,c,by simpa using e⟩) h
 | tmp t=>
  simp only[Qf] at h;split at h
  ·rename_i v hv
   refine Wl (fun _ _ _=>by simp) ?_;rw[BU (x:=.tmp t) hA hv];exact h
  ·simp at h
 | global g=>simp[Qf] at h
 | func f=>simp[Qf] at h
theorem wA {E:Env} {L:A0} {lk:Lk} {ρ:Nat->AV} (hA:Ik lk ρ) {s:AK} {o:Oper} {op:BinOp} {t:TypeId} {x y:Operand} {c:TypeId} {K:AV->Prop} (ho:o.op=.binOp op t x y c)
  (h:rN s (C9 E.P t) (Qf lk x) (Qf lk y) op (AP ρ x) (AP ρ y) K):∃ v,CE E L ρ s o=some (v,s)/\K v:=by
 obtain⟨dst,op',type,pos,after,guard⟩:=o;simp only at ho;subst ho;obtain⟨h1,h2⟩:=h
 have hs:(sameKind (C9 E.P t) (D6 s (AP ρ x)) (Fw ρ y)||sameKind (C9 E.P t) (Fw ρ x) (D6 s (AP ρ y)))=true:=by
  simp only[DJ] at h1 ⊢;rcases h1 with h1|h1
  ·left
   obtain⟨k,e1,e2,e3⟩:=E9 h1;rw[ko hA e3,e1,e2];simp[sameKind]
  ·right
   obtain⟨k,e1,e2,e3⟩:=E9 h1;rw[ko hA e2,e1,e3];simp[sameKind]
 have hf:I6 op (AP ρ x) (AP ρ y)=none:=by
  simp only[DJ] at hs;rcases hs with hs|hs
  ·obtain⟨k,e1,e2,e3⟩:=E9 hs
   cases hx:AP ρ x <;> simp[hx,D6,rowsOf] at e2 ⊢ <;> try rfl
   rename_i p;cases p with
   | sc v=>simp[rowsOf] at e2
   | list rows=>rfl
  ·obtain⟨k,e1,e2,e3⟩:=E9 hs
   cases hy:AP ρ y <;> simp[hy,D6,rowsOf] at e3
   all_goals
    unfold I6;split <;> simp_all
 simp only[CE,hf,Hh,hs,AE];cases op <;> simp only at h2 ⊢ <;> first|exact h2.elim|exact⟨_,rfl,h2⟩
theorem Wm {v:AV} (h:QL v=true):v=.pv (.sc (.pointer none)):=by
 unfold QL at h;split at h
 ·rfl
 ·simp at h
theorem gW {P:Program} {t e:TypeId} {x y:Operand} (ht:P.underlying t=some (.pointer e)) :
  quick P (do eqGuard .eql t x y (.pointer none) (.pointer none); binOp .eql t (.pointer none) (.pointer none))=some (.bool true)/\quick P (do eqGuard .neq t x y (.pointer none) (.pointer none); binOp .neq t (.pointer none) (.pointer none))=some (.bool false):=by
 have he:quick P (Op.equal t (.pointer none) (.pointer none))=some true:=by
  show quick P (Op.equalIn (9999+1) t (.pointer none) (.pointer none))=some true
  unfold Op.equalIn;exact Cb (JO ht) rfl
 constructor
 ·refine Cb (a:=()) rfl ?_
  exact Cb he rfl
 ·refine Cb (a:=()) rfl ?_
  exact Cb he rfl
theorem AGf {E:Env} {L:A0} {lk:Lk} {ρ:Nat->AV} (hA:Ik lk ρ) {s:AK} {o:Oper} {op:BinOp} {t e:TypeId} {x y:Operand} {c:TypeId} {K:AV->Prop} (ho:o.op=.binOp op t x y c) (ht:E.P.underlying t=some (.pointer e))
  (h:YI s (Qf lk x) (Qf lk y) op (AP ρ x) (AP ρ y) K):∃ v,CE E L ρ s o=some (v,s)/\K v:=by
 unfold YI at h;split at h
 ·rename_i hb
  simp only[AG] at hb;have hx:=Wm hb.1;have hy:=Wm hb.2;obtain⟨q1,q2⟩:=gW (x:=x) (y:=y) ht;have hf:I6 op (AP ρ x) (AP ρ y)=none:=by rw[hx,hy]; rfl
  have hn:Hh E.P s ρ op t x y=none:=by
   unfold Hh;simp[hx,hy,D6,sameKind,rowsOf]
  have h1:E4 ρ o.op.operands.toList=true:=by
   have e:o.op.operands.toList=[x,y]:=by rw[ho]; rfl
   rw[e];simp[E4,hx,hy,Gg]
  have key:∀ (v:Bool),quick E.P (do eqGuard op t x y (.pointer none) (.pointer none); binOp op t (.pointer none) (.pointer none))=some (.bool v)->CE E L ρ s o=some (.pv (.sc (.bool v)),s):=by
   intro v hq
   have h2:Ct E ρ o=some (.pv (.sc (.bool v))):=by
    have:quick E.P (execOp (fun z=>(Gg (AP ρ z)).getD undef) o)=some (.value (.bool v)):=by
     unfold execOp;rw[ho];simp only[hx,hy,Gg,I2];exact Cb hq rfl
    simp only[Ct,h1,Dr,this];rfl
   unfold CE;rw[ho];simp only[hf,hn,h2]
  cases op <;> simp only at h <;> first|exact h.elim|exact⟨_,key _ q1,h⟩|exact⟨_,key _ q2,h⟩
 ·have hk:C9 E.P t=some 0:=by
   unfold C9;rw[ht]
  rw[<-hk] at h;exact wA hA ho h
theorem AGg {P:Program} {t:TypeId} {z:List AV} (h:zeroOf P t=some z):∃ i,P.info? t=some i:=by
 unfold zeroOf at h;split at h
 ·rename_i i hi
  exact⟨i,hi⟩
 ·simp at h
theorem Qg {P:Program} {t:TypeId} {e:TypeId×TypeInfo×List AV} (h:Wk P t=some e):P.underlying t=some (.slice e.1)/\P.info? e.1=some e.2.1/\zeroOf P e.1=some e.2.2:=by
 unfold Wk at h;split at h
 ·rename_i x hx
  split at h
  ·rename_i i z hi hz
   simp at h; subst h;exact⟨hx,hi,hz⟩
  ·simp at h
 ·simp at h
theorem Yv {lk:Lk} {ρ:Nat->AV} (hA:Ik lk ρ) {x:Option Operand} {v:Option AV} (h:nG lk x=some v):x.map (AP ρ)=v:=by
 cases x with
 | none=>simpa[nG] using h
 | some x=>
  simp only[nG] at h;split at h
  ·rename_i u hu
   simp at h; subst h;simp[BU hA hu]
  ·simp at h
theorem AGh {P:Program} {s:AK} {t e:TypeId} {k:Nat} {x:AV} {lo hi mx:Option AV} {K:AV->Prop} (ht:P.underlying t=some (.slice e)) (hk:Dd P e=some k):AMQ s k x lo hi mx K ->
  ∃ v,Nj P s t x lo hi mx=some v/\K v:=by
 unfold Nj;simp only[ht,hk];intro h;cases x with
 | ref id off len sz=>
  obtain⟨l,h',h1,h2,h3⟩:=h;simp only[h1,h2];cases mx with
  | none=>
   obtain⟨h4,h5⟩:=h3;simp only[if_pos h4];split
   ·rename_i e1; rw[if_pos e1] at h5; exact⟨_,rfl,h5⟩
   ·rename_i e1; rw[if_neg e1] at h5; exact⟨_,rfl,h5⟩
  | some m=>
   obtain⟨⟨h4,h5,h6,h7,h8⟩,h9⟩:=h3;simp only[h6];rw[if_pos ⟨h4,h5,Al,h7,h8⟩];exact⟨_,rfl,h9⟩
 | pv p=>
  obtain⟨rows,hr,h⟩:=Ag h;obtain⟨l,h',h1,h2,h3,h4⟩:=h;simp only[hr,h1,h2,if_pos h3];cases mx with
  | none=>exact⟨_,rfl,h4⟩
  | some m=>simp only[h4.1.1]; exact⟨_,if_pos ⟨Al,h4.1.2⟩,h4.2⟩
 | AA p=>
  obtain⟨l,h',h1,h2,h3,h4⟩:=h;simp only[rowsOf,h1,h2,if_pos h3];cases mx with
  | none=>exact⟨_,rfl,h4⟩
  | some m=>simp only[h4.1.1]; exact⟨_,if_pos ⟨Al,h4.1.2⟩,h4.2⟩
 | own t p=>
  obtain⟨l,h',h1,h2,h3,h4⟩:=h;simp only[rowsOf,h1,h2,if_pos h3];cases mx with
  | none=>exact⟨_,rfl,h4⟩
  | some m=>simp only[h4.1.1]; exact⟨_,if_pos ⟨Al,h4.1.2⟩,h4.2⟩
 | _=>exact h.elim
theorem AGi {P:Program} {L:A0} {s:AK} {t:TypeId} {e:TypeId×TypeInfo×List AV} {x y:AV} {K:AV->AK->Prop} (he:Wk P t=some e) (hz:e.2.2.length=e.2.1.size/\e.2.1.size≠0)
  (h:E1 (L.mu e.1) L s e.1 e.2.1.size e.2.1.bytes x y K):∃ v s',I5 P L s t x y=some (v,s')/\K v s':=by
 obtain⟨e1,e2,e3⟩:=Qg he;unfold I5;simp only[e1,e2,e3,Jw];rw[if_pos ⟨by rw[hz.1],hz.2⟩];obtain⟨new,h1,h⟩:=Ag h;simp only[h1];cases new with
 | nil=>
  simp only at h ⊢;cases x with
  | ref id off len sz=>
   obtain⟨h2,h3⟩:=h;simp only[h2,AE];exact⟨_,_,rfl,h3⟩
  | pv p=>
   obtain⟨r,h2,h3⟩:=Ag h;simp only[h2];exact⟨_,_,rfl,h3⟩
  | AA r=>exact⟨_,_,rfl,h⟩
  | own t r=>exact⟨_,_,rfl,h⟩
  | _=>exact h.elim
 | cons c cs=>
  obtain⟨h2,h⟩:=h;simp only[if_pos h2];cases x with
  | ref id off len sz=>
   obtain⟨old,h3,h4,h5⟩:=Ag h;simp only[h3];exact⟨_,_,if_pos h4,h5⟩
  | AA rows=>
   obtain⟨h3,h4⟩:=h;simp only[if_pos h3];cases hm:L.mu e.1 with
   | true=>rw[hm] at h4; exact⟨_,_,rfl,h4⟩
   | false=>
    rw[hm] at h4;obtain⟨ps,h5,h6⟩:=Ag h4;simp only[AB,h5];exact⟨_,_,rfl,h6⟩
  | own k rows=>
   obtain⟨h3,h4⟩:=h;obtain⟨ps,h5,h6⟩:=Ag h4;simp only[if_pos h3,h5];exact⟨_,_,rfl,h6⟩
  | _=>exact h.elim
theorem Jp {E:Env} {L:A0} {lk:Lk} {ρ:Nat->AV} {s:AK} {o:Oper} {K:AV->AK->Prop} (hA:Ik lk ρ) (h:VC E L lk s o K):∃ v s',CE E L ρ s o=some (v,s')/\K v s':=by
 obtain⟨v,s',h1,h2⟩:=h;exact⟨v,s',h1 ρ hA,h2⟩
theorem AAK {P:Program} {a b:TypeId} {k k1 k2:IntKind} {n:Int} (ha:P.underlying a=some (.int k1)) (hb:P.underlying b=some (.int k)):quick P (convert a b (.int k2 n))=some (.int k (k.wrap n)):=by
 unfold convert;have h1:quick P (underlying a)=some (.int k1):=JO ha;have h2:quick P (underlying b)=some (.int k):=JO hb;exact Cb h1 (Cb h2 rfl)
theorem UL {P:Program} {kt:TypeId} {d:TypeDesc} {key:Value} {es:List MapEntry} {r:Option (Nat×Value)} (hd:P.underlying kt=some d) (h:findD d key es=some r):SG P kt key es=some r:=by
 unfold findD at h;unfold SG;rw[hd];split at h
 ·exact h
 ·exact h
 ·simp at h
theorem cV {P:Program} {t:TypeId} {d:TypeDesc×Option AV} (h:AAI P t=some d):∃ kt e,P.underlying t=some (.map kt e)/\P.underlying kt=some d.1/\∀ z,d.2=some z->∃ i v,P.info? e=some i/\i.zero=some v/\z=ofConst v:=by
 unfold AAI at h;split at h
 ·rename_i kt e ht
  split at h
  ·rename_i d' hd
   refine⟨kt,e,ht,?_⟩;split at h
   ·rename_i i hi
    split at h
    ·rename_i z hz
     simp at h; subst h;exact⟨hd,fun z' e=>⟨i,z,hi,hz,by simpa using e.symm⟩⟩
    ·simp at h; subst h
     exact⟨hd,fun z' e=>by simp at e⟩
   ·simp at h; subst h
    exact⟨hd,fun z' e=>by simp at e⟩
  ·simp at h
 ·simp at h
theorem Wn {E:Env} {L:A0} {lk:Lk} {ρ:Nat->AV} {s:AK} {o:Oper} {K:AV->AK->Prop} (hA:Ik lk ρ) (h:v8 E L lk s o K):∃ v s',CE E L ρ s o=some (v,s')/\K v s':=by
 obtain⟨dst,op,type,pos,after,guard⟩:=o;cases op with
 | move x=>
  obtain⟨a,h1,h2⟩:=Ag h;exact⟨a,s,by simp[CE,BU hA h1],h2⟩
 | assign x=>
  obtain⟨a,h1,h2⟩:=Ag h;exact⟨a,s,by simp[CE,BU hA h1],h2⟩
 | pick c a b=>
  obtain⟨cv,h1,h⟩:=Ag h;obtain⟨av,h2,h⟩:=Ag h;obtain⟨bv,h3,h⟩:=Ag h;unfold Bi at h;split at h
  ·rename_i t
   exact⟨_,s,by simp[CE,BU hA h1,BU hA h2,BU hA h3],h⟩
  ·exact h.elim
 | alloc t=>
  obtain⟨z,h1,h2⟩:=Ag h;exact⟨_,_,by simp only[CE,h1]; rfl,h2⟩
 | box t x=>
  obtain⟨a,h1,h⟩:=Ag h;cases hb:E.bz t with
  | true=>
   rw[hb] at h;obtain⟨h2,h3⟩:=h;exact⟨_,_,by simp only[CE,BU hA h1,if_pos h2,NN,hb,AE]; rfl,h3⟩
  | false=>
   rw[hb] at h;obtain⟨h2,h3⟩:=h;exact⟨_,_,by simp only[CE,BU hA h1,if_pos h2,NN,hb,AB]; rfl,h3⟩
 | build t parts=>
  obtain⟨z,h1,h⟩:=Ag h;obtain⟨pl,h2,h⟩:=Ag h;obtain⟨ps,h3,h⟩:=Ag h;obtain⟨cs,h4,h5⟩:=Ag h;refine⟨.agg cs,s,?_,h5⟩;have hf:=UK hA (cells:=z) h3;rw[h4] at hf
  have:Pd E.P t (parts.toList.map fun p=>(p.1,AP ρ p.2))=some (.agg cs):=by
   unfold Pd;rw[h1];unfold v7 at h2;split at h2
   ·rename_i fields hu
    cases hb:fields.all (fun f=>(Dd E.P f.type).isSome) with
    | false=>rw[hb] at h2; simp at h2
    | true=>
     rw[hb] at h2;simp at h2; subst h2;simp only[hu,hf,hb,Dr]
   ·rename_i n elem hu
    split at h2
    ·rename_i k hk
     simp at h2; subst h2;simp only[hu,hk,hf]
    ·simp at h2
   ·simp at h2
  simp only[CE,this]
 | buildSlice t len parts=>
  obtain⟨e,h1,h⟩:=Ag h;obtain⟨ps,h2,hz,h⟩:=Ag h;obtain⟨cs,h3,h⟩:=Ag h;obtain⟨e1,e2,e3⟩:=Qg h1;have hf:=UK hA (cells:=Fh len e.2.2) h2;rw[h3] at hf
  have:∀ v s',(bif L.mu e.1&&Nat.blt 0 len then some (AV.ref s.bs.length 0 len e.2.1.size,{ s with bs:=s.bs++[cs] })
     else match Cn cs with
     | some ps=>some (.AA (B6 e.2.1.size len ps),s)
     | none=>none)=some (v,s')->CE E L ρ s ⟨dst,.buildSlice t len parts,type,pos,after,guard⟩=some (v,s'):=by
   intro v s' hv;simp only[CE,G1,e1,Dd,e2,e3,if_pos hz,hf];exact hv
  cases hm:(L.mu e.1&&Nat.blt 0 len) with
  | true=>
   rw[hm] at h;exact⟨_,_,this _ _ (by rw[hm]; rfl),h⟩
  | false=>
   rw[hm] at h;obtain⟨qs,h4,h5⟩:=Ag h;exact⟨_,_,this _ _ (by rw[hm]; simp only[AB,h4]),h5⟩
 | load t a=>
  obtain⟨x,h1,h⟩:=Ag h;obtain⟨k,h2,h⟩:=Ag h;obtain⟨v,h3,h4⟩:=ADH h2 h;exact⟨v,s,by simp only[CE,BU hA h1,h3],h4⟩
 | store t a x=>
  obtain⟨av,h1,h⟩:=Ag h;obtain⟨xv,h2,h⟩:=Ag h;obtain⟨k,h3,h⟩:=Ag h;obtain⟨i,h4,rfl⟩:=FP h3;unfold C2 at h;split at h
  ·obtain⟨cs,h5,h6,h7⟩:=Ag h
   refine⟨_,_,?_,h7⟩;simp only[CE,BU hA h1,BU hA h2,Ni,h4,Qh,h5,if_pos h6]
  ·exact h.elim
 | nilCheck x=>
  obtain⟨a,h1,h⟩:=Ag h
  have:∃ v,KY s a=some v/\K v s:=by
   unfold Eo at h;unfold KY;split at h
   ·simp only[h.1,AE]; exact⟨_,rfl,h.2⟩
   ·exact⟨_,rfl,h⟩
   ·exact⟨_,rfl,h⟩
   ·exact⟨_,rfl,h⟩
   ·exact h.elim
  obtain⟨v,h2,h3⟩:=this;exact⟨v,s,by simp only[CE,BU hA h1,h2],h3⟩
 | fieldAddr t x f=>
  obtain⟨a,h1,h⟩:=Ag h;obtain⟨fd,h2,h⟩:=Ag h;obtain⟨k,h3,h⟩:=Ag h;cases k with
  | zero=>exact h.elim
  | succ k=>
   simp only at h
   have:∃ v,He E.P s t a f=some v/\K v s:=by
    unfold AAH at h2;split at h2
    ·rename_i fields hu
     unfold He;simp only[hu,h2,h3];rw[if_neg (by omega)];unfold Bo at h;split at h
     ·simp only[h.1,AE]; exact⟨_,rfl,h.2⟩
     ·exact⟨_,rfl,h⟩
     ·exact⟨_,rfl,h⟩
     ·exact h.elim
    ·simp at h2
   obtain⟨v,h4,h5⟩:=this;exact⟨v,s,by simp only[CE,BU hA h1,h4],h5⟩
 | field t x f=>
  obtain⟨a,h1,h⟩:=Ag h;obtain⟨fd,h2,h⟩:=Ag h;obtain⟨k,h3,h⟩:=Ag h;unfold AMP at h;split at h
  ·rename_i cs
   obtain⟨v,h4,h5⟩:=R9 h3 h;refine⟨v,s,?_,h5⟩;unfold AAH at h2;split at h2
   ·rename_i fields hu
    simp only[CE,BU hA h1,SD,hu,h2,h4]
   ·simp at h2
  ·exact h.elim
 | indexAddr t x i=>
  obtain⟨a,h1,h⟩:=Ag h;obtain⟨b,h2,h⟩:=Ag h;split at h
  ·rename_i e ht
   obtain⟨k,h3,h⟩:=Ag h
   have:∃ v,Hf E.P s t a b=some v/\K v s:=by
    unfold Hf;unfold Dc at h;split at h
    ·rename_i ki n
     simp only[ht,XO,h3];split at h
     ·rename_i id off len sz
      obtain⟨h4,h5⟩:=h;simp only[rowsOf,if_pos h4];exact⟨_,rfl,h5⟩
     ·obtain⟨rows,h4,h5,row,h6,h7,h8,h9⟩:=Ag h
      simp only[h4,if_pos h5,h6];exact⟨_,if_pos ⟨h7,h8⟩,h9⟩
    ·exact h.elim
   obtain⟨v,h4,h5⟩:=this;exact⟨v,s,by simp only[CE,BU hA h1,BU hA h2,h4],h5⟩
  ·exact Jp hA h
 | extract x i=>
  obtain⟨a,h1,h⟩:=Ag h;unfold DF at h;split at h
  ·obtain⟨v,h2,h3⟩:=Ag h
   exact⟨v,s,by simp only[CE,BU hA h1,L6,h2],h3⟩
  ·exact h.elim
 | makeFunc fn first captured=>
  obtain⟨a,h1,h⟩:=Ag h;obtain⟨b,h2,h⟩:=Ag h;exact⟨_,_,by simp only[CE,R8 hA h1,R8 hA h2],h⟩
 | makeInterface t x=>
  obtain⟨a,h1,h⟩:=Ag h;split at h
  ·exact h.elim
  ·rename_i d hne hd
   refine⟨_,_,?_,h⟩;simp only[CE,hd,BU hA h1]
  ·exact h.elim
 | slice t x lo hi mx=>
  simp only[v8] at h;split at h
  ·rename_i e ht
   obtain⟨k,h1,h⟩:=Ag h;obtain⟨a,h2,h⟩:=Ag h;obtain⟨l,h3,h⟩:=Ag h;obtain⟨hh,h4,h⟩:=Ag h;obtain⟨m,h5,h⟩:=Ag h;obtain⟨v,h6,h7⟩:=AGh ht h1 h;exact⟨v,s,by simp only[CE,BU hA h2,Yv hA h3,Yv hA h4,Yv hA h5,h6],h7⟩
  ·exact Jp hA h
 | call c=>
  obtain⟨callee,args,ts⟩:=c;cases callee with
  | builtin b=>
   cases b with
   | len=>
    simp only[v8] at h;split at h
    ·rename_i x t hx ht
     obtain⟨a,h1,h⟩:=Ag h;split at h
     ·rename_i hu
      unfold Ib at h;split at h
      ·refine⟨_,s,?_,h⟩
       simp only[CE,hx,ht,BU hA h1,Mt,hu];rfl
      ·exact h.elim
     ·rename_i e hu
      obtain⟨n,h2,h3⟩:=Ag h;refine⟨_,s,?_,h3⟩
      have hf:Mt E.P t a=none:=by
       unfold Mt;split
       ·simp[hu]
       ·rfl
      simp only[CE,hx,ht,BU hA h1,hf,hu,h2]
     ·exact Jp hA h
    ·exact h.elim
   | append=>
    simp only[v8] at h;split at h
    ·rename_i x y t u us hx ht
     split at h
     ·exact h.elim
     ·rename_i d hne hd
      obtain⟨a,h1,h⟩:=Ag h;obtain⟨b,h2,h⟩:=Ag h;obtain⟨e,h3,h4,h5⟩:=Ag h;obtain⟨v,s',h6,h7⟩:=AGi h3 h4 h5;refine⟨v,s',?_,h7⟩;simp only[CE,hx,ht,hd,BU hA h1,BU hA h2,h6]
     ·exact h.elim
    ·exact h.elim
   | _=>exact Jp hA h
  | _=>exact Jp hA h
 | binOp op t x y c=>
  obtain⟨a,h1,h⟩:=Ag h;obtain⟨b,h2,h⟩:=Ag h;have ZP:=BU hA h1;have h2':=BU hA h2;subst ZP h2';split at h
  ·rename_i k ht
   obtain⟨v,h3,h4⟩:=AGd (L:=L) (s:=s) (o:=⟨dst,.binOp op t x y c,type,pos,after,guard⟩) rfl ht h;exact⟨v,s,h3,h4⟩
  ·rename_i ht
   obtain⟨v,h3,h4⟩:=AGe (L:=L) (s:=s) (o:=⟨dst,.binOp op t x y c,type,pos,after,guard⟩) rfl ht h;exact⟨v,s,h3,h4⟩
  ·rename_i ht
   obtain⟨v,h3,h4⟩:=AAJ (L:=L) (s:=s) (o:=⟨dst,.binOp op t x y c,type,pos,after,guard⟩) rfl ht h;exact⟨v,s,h3,h4⟩
  ·exact Jp hA h
  ·rename_i ht
   obtain⟨v,h3,h4⟩:=AGf (L:=L) hA (o:=⟨dst,.binOp op t x y c,type,pos,after,guard⟩) rfl ht h;exact⟨v,s,h3,h4⟩
  ·obtain⟨v,h3,h4⟩:=wA (L:=L) hA (o:=⟨dst,.binOp op t x y c,type,pos,after,guard⟩) rfl h
   exact⟨v,s,h3,h4⟩
 | makeMap t r=>
  cases r with
  | none=>exact⟨_,_,rfl,h⟩
  | some r=>exact Jp hA h
 | lookup t m k ok=>
  obtain⟨d,h1,h⟩:=Ag h;obtain⟨z,h2,h⟩:=Ag h;obtain⟨mv,h3,h⟩:=Ag h;obtain⟨kv,h4,h⟩:=Ag h;obtain⟨e,h5,h⟩:=Ag h;obtain⟨key,h6,h⟩:=Ag h;obtain⟨r,h7,h⟩:=Ag h;obtain⟨kt,el,e1,e2,e3⟩:=cV h1;obtain⟨i,v,e4,e5,e6⟩:=e3 z h2;obtain⟨es,clock⟩:=e;cases r with
  | none=>
   refine⟨_,s,?_,h⟩;simp only[CE,BU hA h3,BU hA h4,Oa,e1,h5,h6,UL e2 h7,e4,e5,e6]
  | some p=>
   obtain⟨n,v'⟩:=p;refine⟨_,s,?_,h⟩;simp only[CE,BU hA h3,BU hA h4,Oa,e1,h5,h6,UL e2 h7]
 | insert t m k x=>
  obtain⟨d,h1,h⟩:=Ag h;obtain⟨mv,h3,h⟩:=Ag h;obtain⟨kv,h4,h⟩:=Ag h;obtain⟨xv,h2,h⟩:=Ag h;obtain⟨e,h5,h⟩:=Ag h;obtain⟨key,h6,h⟩:=Ag h;obtain⟨v,h7,h8,h⟩:=Ag h;obtain⟨kt,el,e1,e2,e3⟩:=cV h1;obtain⟨es,clock⟩:=e;cases mv with
  | Fg id=>
   obtain⟨h9,h10⟩:=h;refine⟨_,_,?_,h10⟩;have hb:Nat.ble L.ro id=true:=IL h9;simp only[CE,BU hA h3,BU hA h4,BU hA h2,LI,e1,h5,h6,h7,UL e2 h8,Nk,hb,AE]
  | _=>exact h.elim
 | unOp op t x=>
  simp only[v8] at h;split at h
  ·obtain⟨a,h1,h⟩:=Ag h
   unfold Fj at h;split at h
   ·exact⟨_,s,by simp only[CE,BU hA h1,SH],h⟩
   ·exact h.elim
  ·exact Jp hA h
 | index t x i=>
  simp only[v8] at h;split at h
  ·rename_i ht
   obtain⟨a,h1,h⟩:=Ag h;obtain⟨b,h2,h⟩:=Ag h;unfold Sx at h;split at h
   ·rename_i _ _ bs k n _
    obtain⟨h3,c,h4,h5⟩:=h;refine⟨_,s,?_,h5⟩;obtain⟨m,rfl⟩:=XL h3;simp only[CE,BU hA h1,BU hA h2]
    have:Ka E.P t (.pv (.sc (.string bs))) (.pv (.sc (.int k (m:Int))))=some (.int .u8 c.toNat):=by
     show(match E.P.underlying t,bs.data.toList[m]? with
      | some .string,some c=>some (Value.int .u8 c.toNat)
      | _,_=>none)=_
     have xl:bs.data.toList[m]?=some c:=by simpa using h4
     rw[ht,xl]
    rw[this]
   ·exact h.elim
  ·exact Jp hA h
 | convert a b x=>
  simp only[v8] at h;split at h
  ·rename_i k1 k ha hb
   obtain⟨v,h1,h⟩:=Ag h;unfold Mf at h;split at h
   ·rename_i k2 n
    refine⟨_,s,?_,h⟩
    have hq:Ct E ρ ⟨dst,.convert a b x,type,pos,after,guard⟩=some (.pv (.sc (.int k (k.wrap n)))):=by
     unfold Ct
     have hall:E4 ρ (Op.operands (.convert a b x)).toList=true:=by
      simp[E4,Op.operands,BU hA h1,Gg]
     rw[if_pos hall]
     have:quick E.P (execOp (fun z=>(Gg (AP ρ z)).getD undef) ⟨dst,.convert a b x,type,pos,after,guard⟩)=some (.value (.int k (k.wrap n))):=by
      simp only[execOp,BU hA h1,Gg,I2];exact Cb (AAK ha hb) rfl
     rw[this];rfl
    simp only[CE,ha,hb,BU hA h1,hq]
   ·exact h.elim
  ·rename_i e ha hb
   split at h
   ·rename_i he
    obtain⟨v,h1,h⟩:=Ag h;unfold vw at h;split at h
    ·refine⟨_,s,?_,h⟩
     simp only[CE,ha,hb,BU hA h1,he]
    ·exact h.elim
   ·exact h.elim
  ·rename_i e ha hb
   split at h
   ·rename_i he
    obtain⟨v,h1,h⟩:=Ag h;obtain⟨l,h2,h3⟩:=Ag h;refine⟨_,s,?_,h3⟩;simp only[CE,ha,hb,BU hA h1,he,h2]
   ·exact h.elim
  ·exact Jp hA h
 | _=>exact Jp hA h
end Go.Tel
