/-
  Arguments that are not known: what a single operation needs so that it answers as wanted.
-/
import Derived.Test.YtpgfpakdnijngaaGreatDoorEvI
set_option linter.all false
namespace Go.Tel
abbrev Lk:=Nat->Option AV
abbrev AB (n:Int):AV:=.pv (.sc (.int .i64 n))
abbrev BB (b:Bool):AV:=.pv (.sc (.bool b))
abbrev SS (l:List UInt8):AV:=.pv (.sc (.string ⟨l.toArray⟩))
def BA (E:Env) (L:A3) (f:FuncId) (args:List AV) (s:AL) (v:AV) (s':AL):Prop:=
 ∃n,∀m,n<=m->Dl E m L f args s=some (v,s')
def HN (lk:Lk) (ρ:Nat->AV):Prop:=∀t v,lk t=some v->ρ t=v
abbrev wO {α:Type} (x:Option α) (K:α->Prop):Prop:=match x with
 | some a=>K a
 | none=>False
theorem A2 {α:Type} {x:Option α} {K:α->Prop} (h:wO x K):∃a,x=some a/\K a:=by grind
abbrev G7 (lk:Lk):Operand->Option AV
 | .tmp t=>lk t
 | .const v=>some (ofConst v)
 | .global g=>some (.DX g 0)
 | .func f=>some (.func (.func f) [] [])
theorem Bw {lk:Lk} {ρ:Nat->AV} (hA:HN lk ρ) {x:Operand} {v:AV} (h:G7 lk x=some v):Ad ρ x=v:=by
 cases x with
 | tmp t=>exact hA t v h
 | const u=>grind[Ad]
 | global g=>grind[Ad]
 | func f=>grind[Ad]
abbrev qc (lk:Lk):List Operand->Option (List AV)
 | []=>some []
 | x::xs=>match G7 lk x,qc lk xs with
  | some a,some as=>some (a::as)
  | _,_=>none
theorem ZM {lk:Lk} {ρ:Nat->AV} (hA:HN lk ρ):∀{xs:List Operand} {vs:List AV},qc lk xs=some vs->xs.map (Ad ρ)=vs
 | [],vs,h=>by grind
 | x::xs,vs,h=>by
  simp only[qc] at h;split at h
  .rename_i a as h1 h2
   simp at h; subst h;simp[Bw hA h1,ZM hA h2]
  grind
abbrev qd (lk:Lk) (place:Nat->Option (Nat×Nat)):List (Nat×Operand)->Option (List (Nat×Nat×AV))
 | []=>some []
 | (i,x)::xs=>match place i,G7 lk x,qd lk place xs with
  | some (off,size),some a,some as=>some ((off,size,a)::as)
  | _,_,_=>none
def FJ (cells:List AV):List (Nat×Nat×AV)->Option (List AV)
 | []=>some cells
 | (off,size,v)::rest=>if (cellsOf v).length=size/\off+size<=cells.length/\(cellsOf v).all BE=true then FJ (setCells cells off (cellsOf v)) rest else none
theorem Ul {lk:Lk} {ρ:Nat->AV} (hA:HN lk ρ) {place:Nat->Option (Nat×Nat)}:∀{parts:List (Nat×Operand)} {ps:List (Nat×Nat×AV)} {cells:List AV},qd lk place parts=some ps ->
  Lc place cells (parts.map λp=>(p.1,Ad ρ p.2))=FJ cells ps
 | [],ps,cells,h=>by
  simp[qd] at h; subst h;rfl
 | (i,x)::parts,ps,cells,h=>by
  simp only[qd] at h;split at h
  .rename_i off size a as h1 h2 h3
   simp at h; subst h;simp only[CE,Lc,h1,Bw hA h2,FJ];split
   .exact Ul hA h3
   rfl
  grind
def A8 (c a b:AV) (K:AV->Prop):Prop:=match c with
 | .pv (.sc (.bool t))=>K (bif t then a else b)
 | _=>False
def Cl (s:AL) (cs:List AV) (K:AV->AL->Prop):Prop:=K (.ptr s.bs.length 0) ⟨s.bs++[cs],s.ts⟩
def Bs (s:AL) (x:AV) (K:AV->AL->Prop):Prop:=(cellsOf x).all BE=true/\Cl s (cellsOf x) K
def Lg (id:Nat) (t:TypeId):List AV->List AV
 | .pv (.sc (.pointer none))::r=>.bz id t (r.length+1)::r
 | z=>z
def Lf (s:AL) (t:TypeId) (x:AV) (K:AV->AL->Prop):Prop:=(cellsOf x).all BE=true/\Cl s (Lg s.bs.length t (cellsOf x)) K
def Cw (z:List AV) (ps:List (Nat×Nat×AV)) (K:AV->Prop):Prop:=wO (FJ z ps) λcs=>K (.agg cs)
def Ct (mu:Bool) (s:AL) (k:Nat) (z:List AV) (len:Nat) (ps:List (Nat×Nat×AV)) (K:AV->AL->Prop):Prop:=
 (len*k<=2 ^ 24/\z.length=k/\k≠0)/\wO (FJ (Fg len z) ps) λcs=>
  bif mu&&Nat.blt 0 len then K (.ref s.bs.length 0 len k) ⟨s.bs++[cs],s.ts⟩ else wO (Co cs) λps=>K (.AA (CR k len ps)) s
def Dn (k:Option Nat) (cs:List AV) (off:Nat) (K:AV->Prop):Prop:=match k with
 | some k=>off+k<=cs.length/\K (.agg ((cs.drop off).take k))
 | none=>wO cs[off]? K
def FC (E:Env) (s:AL) (k:Option Nat) (x:AV) (K:AV->Prop):Prop:=match x with
 | .ptr id off=>wO s.bs[id]? λcs=>Dn k cs off K
 | .DX g off=>wO (E.G g) λrow=>Dn k (row.map .pv) off K
 | .Cn row off=>Dn k (row.map .pv) off K
 | _=>False
def Ci (L:A3) (s:AL) (k:Nat) (a x:AV) (K:AL->Prop):Prop:=match a with
 | .ptr id off=>wO s.bs[id]? λcs=>((cellsOf x).length=k/\off+(cellsOf x).length<=cs.length/\L.ro<=id/\(cellsOf x).all BE=true/\(L.n0<=id\/II (cellsOf x)=true)/\k≠0)/\K ⟨s.bs.set id (setCells cs off (cellsOf x)),s.ts⟩
 | _=>False
def Cz (s:AL) (x:AV) (K:AV->Prop):Prop:=match x with
 | .ptr id off=>alive s id=true/\K (.ptr id off)
 | .DX g off=>K (.DX g off)
 | .Cn r off=>K (.Cn r off)
 | .func (.func f) a b=>K (.func (.func f) a b)
 | _=>False
def Ax (s:AL) (x:AV) (d:Nat) (K:AV->Prop):Prop:=match x with
 | .ptr id off=>alive s id=true/\K (.ptr id (off+d))
 | .DX g off=>K (.DX g (off+d))
 | .Cn r off=>K (.Cn r (off+d))
 | _=>False
def AT3 (k:Option Nat) (x:AV) (off:Nat) (K:AV->Prop):Prop:=match x with
 | .agg cs=>Dn k cs off K
 | _=>False
def Bj (s:AL) (k:Nat) (x ix:AV) (K:AV->Prop):Prop:=match ix with
 | .pv (.sc (.int _ i))=>match x with
  | .ref id off len sz=>(0<=i/\i<len/\sz=k/\alive s id=true)/\K (.ptr id (off+i.toNat*k))
  | x=>wO (rowsOf x) λrows=>0<=i/\∃row,rows[i.toNat]?=some row/\row.length=k/\k≠0/\K (.Cn row 0)
 | _=>False
def DF (x:AV) (i:Nat) (K:AV->Prop):Prop:=match x with
 | .tuple vs=>wO vs[i]? K
 | _=>False
def BO (s:AL) (x:AV) (K:AV->Prop):Prop:=wO (A9 s x) λn=>K (AB n)
def Gx (x:AV) (K:AV->Prop):Prop:=match x with
 | .pv (.sc (.string b))=>K (AB b.data.toList.length)
 | _=>False
def MD (x i:AV) (K:AV->Prop):Prop:=match x,i with
 | .pv (.sc (.string b)),.pv (.sc (.int _ n))=>0<=n/\∃c,b.data.toList[n.toNat]?=some c/\K (.pv (.sc (.int .u8 c.toNat)))
 | _,_=>False
def fT (k:IntKind) (n:Int) (K:AV->Prop):Prop:=K (.pv (.sc (.int k (k.wrap n))))
def Cg (k:IntKind) (op:BinOp) (x y:AV) (K:AV->Prop):Prop:=match x,y with
 | .pv (.sc (.int k1 a)),.pv (.sc (.int k2 b))=>(k1=k/\k2=k)/\match op with
  | .add=>fT k (a+b) K
  | .sub=>fT k (a-b) K
  | .mul=>fT k (a*b) K
  | .quo=>b≠0/\fT k (a.tdiv b) K
  | .rem=>b≠0/\K (.pv (.sc (.int k (a.tmod b))))
  | .eql=>K (BB (a==b))
  | .neq=>K (BB (a != b))
  | .lss=>K (BB (a<b))
  | .leq=>K (BB (a<=b))
  | .gtr=>K (BB (a>b))
  | .geq=>K (BB (a>=b))
  | .shr=>0<=b/\K (.pv (.sc (.int k (a.fdiv (2 ^ (min b.toNat k.bits))))))
  | _=>False
 | _,_=>False
def GD (op:BinOp) (x y:AV) (K:AV->Prop):Prop:=match x,y with
 | .pv (.sc (.string a)),.pv (.sc (.string b))=>match op with
  | .add=>a.data.toList.length+b.data.toList.length<2 ^ 63/\K (.pv (.sc (.string ⟨(a.data.toList++b.data.toList).toArray⟩)))
  | .eql=>K (BB (a.data.toList==b.data.toList))
  | .neq=>K (BB (!(a.data.toList==b.data.toList)))
  | .lss=>K (BB (Op.bytesLess a.data.toList b.data.toList))
  | .leq=>K (BB (Op.bytesLess a.data.toList b.data.toList||(a.data.toList==b.data.toList)))
  | .gtr=>K (BB (!(Op.bytesLess a.data.toList b.data.toList||(a.data.toList==b.data.toList))))
  | .geq=>K (BB (!(Op.bytesLess a.data.toList b.data.toList)))
  | _=>False
 | _,_=>False
def ABs (op:BinOp) (x y:AV) (K:AV->Prop):Prop:=match x,y with
 | .pv (.sc (.bool a)),.pv (.sc (.bool b))=>match op with
  | .eql=>K (BB (a==b))
  | .neq=>K (BB (!(a==b)))
  | _=>False
 | _,_=>False
def Dv (x:AV) (K:AV->Prop):Prop:=match x with
 | .pv (.sc (.bool b))=>K (BB (!b))
 | _=>False
def RQ:AV->Option Nat
 | .pv (.sc (.pointer none))=>some 0
 | .pv (.sc .nilFunc)=>some 2
 | .pv (.sc .nilIface)=>some 3
 | _=>none
abbrev ZN (lk:Lk):Operand->Option Nat
 | .const v=>match v with
  | .slice none 0 0=>some 1
  | v=>RQ (ofConst v)
 | .tmp t=>match lk t with
  | some v=>RQ v
  | none=>none
 | _=>none
def wM (s:AL) (k:Option Nat) (n m:Option Nat) (op:BinOp) (x y:AV) (K:AV->Prop):Prop:=
 (sameKind k (D4 s x) m||sameKind k n (D4 s y))=true/\match op with
  | .eql=>K (BB false)
  | .neq=>K (BB true)
  | _=>False
def Tt:AV->Bool
 | .pv (.sc (.pointer none))=>true
 | _=>false
def bO (s:AL) (n m:Option Nat) (op:BinOp) (x y:AV) (K:AV->Prop):Prop:=match Tt x&&Tt y with
 | true=>match op with
  | .eql=>K (BB true)
  | .neq=>K (BB false)
  | _=>False
 | false=>wM s (some 0) n m op x y K
def Cx (mu:Bool) (L:A3) (s:AL) (e:TypeId) (k bytes:Nat) (x y:AV) (K:AV->AL->Prop):Prop:=
 wO (C0 s k y) λnew=>match new with
  | []=>match x with
   | .ref id _ _ _=>alive s id=true/\K x s
   | x=>wO (rowsOf x) λ_=>K x s
  | c::cs=>((c::cs).all BE=true)/\match x with
   | .ref id off len sz=>wO s.bs[id]? λold=>(off=0/\sz=k/\len*sz<=old.length/\alive s id=true/\(len+(c::cs).length / k)*bytes<=2 ^ 45/\len+(c::cs).length / k<=2 ^ 45/\L.ro<=id) /\
     K (.ref s.bs.length 0 (len+(c::cs).length / k) sz) ⟨s.bs.set id []++[old.take (len*sz)++(c::cs)],s.ts⟩
   | .AA rows=>((rows.length+(c::cs).length / k)*bytes<=2 ^ 45/\rows.length+(c::cs).length / k<=2 ^ 45/\(rows.all λr=>r.length==k)=true) /\
     bif mu then K (.ref s.bs.length 0 (rows.length+(c::cs).length / k) k) ⟨s.bs++[rows.flatten.map .pv++(c::cs)],s.ts⟩
     else wO (Co (c::cs)) λps=>K (.own s.ts.length (rows++CR k ((c::cs).length / k) ps)) ⟨s.bs,s.ts++[(rows.length+(c::cs).length / k,e)]⟩
   | .own t rows=>((rows.length+(c::cs).length / k)*bytes<=2 ^ 45/\rows.length+(c::cs).length / k<=2 ^ 45/\s.ts[t]?=some (rows.length,e)/\L.rt<=t/\(rows.all λr=>r.length==k)=true) /\
     wO (Co (c::cs)) λps=>K (.own t (rows++CR k ((c::cs).length / k) ps)) ⟨s.bs,s.ts.set t (rows.length+(c::cs).length / k,e)⟩
   | _=>False
def AQJ (L:A3) (s:AL) (e:TypeId) (k bytes:Nat) (x v:AV) (K:AV->AL->Prop):Prop:=
 (cellsOf v).all BE=true/\wO (Co (cellsOf v)) λrow=>row.length=k/\match x with
  | .AA rows=>((rows.length+1)*bytes<=2 ^ 45/\rows.length+1<=2 ^ 45/\(rows.all λr=>r.length==k)=true)/\K (.own s.ts.length (rows++[row])) ⟨s.bs,s.ts++[(rows.length+1,e)]⟩
  | .own t rows=>((rows.length+1)*bytes<=2 ^ 45/\rows.length+1<=2 ^ 45/\s.ts[t]?=some (rows.length,e)/\L.rt<=t/\(rows.all λr=>r.length==k)=true)/\K (.own t (rows++[row])) ⟨s.bs,s.ts.set t (rows.length+1,e)⟩
  | _=>False
def YG (s:AL) (k:Nat) (x:AV) (lo hi mx:Option AV) (K:AV->Prop):Prop:=match x with
 | .ref id off len sz=>∃l h,Fj 0 lo=some l/\Fj len hi=some h/\match mx with
  | none=>(l<=h/\h<=len/\sz=k/\k≠0/\alive s id=true)/\K (if l=h then .pv (.list []) else .ref id (off+l*k) (h-l) sz)
  | some m=>(l=h/\h<=len/\HD m=some h/\hi.isSome=true/\alive s id=true)/\K (.AA [])
 | x=>wO (rowsOf x) λrows=>∃l h,Fj 0 lo=some l/\Fj rows.length hi=some h/\(l<=h/\h<=rows.length/\(rows.all λr=>r.length==k)=true)/\match mx with
  | none=>K (.pv (.list ((rows.take h).drop l)))
  | some m=>(HD m=some h/\hi.isSome=true)/\K (.AA ((rows.take h).drop l))
def MP (k:IntKind) (x:AV) (K:AV->Prop):Prop:=match x with
 | .pv (.sc (.int _ n))=>K (.pv (.sc (.int k (k.wrap n))))
 | _=>False
def ABt (x:AV) (K:AV->Prop):Prop:=match x with
 | .pv (.sc (.string t))=>K (.pv (.list (t.data.toList.map λb=>[.sc (.int .u8 b.toNat)])))
 | _=>False
def findD (d:TypeDesc) (k:Value) (es:List MapEntry):Option (Option (Nat×Value)):=match d with
 | .int i=>Instr.findNow (.int i) k es 0
 | .string=>match k with
  | .string b=>OP b.data.toList es 0
  | _=>none
 | _=>none
def wMk (s:AL) (K:AV->AL->Prop):Prop:=K (.FL s.bs.length) ⟨s.bs++[[.K7 [] 0]],s.ts⟩
def AT4 (s:AL) (d:TypeDesc) (z:AV) (m k:AV) (ok:Bool) (K:AV->Prop):Prop:=
 wO (K9 s m) λe=>wO (GN k) λkey=>wO (findD d key e.1) λr=>match r with
  | some (_,v)=>K (bif ok then .tuple [ng v,BB true] else ng v)
  | none=>K (bif ok then .tuple [z,BB false] else z)
def AT5 (L:A3) (s:AL) (d:TypeDesc) (m k x:AV) (K:AL->Prop):Prop:=
 wO (K9 s m) λe=>wO (GN k) λkey=>wO (jc x) λv=>findD d key e.1=some none/\match m with
  | .FL id=>L.ro<=id/\K ⟨s.bs.set id [.K7 (e.1++[{ key:=key,val:=v,born:=e.2 }]) (e.2+1)],s.ts⟩
  | _=>False
def VY (E:Env) (L:A3) (lk:Lk) (s:AL) (o:Oper) (K:AV->AL->Prop):Prop:=
 ∃v s',(∀ρ,HN lk ρ->CS E L ρ s o=some (v,s'))/\K v s'
def GM (E:Env) (L:A3) (f:AV) (args:List AV) (s:AL) (K:AV->AL->Prop):Prop:=match f with
 | .func (.func g) first captured=>∃v s',BA E L g (first++args++captured) s v s'/\K v s'
 | _=>False
abbrev ldK (P:Program) (t:TypeId):Option (Option Nat):=match P.underlying t,P.info? t with
 | some d,some i=>match d with
  | .struct _|.array _ _=>if i.size≠0 then some (some i.size) else none
  | _=>some none
 | _,_=>none
abbrev AMp (P:Program) (t:TypeId) (f:Nat):Option Field:=match P.underlying t with
 | some (.struct fields)=>fields[f]?
 | _=>none
abbrev AMq (P:Program) (t:TypeId):Option (Nat->Option (Nat×Nat)):=match P.underlying t with
 | some (.struct fields)=>bif fields.all (λf=>(Dk P f.type).isSome) then some (Xf P fields) else none
 | some (.array _ elem)=>match Dk P elem with
  | some k=>some λi=>some (i*k,k)
  | none=>none
 | _=>none
abbrev XK (P:Program) (t:TypeId):Option (TypeId×TypeInfo×List AV):=match P.underlying t with
 | some (.slice e)=>match P.info? e,zeroOf P e with
  | some i,some z=>some (e,i,z)
  | _,_=>none
 | _=>none
abbrev AEL (lk:Lk):Option Operand->Option (Option AV)
 | none=>some none
 | some x=>match G7 lk x with
  | some v=>some (some v)
  | none=>none
abbrev AMr (P:Program) (t:TypeId):Option (TypeDesc×Option AV):=match P.underlying t with
 | some (.map kt e)=>match P.underlying kt with
  | some d=>match P.info? e with
   | some i=>match i.zero with
    | some z=>some (d,some (ofConst z))
    | none=>some (d,none)
   | none=>some (d,none)
  | none=>none
 | _=>none
abbrev wOp (E:Env) (L:A3) (lk:Lk) (s:AL) (o:Oper) (K:AV->AL->Prop):Prop:=
 match o.op with
 | .move x=>wO (G7 lk x) λx=>K x s
 | .assign x=>wO (G7 lk x) λx=>K x s
 | .pick c a b=>wO (G7 lk c) λc=>wO (G7 lk a) λa=>wO (G7 lk b) λb=>A8 c a b λv=>K v s
 | .alloc t=>wO (zeroOf E.P t) λz=>Cl s (M8 E s.bs.length t z) K
 | .box t x=>wO (G7 lk x) λx=>match E.bz t with
  | true=>Lf s t x K
  | false=>Bs s x K
 | .build t parts=>wO (zeroOf E.P t) λz=>wO (AMq E.P t) λpl=>wO (qd lk pl parts.toList) λps=>Cw z ps λv=>K v s
 | .buildSlice t len parts=>wO (XK E.P t) λe=>wO (qd lk (λi=>some (i*e.2.1.size,e.2.1.size)) parts.toList) λps=>Ct (L.mu e.1) s e.2.1.size e.2.2 len ps K
 | .load t a=>wO (G7 lk a) λa=>wO (ldK E.P t) λk=>FC E s k a λv=>K v s
 | .store t a x=>wO (G7 lk a) λa=>wO (G7 lk x) λx=>wO (Dk E.P t) λk=>Ci L s k a x λs=>K (.tuple []) s
 | .nilCheck x=>wO (G7 lk x) λx=>Cz s x λv=>K v s
 | .fieldAddr t x f=>wO (G7 lk x) λx=>wO (AMp E.P t f) λf=>wO (Dk E.P f.type) λk=>match k with
  | 0=>False
  | _+1=>Ax s x f.offset λv=>K v s
 | .field t x f=>wO (G7 lk x) λx=>wO (AMp E.P t f) λf=>wO (ldK E.P f.type) λk=>AT3 k x f.offset λv=>K v s
 | .indexAddr t x i=>wO (G7 lk x) λx=>wO (G7 lk i) λi=>match E.P.underlying t with
  | some (.slice e)=>wO (Dk E.P e) λk=>Bj s k x i λv=>K v s
  | _=>VY E L lk s o K
 | .extract x i=>wO (G7 lk x) λx=>DF x i λv=>K v s
 | .makeFunc fn first captured=>wO (qc lk first.toList) λa=>wO (qc lk captured.toList) λb=>K (.func fn a b) s
 | .makeInterface t x=>wO (G7 lk x) λx=>match E.P.underlying t with
  | some (.interface _)=>False
  | some _=>K (.iface t x) s
  | none=>False
 | .slice t x lo hi mx=>match E.P.underlying t with
  | some (.slice e)=>wO (Dk E.P e) λk=>wO (G7 lk x) λx=>wO (AEL lk lo) λlo=>wO (AEL lk hi) λhi=>wO (AEL lk mx) λmx=>YG s k x lo hi mx λv=>K v s
  | _=>VY E L lk s o K
 | .call { callee:=.builtin .len,args:=args,argTypes:=ts }=>match args.toList,ts.toList with
  | [x],[t]=>wO (G7 lk x) λx=>match E.P.underlying t with
   | some .string=>Gx x λv=>K v s
   | some (.slice _)=>BO s x λv=>K v s
   | _=>VY E L lk s o K
  | _,_=>False
 | .call { callee:=.builtin .append,args:=args,argTypes:=ts }=>match args.toList,ts.toList with
  | [x,y],t::u::_=>match E.P.underlying u with
   | some (.int _)=>False
   | some _=>wO (G7 lk x) λx=>wO (G7 lk y) λy=>wO (XK E.P t) λe=>(e.2.2.length=e.2.1.size/\e.2.1.size≠0)/\Cx (L.mu e.1) L s e.1 e.2.1.size e.2.1.bytes x y K
   | none=>False
  | _,_=>False
 | .binOp op t x y _=>wO (G7 lk x) λa=>wO (G7 lk y) λb=>match E.P.underlying t with
  | some (.int k)=>Cg k op a b λv=>K v s
  | some .string=>GD op a b λv=>K v s
  | some .bool=>ABs op a b λv=>K v s
  | some (.interface _)=>VY E L lk s o K
  | some (.pointer _)=>bO s (ZN lk x) (ZN lk y) op a b λv=>K v s
  | _=>wM s (C7 E.P t) (ZN lk x) (ZN lk y) op a b λv=>K v s
 | .makeSlice t l c=>wO (G7 lk l) λl=>wO (G7 lk c) λc=>wO (I6 E.P s t l c) λr=>K r.1 r.2
 | .makeMap _ none=>wMk s K
 | .lookup t m k ok=>wO (AMr E.P t) λd=>wO d.2 λz=>wO (G7 lk m) λm=>wO (G7 lk k) λk=>AT4 s d.1 z m k ok λv=>K v s
 | .insert t m k x=>wO (AMr E.P t) λd=>wO (G7 lk m) λm=>wO (G7 lk k) λk=>wO (G7 lk x) λx=>AT5 L s d.1 m k x λs=>K (.tuple []) s
 | .unOp op _ x=>match op with
  | .not=>wO (G7 lk x) λx=>Dv x λv=>K v s
  | _=>VY E L lk s o K
 | .index t x i=>match E.P.underlying t with
  | some .string=>wO (G7 lk x) λx=>wO (G7 lk i) λi=>MD x i λv=>K v s
  | _=>VY E L lk s o K
 | .convert a b x=>match E.P.underlying a,E.P.underlying b with
  | some (.int _),some (.int k)=>wO (G7 lk x) λx=>MP k x λv=>K v s
  | some .string,some (.slice e)=>match E.P.underlying e with
   | some (.int .u8)=>wO (G7 lk x) λx=>ABt x λv=>K v s
   | _=>False
  | some (.slice e),some .string=>match E.P.underlying e with
   | some (.int .u8)=>wO (G7 lk x) λx=>wO (K8 s x) λl=>K (.pv (.sc (.string ⟨l.toArray⟩))) s
   | _=>False
  | _,_=>VY E L lk s o K
 | _=>VY E L lk s o K
theorem nT {P:Program} {t:TypeId} {k:Option Nat} {cs:List AV} {off:Nat} {K:AV->Prop} (hk:ldK P t=some k) (h:Dn k cs off K):∃v,partOf P t cs off=some v/\K v:=by
 unfold ldK at hk;unfold partOf
 grind[Dn]
theorem AIa {E:Env} {s:AL} {t:TypeId} {k:Option Nat} {x:AV} {K:AV->Prop} (hk:ldK E.P t=some k) (h:FC E s k x K):∃v,SL E s t x=some v/\K v:=by
 unfold FC at h
 grind[SL,Qn,nT]
theorem Cc {P:Program} {α β:Type} {x:Sem α} {f:α->Sem β} {a:α} {b:β} (h:quick P x=some a) (k:quick P (f a)=some b):quick P (x >>= f)=some b:=by
 induction x with
 | pure a'=>simp only[quick,Au] at h; subst h; exact k
 | program g ih=>exact ih _ h
 | mark _ g ih=>exact ih h
 | _=>grind[quick]
theorem I4 {P:Program} {t:TypeId} {d:TypeDesc} (h:P.underlying t=some d):quick P (underlying t)=some d:=by
 unfold underlying;refine Cc (a:=P) rfl ?_;rw[h];rfl
theorem jI {E:Env} {L:A3} {ρ:Nat->AV} {s:AL} {o:Oper} {op:BinOp} {t:TypeId} {x y:Operand} {c:TypeId} {xv yv v:Value} (ho:o.op=.binOp op t x y c) (hx:Ad ρ x=.pv (.sc xv)) (hy:Ad ρ y=.pv (.sc yv))
  (hk:C7 E.P t=none) (hg:∀a b,quick E.P (eqGuard op t a b xv yv)=some ()) (hq:quick E.P (binOp op t xv yv)=some v) (hv:Lr v=.pv (.sc v)):CS E L ρ s o=some (.pv (.sc v),s):=by
 obtain⟨dst,op',type,pos,after,guard⟩:=o;simp only at ho;subst ho;simp only[CS];cases hf:Ij op (Ad ρ x) (Ad ρ y) with
 | some u=>
  have h1:=(NI (P:=E.P) (g:=AE.bare λ_ _=>False) (w:=default) (t:=t) (by rw[hx]; exact V.IE xv) (by rw[hy]; exact V.IE yv) hf).1
  simp_all[Vd]
 | none=>
  have hn:IJ E.P s ρ op t x y=none:=by simp[*,IJ,sameKind]
  simp only[hn]
  have hq':Cy E ρ ⟨dst,.binOp op t x y c,type,pos,after,guard⟩=some (.pv (.sc v)):=by
   unfold Cy;have hall:Ej ρ (Op.operands (.binOp op t x y c)).toList=true:=by grind[Ej,Op.operands,GN]
   rw[if_pos hall]
   have:quick E.P (execOp (λz=>(GN (Ad ρ z)).getD undef) ⟨dst,.binOp op t x y c,type,pos,after,guard⟩)=some (.value v):=by
    simp only[execOp,hx,hy,GN,Ic];exact Cc (Cc (hg x y) hq) rfl
   grind
  rw[hq']
theorem qe {P:Program} {op:BinOp} {t:TypeId} {a b:Operand} {k1 k2:IntKind} {m n:Int}:quick P (eqGuard op t a b (.int k1 m) (.int k2 n))=some ():=by
 unfold eqGuard;split <;> rfl
theorem qf {P:Program} {op:BinOp} {t:TypeId} {a b:Operand} {m n:ByteArray}:quick P (eqGuard op t a b (.string m) (.string n))=some ():=by
 unfold eqGuard;split <;> rfl
theorem jJ {P:Program} {op:BinOp} {t:TypeId} {a b:Operand} {m n:Bool}:quick P (eqGuard op t a b (.bool m) (.bool n))=some ():=by
 unfold eqGuard;split <;> rfl
theorem AMs {E:Env} {L:A3} {ρ:Nat->AV} {s:AL} {o:Oper} {op:BinOp} {t:TypeId} {x y:Operand} {c:TypeId} {k:IntKind} {K:AV->Prop} (ho:o.op=.binOp op t x y c) (ht:E.P.underlying t=some (.int k))
  (h:Cg k op (Ad ρ x) (Ad ρ y) K):∃v,CS E L ρ s o=some (v,s)/\K v:=by
 unfold Cg at h;split at h
 .rename_i k1 a k2 b hx hy
  obtain⟨⟨e1,e2⟩,h⟩:=h;subst e1;subst e2;have hk:C7 E.P t=none:=by simp[C7,ht]
  have go:∀v,quick E.P (binOp op t (.int k2 a) (.int k2 b))=some v->Lr v=.pv (.sc v)->K (.pv (.sc v))->∃v,CS E L ρ s o=some (v,s)/\K v:=λv h1 h2 h3=>
   ⟨_,jI ho hx hy hk (λ_ _=>qe) h1 h2,h3⟩
  cases op <;> first
   | grind
   | exact go _ (by simp[binOp,Op.intArith]; rfl) rfl h
   | exact go _ (by simp[binOp,Op.intCmp]; rfl) rfl h
   | exact go _ (by simp[binOp,Op.intDiv,h.1]; rfl) rfl h.2
   | exact go _ (by simp[binOp,Op.shift,Int.not_lt.2 h.1]; rfl) rfl h.2
 grind
theorem AMt {E:Env} {L:A3} {ρ:Nat->AV} {s:AL} {o:Oper} {op:BinOp} {t:TypeId} {x y:Operand} {c:TypeId} {K:AV->Prop} (ho:o.op=.binOp op t x y c) (ht:E.P.underlying t=some .string)
  (h:GD op (Ad ρ x) (Ad ρ y) K):∃v,CS E L ρ s o=some (v,s)/\K v:=by
 unfold GD at h;split at h
 .rename_i a b hx hy
  have hk:C7 E.P t=none:=by simp[C7,ht]
  have go:∀v,quick E.P (Op.stringOp op a b)=some v->Lr v=.pv (.sc v)->K (.pv (.sc v))->∃v,CS E L ρ s o=some (v,s)/\K v:=λv h1 h2 h3=>
   ⟨_,jI ho hx hy hk (λ_ _=>qf) (by simpa[binOp] using h1) h2,h3⟩
  cases op <;> first
   | grind
   | exact go _ (by simp only[Op.stringOp,Go.ByteArray.toList_eq]; rfl) rfl h
   | skip
  obtain⟨h1,h2⟩:=h;have e:(a++b)=(⟨(a.data.toList++b.data.toList).toArray⟩:ByteArray):=by rfl
  refine go (.string (a++b)) ?_ rfl (by grind)
  have hl:¬ ((a.size+b.size:Nat):Int)>IntKind.i64.max:=by
   have h3:a.size=a.data.toList.length:=(G8 (xs:=a.data)).symm;have h4:b.size=b.data.toList.length:=(G8 (xs:=b.data)).symm;have h5:IntKind.i64.max=9223372036854775807:=by rfl
   omega
  simp only[Op.stringOp,if_neg hl];rfl
 grind
theorem AEM {E:Env} {L:A3} {ρ:Nat->AV} {s:AL} {o:Oper} {op:BinOp} {t:TypeId} {x y:Operand} {c:TypeId} {K:AV->Prop} (ho:o.op=.binOp op t x y c) (ht:E.P.underlying t=some .bool)
  (h:ABs op (Ad ρ x) (Ad ρ y) K):∃v,CS E L ρ s o=some (v,s)/\K v:=by
 unfold ABs at h;split at h
 .rename_i a b hx hy
  have hk:C7 E.P t=none:=by simp[C7,ht]
  have hq:quick E.P (Op.equal t (.bool a) (.bool b))=some (a==b):=by
   unfold Op.equal;obtain⟨m,hm⟩:∃m,Op.maxDepth=m+1:=⟨9999,rfl⟩;rw[hm];unfold Op.equalIn;have hu:quick E.P (underlying t)=some .bool:=I4 ht;exact Cc hu rfl
  have go:∀v,quick E.P (binOp op t (.bool a) (.bool b))=some v->Lr v=.pv (.sc v)->K (.pv (.sc v))->∃v,CS E L ρ s o=some (v,s)/\K v:=λv h1 h2 h3=>
   ⟨_,jI ho hx hy hk (λ_ _=>jJ) h1 h2,h3⟩
  cases op <;> first
   | grind
   | exact go _ (Cc hq rfl) rfl h
 grind
theorem XL {ρ:Nat->AV} {x:Operand} {k:Nat} (hx:∀a b c,x≠.const (.slice a b c)) (h:RQ (Ad ρ x)=some k):Fc ρ x=some k:=by grind[RQ,Fc]
theorem jK {a:Option Addr} {b c:Nat}:RQ (ofConst (.slice a b c))=none:=by
 show RQ (HU (.slice a b c))=none
 unfold HU;split
 .rfl
 rfl
theorem nU {lk:Lk} {ρ:Nat->AV} (hA:HN lk ρ) {x:Operand} {k:Nat} (h:ZN lk x=some k):Fc ρ x=some k:=by
 cases x with
 | const v=>
  by_cases hz:v=.slice none 0 0
  .subst hz
   exact h
  .have h:RQ (ofConst v)=some k:=by grind
   by_cases hs:∃a b c,v=.slice a b c
   .grind[jK]
   .exact XL (λa b c e=>hs ⟨a,b,c,by grind⟩) h
 | tmp t=>
  grind[XL,Bw]
 | global g=>grind
 | func f=>grind
theorem ABv {E:Env} {L:A3} {lk:Lk} {ρ:Nat->AV} (hA:HN lk ρ) {s:AL} {o:Oper} {op:BinOp} {t:TypeId} {x y:Operand} {c:TypeId} {K:AV->Prop} (ho:o.op=.binOp op t x y c)
  (h:wM s (C7 E.P t) (ZN lk x) (ZN lk y) op (Ad ρ x) (Ad ρ y) K):∃v,CS E L ρ s o=some (v,s)/\K v:=by
 obtain⟨dst,op',type,pos,after,guard⟩:=o;simp only at ho;subst ho;obtain⟨h1,h2⟩:=h
 have hs:(sameKind (C7 E.P t) (D4 s (Ad ρ x)) (Fc ρ y)||sameKind (C7 E.P t) (Fc ρ x) (D4 s (Ad ρ y)))=true:=by
  simp only[Di] at h1 ⊢;rcases h1 with h1|h1
  .left
   obtain⟨k,e1,e2,e3⟩:=Ep h1;rw[nU hA e3,e1,e2];simp[sameKind]
  .right
   obtain⟨k,e1,e2,e3⟩:=Ep h1;rw[nU hA e2,e1,e3];simp[sameKind]
 have hf:Ij op (Ad ρ x) (Ad ρ y)=none:=by
  simp only[Di] at hs;rcases hs with hs|hs
  .obtain⟨k,e1,e2,e3⟩:=Ep hs
   cases hx:Ad ρ x <;> simp[hx,D4,rowsOf] at e2 ⊢ <;> try rfl
   rename_i p;cases p with
   | sc v=>simp[rowsOf] at e2
   | list rows=>rfl
  .obtain⟨k,e1,e2,e3⟩:=Ep hs
   cases hy:Ad ρ y <;> simp[hy,D4,rowsOf] at e3
   all_goals
    unfold Ij
    grind
 grind[CS,IJ]
theorem XM {v:AV} (h:Tt v=true):v=.pv (.sc (.pointer none)):=by grind[Tt]
theorem jL {P:Program} {t e:TypeId} {x y:Operand} (ht:P.underlying t=some (.pointer e)) :
  quick P (do eqGuard .eql t x y (.pointer none) (.pointer none); binOp .eql t (.pointer none) (.pointer none))=some (.bool true)/\quick P (do eqGuard .neq t x y (.pointer none) (.pointer none); binOp .neq t (.pointer none) (.pointer none))=some (.bool false):=by
 have he:quick P (Op.equal t (.pointer none) (.pointer none))=some true:=by
  show quick P (Op.equalIn (9999+1) t (.pointer none) (.pointer none))=some true
  unfold Op.equalIn;exact Cc (I4 ht) rfl
 constructor
 .refine Cc (a:=()) rfl ?_
  exact Cc he rfl
 .refine Cc (a:=()) rfl ?_
  exact Cc he rfl
theorem AMu {E:Env} {L:A3} {lk:Lk} {ρ:Nat->AV} (hA:HN lk ρ) {s:AL} {o:Oper} {op:BinOp} {t e:TypeId} {x y:Operand} {c:TypeId} {K:AV->Prop} (ho:o.op=.binOp op t x y c) (ht:E.P.underlying t=some (.pointer e))
  (h:bO s (ZN lk x) (ZN lk y) op (Ad ρ x) (Ad ρ y) K):∃v,CS E L ρ s o=some (v,s)/\K v:=by
 unfold bO at h;split at h
 .rename_i hb
  simp only[AG] at hb;have hx:=XM hb.1;have hy:=XM hb.2;obtain⟨q1,q2⟩:=jL (x:=x) (y:=y) ht;have hf:Ij op (Ad ρ x) (Ad ρ y)=none:=by rw[hx,hy]; rfl
  have hn:IJ E.P s ρ op t x y=none:=by grind[IJ,D4,sameKind,rowsOf]
  have h1:Ej ρ o.op.operands.toList=true:=by
   have e:o.op.operands.toList=[x,y]:=by rw[ho]; rfl
   grind[Ej,GN]
  have key:∀(v:Bool),quick E.P (do eqGuard op t x y (.pointer none) (.pointer none); binOp op t (.pointer none) (.pointer none))=some (.bool v)->CS E L ρ s o=some (.pv (.sc (.bool v)),s):=by
   intro v hq
   have h2:Cy E ρ o=some (.pv (.sc (.bool v))):=by
    have:quick E.P (execOp (λz=>(GN (Ad ρ z)).getD undef) o)=some (.value (.bool v)):=by
     unfold execOp;rw[ho];simp only[hx,hy,GN,Ic];exact Cc hq rfl
    simp only[Cy,h1,F2,this];rfl
   grind[CS]
  grind
 .have hk:C7 E.P t=some 0:=by grind[C7]
  rw[<-hk] at h;exact ABv hA ho h
theorem M0 {P:Program} {t:TypeId} {e:TypeId×TypeInfo×List AV} (h:XK P t=some e):P.underlying t=some (.slice e.1)/\P.info? e.1=some e.2.1/\zeroOf P e.1=some e.2.2:=by grind
theorem AEN {lk:Lk} {ρ:Nat->AV} (hA:HN lk ρ) {x:Option Operand} {v:Option AV} (h:AEL lk x=some v):x.map (Ad ρ)=v:=by grind[Bw]
theorem AMv {P:Program} {s:AL} {t e:TypeId} {k:Nat} {x:AV} {lo hi mx:Option AV} {K:AV->Prop} (ht:P.underlying t=some (.slice e)) (hk:Dk P e=some k):YG s k x lo hi mx K ->
  ∃v,PZ P s t x lo hi mx=some v/\K v:=by
 unfold PZ;simp only[ht,hk];intro h;cases x with
 | ref id off len sz=>
  obtain⟨l,h',h1,h2,h3⟩:=h
  grind
 | pv p=>
  obtain⟨rows,hr,h⟩:=A2 h
  grind
 | AA p=>
  obtain⟨l,h',h1,h2,h3,h4⟩:=h
  grind[rowsOf]
 | own t p=>
  obtain⟨l,h',h1,h2,h3,h4⟩:=h
  grind[rowsOf]
 | _=>exact h.elim
theorem AMw {P:Program} {L:A3} {s:AL} {t:TypeId} {e:TypeId×TypeInfo×List AV} {x y:AV} {K:AV->AL->Prop} (he:XK P t=some e) (hz:e.2.2.length=e.2.1.size/\e.2.1.size≠0)
  (h:Cx (L.mu e.1) L s e.1 e.2.1.size e.2.1.bytes x y K):∃v s',Ii P L s t x y=some (v,s')/\K v s':=by
 obtain⟨e1,e2,e3⟩:=M0 he;unfold Ii;simp only[e1,e2,e3,Ma];rw[if_pos ⟨by grind,hz.2⟩];obtain⟨new,h1,h⟩:=A2 h;simp only[h1];cases new with
 | nil=>
  grind
 | cons c cs=>
  grind
theorem JZ {E:Env} {L:A3} {lk:Lk} {ρ:Nat->AV} {s:AL} {o:Oper} {K:AV->AL->Prop} (hA:HN lk ρ) (h:VY E L lk s o K):∃v s',CS E L ρ s o=some (v,s')/\K v s':=by
 obtain⟨v,s',h1,h2⟩:=h
 grind
theorem AEO {P:Program} {a b:TypeId} {k k1 k2:IntKind} {n:Int} (ha:P.underlying a=some (.int k1)) (hb:P.underlying b=some (.int k)):quick P (convert a b (.int k2 n))=some (.int k (k.wrap n)):=by
 unfold convert;have h1:quick P (underlying a)=some (.int k1):=I4 ha;have h2:quick P (underlying b)=some (.int k):=I4 hb;exact Cc h1 (Cc h2 rfl)
theorem Um {P:Program} {kt:TypeId} {d:TypeDesc} {key:Value} {es:List MapEntry} {r:Option (Nat×Value)} (hd:P.underlying kt=some d) (h:findD d key es=some r):SQ P kt key es=some r:=by
 unfold findD at h;unfold SQ
 grind
theorem dZ {P:Program} {t:TypeId} {d:TypeDesc×Option AV} (h:AMr P t=some d):∃kt e,P.underlying t=some (.map kt e)/\P.underlying kt=some d.1/\∀z,d.2=some z->∃i v,P.info? e=some i/\i.zero=some v/\z=ofConst v:=by grind
theorem XN {E:Env} {L:A3} {lk:Lk} {ρ:Nat->AV} {s:AL} {o:Oper} {K:AV->AL->Prop} (hA:HN lk ρ) (h:wOp E L lk s o K):∃v s',CS E L ρ s o=some (v,s')/\K v s':=by
 obtain⟨dst,op,type,pos,after,guard⟩:=o;cases op with
 | move x=>
  grind[CS,Bw]
 | assign x=>
  grind[CS,Bw]
 | pick c a b=>
  obtain⟨cv,h1,h⟩:=A2 h;obtain⟨av,h2,h⟩:=A2 h;obtain⟨bv,h3,h⟩:=A2 h;unfold A8 at h
  grind[CS,Bw]
 | alloc t=>
  obtain⟨z,h1,h2⟩:=A2 h;exact⟨_,_,by simp only[CS,h1]; rfl,h2⟩
 | box t x=>
  obtain⟨a,h1,h⟩:=A2 h;cases hb:E.bz t with
  | true=>
   rw[hb] at h;obtain⟨h2,h3⟩:=h;exact⟨_,_,by simp only[CS,Bw hA h1,if_pos h2,M8,hb,AN]; rfl,h3⟩
  | false=>
   rw[hb] at h;obtain⟨h2,h3⟩:=h;exact⟨_,_,by simp only[CS,Bw hA h1,if_pos h2,M8,hb,AH]; rfl,h3⟩
 | build t parts=>
  obtain⟨z,h1,h⟩:=A2 h;obtain⟨pl,h2,h⟩:=A2 h;obtain⟨ps,h3,h⟩:=A2 h;obtain⟨cs,h4,h5⟩:=A2 h
  grind[Ul,SM,CS]
 | buildSlice t len parts=>
  obtain⟨e,h1,h⟩:=A2 h;obtain⟨ps,h2,hz,h⟩:=A2 h;obtain⟨cs,h3,h⟩:=A2 h;obtain⟨e1,e2,e3⟩:=M0 h1;have hf:=Ul hA (cells:=Fg len e.2.2) h2;rw[h3] at hf
  have:∀v s',(bif L.mu e.1&&Nat.blt 0 len then some (AV.ref s.bs.length 0 len e.2.1.size,{ s with bs:=s.bs++[cs] })
     else match Co cs with
     | some ps=>some (.AA (CR e.2.1.size len ps),s)
     | none=>none)=some (v,s')->CS E L ρ s ⟨dst,.buildSlice t len parts,type,pos,after,guard⟩=some (v,s'):=by grind[CS,Gm,Dk]
  grind
 | load t a=>
  grind[AIa,CS,Bw]
 | store t a x=>
  obtain⟨av,h1,h⟩:=A2 h;obtain⟨xv,h2,h⟩:=A2 h;obtain⟨k,h3,h⟩:=A2 h;obtain⟨i,h4,rfl⟩:=E6 h3;unfold Ci at h;split at h
  .obtain⟨cs,h5,h6,h7⟩:=A2 h
   refine⟨_,_,?_,h7⟩;simp only[CS,Bw hA h1,Bw hA h2,NQ,h4,Qn,h5,if_pos h6]
  grind
 | nilCheck x=>
  obtain⟨a,h1,h⟩:=A2 h
  have:∃v,KM s a=some v/\K v s:=by
   unfold Cz at h
   grind[KM]
  grind[CS,Bw]
 | fieldAddr t x f=>
  obtain⟨a,h1,h⟩:=A2 h;obtain⟨fd,h2,h⟩:=A2 h;obtain⟨k,h3,h⟩:=A2 h;cases k with
  | zero=>grind
  | succ k=>
   simp only at h;have:∃v,HV E.P s t a f=some v/\K v s:=by grind[HV,Ax]
   grind[CS,Bw]
 | field t x f=>
  obtain⟨a,h1,h⟩:=A2 h;obtain⟨fd,h2,h⟩:=A2 h;obtain⟨k,h3,h⟩:=A2 h;unfold AT3 at h;split at h
  .rename_i cs
   obtain⟨v,h4,h5⟩:=nT h3 h;refine⟨v,s,?_,h5⟩;unfold AMp at h2;split at h2
   .rename_i fields hu
    simp only[CS,Bw hA h1,SN,hu,h2,h4]
   grind
  grind
 | indexAddr t x i=>
  obtain⟨a,h1,h⟩:=A2 h;obtain⟨b,h2,h⟩:=A2 h;split at h
  .rename_i e ht
   obtain⟨k,h3,h⟩:=A2 h
   have:∃v,HW E.P s t a b=some v/\K v s:=by
    unfold HW;unfold Bj at h
    grind[Xg,rowsOf]
   grind[CS,Bw]
  grind[JZ]
 | extract x i=>
  obtain⟨a,h1,h⟩:=A2 h;unfold DF at h
  grind[CS,Bw,Lt]
 | makeFunc fn first captured=>
  grind[CS,ZM]
 | makeInterface t x=>
  grind[CS,Bw]
 | slice t x lo hi mx=>
  simp only[wOp] at h;split at h
  .rename_i e ht
   obtain⟨k,h1,h⟩:=A2 h;obtain⟨a,h2,h⟩:=A2 h;obtain⟨l,h3,h⟩:=A2 h;obtain⟨hh,h4,h⟩:=A2 h;obtain⟨m,h5,h⟩:=A2 h;obtain⟨v,h6,h7⟩:=AMv ht h1 h
   grind[CS,Bw,AEN]
  grind[JZ]
 | call c=>
  obtain⟨callee,args,ts⟩:=c;cases callee with
  | builtin b=>
   cases b with
   | len=>
    simp only[wOp] at h;split at h
    .rename_i x t hx ht
     obtain⟨a,h1,h⟩:=A2 h;split at h
     .rename_i hu
      unfold Gx at h
      grind[CS,Bw,Mf]
     .rename_i e hu
      obtain⟨n,h2,h3⟩:=A2 h;refine⟨_,s,?_,h3⟩
      have hf:Mf E.P t a=none:=by
       unfold Mf
       grind
      grind[CS,Bw]
     grind[JZ]
    grind
   | append=>
    simp only[wOp] at h;split at h
    .rename_i x y t u us hx ht
     split at h
     .grind
     .rename_i d hne hd
      obtain⟨a,h1,h⟩:=A2 h;obtain⟨b,h2,h⟩:=A2 h;obtain⟨e,h3,h4,h5⟩:=A2 h
      grind[AMw,CS,Bw]
     grind
    grind
   | _=>grind[JZ]
  | _=>grind[JZ]
 | binOp op t x y c=>
  obtain⟨a,h1,h⟩:=A2 h;obtain⟨b,h2,h⟩:=A2 h;have Zn:=Bw hA h1;have h2':=Bw hA h2;subst Zn h2';split at h
  .rename_i k ht
   obtain⟨v,h3,h4⟩:=AMs (L:=L) (s:=s) (o:=⟨dst,.binOp op t x y c,type,pos,after,guard⟩) rfl ht h
   grind
  .rename_i ht
   obtain⟨v,h3,h4⟩:=AMt (L:=L) (s:=s) (o:=⟨dst,.binOp op t x y c,type,pos,after,guard⟩) rfl ht h
   grind
  .rename_i ht
   obtain⟨v,h3,h4⟩:=AEM (L:=L) (s:=s) (o:=⟨dst,.binOp op t x y c,type,pos,after,guard⟩) rfl ht h
   grind
  .grind[JZ]
  .rename_i ht
   obtain⟨v,h3,h4⟩:=AMu (L:=L) hA (o:=⟨dst,.binOp op t x y c,type,pos,after,guard⟩) rfl ht h
   grind
  .obtain⟨v,h3,h4⟩:=ABv (L:=L) hA (o:=⟨dst,.binOp op t x y c,type,pos,after,guard⟩) rfl h
   grind
 | makeMap t r=>
  cases r with
  | none=>exact⟨_,_,rfl,h⟩
  | some r=>grind[JZ]
 | lookup t m k ok=>
  obtain⟨d,h1,h⟩:=A2 h;obtain⟨z,h2,h⟩:=A2 h;obtain⟨mv,h3,h⟩:=A2 h;obtain⟨kv,h4,h⟩:=A2 h;obtain⟨e,h5,h⟩:=A2 h;obtain⟨key,h6,h⟩:=A2 h;obtain⟨r,h7,h⟩:=A2 h;obtain⟨kt,el,e1,e2,e3⟩:=dZ h1;obtain⟨i,v,e4,e5,e6⟩:=e3 z h2;obtain⟨es,clock⟩:=e;cases r with
  | none=>
   grind[CS,Bw,OQ,Um]
  | some p=>
   grind[CS,Bw,OQ,Um]
 | insert t m k x=>
  obtain⟨d,h1,h⟩:=A2 h;obtain⟨mv,h3,h⟩:=A2 h;obtain⟨kv,h4,h⟩:=A2 h;obtain⟨xv,h2,h⟩:=A2 h;obtain⟨e,h5,h⟩:=A2 h;obtain⟨key,h6,h⟩:=A2 h;obtain⟨v,h7,h8,h⟩:=A2 h;obtain⟨kt,el,e1,e2,e3⟩:=dZ h1;obtain⟨es,clock⟩:=e;cases mv with
  | FL id=>
   grind[Nat.ble_eq_true_of_le,CS,Bw,LA,Um,NR]
  | _=>grind
 | unOp op t x=>
  simp only[wOp] at h;split at h
  .obtain⟨a,h1,h⟩:=A2 h
   unfold Dv at h
   grind[CS,Bw,Xk]
  grind[JZ]
 | index t x i=>
  simp only[wOp] at h;split at h
  .rename_i ht
   obtain⟨a,h1,h⟩:=A2 h;obtain⟨b,h2,h⟩:=A2 h;unfold MD at h
   grind[CS,Bw,Me]
  grind[JZ]
 | makeSlice t l c=>
  grind[CS,Bw]
 | convert a b x=>
  simp only[wOp] at h;split at h
  .rename_i k1 k ha hb
   obtain⟨v,h1,h⟩:=A2 h;unfold MP at h;split at h
   .rename_i k2 n
    refine⟨_,s,?_,h⟩
    have hq:Cy E ρ ⟨dst,.convert a b x,type,pos,after,guard⟩=some (.pv (.sc (.int k (k.wrap n)))):=by
     unfold Cy;have hall:Ej ρ (Op.operands (.convert a b x)).toList=true:=by grind[Ej,Op.operands,Bw,GN]
     rw[if_pos hall]
     have:quick E.P (execOp (λz=>(GN (Ad ρ z)).getD undef) ⟨dst,.convert a b x,type,pos,after,guard⟩)=some (.value (.int k (k.wrap n))):=by
      simp only[execOp,Bw hA h1,GN,Ic];exact Cc (AEO ha hb) rfl
     rw[this];rfl
    grind[CS]
   grind
  .rename_i e ha hb
   split at h
   .rename_i he
    obtain⟨v,h1,h⟩:=A2 h;unfold ABt at h
    grind[CS,Bw]
   grind
  .rename_i e ha hb
   split at h
   all_goals grind[CS,Bw]
  grind[JZ]
 | _=>grind[JZ]
end Go.Tel
