/-
  Arguments that are not known: what a single operation needs so that it answers as wanted.
-/
import Derived.Test.YtpgfpakdnijngaaGreatDoorEvI
set_option linter.all false
namespace Go.Tel
abbrev Lk:=Nat->Option AV
abbrev AG (n:Int):AV:=.pv (.sc (.int .i64 n))
abbrev BB (b:Bool):AV:=.pv (.sc (.bool b))
abbrev SS (l:List UInt8):AV:=.pv (.sc (.string ⟨l.toArray⟩))
def BG (E:Env) (L:BI) (f:FuncId) (args:List AV) (s:AQ) (v:AV) (s':AQ):Prop:=
 ∃n,∀m,n<=m->Dw E m L f args s=some (v,s')
def Hs (lk:Lk) (U:Nat->AV):Prop:=∀t v,lk t=some v->U t=v
abbrev wO {α:Type} (x:Option α) (K:α->Prop):Prop:=match x with
 | some a=>K a
 | none=>False
theorem BW {α:Type} {x:Option α} {K:α->Prop} (h:wO x K):∃a,x=some a/\K a:=AB
abbrev I8 (lk:Lk):Operand->Option AV
 | .tmp t=>lk t
 | .const v=>some (ofConst v)
 | .global g=>some (.Dt g 0)
 | .func f=>some (.func (.func f) [] [])
theorem CW {lk:Lk} {U:Nat->AV} (hA:Hs lk U) {x:Operand} {v:AV} (h:I8 lk x=some v):Am U x=v:=by
 cases x with
 | tmp t=>exact hA t v h
 | const u=>grind[Am]
 | global g=>grind[Am]
 | func f=>grind[Am]
abbrev s7 (lk:Lk):List Operand->Option (List AV)
 | []=>some []
 | x::xs=>match I8 lk x,s7 lk xs with
  | some a,some as=>some (a::as)
  | _,_=>none
theorem bQ {lk:Lk} {U:Nat->AV} (hA:Hs lk U):∀{xs:List Operand} {vs:List AV},s7 lk xs=some vs->xs.map (Am U)=vs
 | [],vs,h=>by grind
 | x::xs,vs,h=>by
  simp only[s7] at h;split at h
  .rename_i a as h1 h2
   simp at h; subst h;simp[CW hA h1,bQ hA h2]
  grind
abbrev s8 (lk:Lk) (place:Nat->Option (Nat×Nat)):List (Nat×Operand)->Option (List (Nat×Nat×AV))
 | []=>some []
 | (i,x)::xs=>match place i,I8 lk x,s8 lk place xs with
  | some (off,size),some a,some as=>some ((off,size,a)::as)
  | _,_,_=>none
def Ew (cells:List AV):List (Nat×Nat×AV)->Option (List AV)
 | []=>some cells
 | (off,size,v)::rest=>if (cellsOf v).length=size/\off+size<=cells.length/\(cellsOf v).all A7=true then Ew (setCells cells off (cellsOf v)) rest else none
theorem WG {lk:Lk} {U:Nat->AV} (hA:Hs lk U) {place:Nat->Option (Nat×Nat)}:∀{parts:List (Nat×Operand)} {ps:List (Nat×Nat×AV)} {cells:List AV},s8 lk place parts=some ps ->
  MO place cells (parts.map λp=>(p.1,Am U p.2))=Ew cells ps
 | [],ps,cells,h=>by
  simp[s8] at h; subst h;rfl
 | (i,x)::parts,ps,cells,h=>by
  simp only[s8] at h;split at h
  .rename_i off size a as h1 h2 h3
   simp at h; subst h;simp only[CP,MO,h1,CW hA h2,Ew];split
   .exact WG hA h3
   rfl
  grind
def Hi (c a b:AV) (K:AV->Prop):Prop:=match c with
 | .pv (.sc (.bool t))=>K (bif t then a else b)
 | _=>False
def IJ (s:AQ) (cs:List AV) (K:AV->AQ->Prop):Prop:=K (.ptr s.bs.length 0) ⟨s.bs++[cs],s.ts⟩
def Mx (s:AQ) (x:AV) (K:AV->AQ->Prop):Prop:=(cellsOf x).all A7=true/\IJ s (cellsOf x) K
def Kh (id:Nat) (t:TypeId):List AV->List AV
 | .pv (.sc (.pointer none))::r=>.bz id t (r.length+1)::r
 | z=>z
def Jw (s:AQ) (t:TypeId) (x:AV) (K:AV->AQ->Prop):Prop:=(cellsOf x).all A7=true/\IJ s (Kh s.bs.length t (cellsOf x)) K
def Fk (z:List AV) (ps:List (Nat×Nat×AV)) (K:AV->Prop):Prop:=wO (Ew z ps) λcs=>K (.agg cs)
def GY (mu:Bool) (s:AQ) (k:Nat) (z:List AV) (len:Nat) (ps:List (Nat×Nat×AV)) (K:AV->AQ->Prop):Prop:=
 (len*k<=2 ^ 24/\z.length=k/\k≠0)/\wO (Ew (Fx len z) ps) λcs=>
  bif mu&&Nat.blt 0 len then K (.ref s.bs.length 0 len k) ⟨s.bs++[cs],s.ts⟩ else wO (CD cs) λps=>K (.AE (CJ k len ps)) s
def DQ (k:Option Nat) (cs:List AV) (off:Nat) (K:AV->Prop):Prop:=match k with
 | some k=>off+k<=cs.length/\K (.agg ((cs.drop off).take k))
 | none=>wO cs[off]? K
def Df (E:Env) (s:AQ) (k:Option Nat) (x:AV) (K:AV->Prop):Prop:=match x with
 | .ptr id off=>wO s.bs[id]? λcs=>DQ k cs off K
 | .Dt g off=>wO (E.G g) λrow=>DQ k (row.map .pv) off K
 | .Ct row off=>DQ k (row.map .pv) off K
 | _=>False
def HM (L:BI) (s:AQ) (k:Nat) (a x:AV) (K:AQ->Prop):Prop:=match a with
 | .ptr id off=>wO s.bs[id]? λcs=>((cellsOf x).length=k/\off+(cellsOf x).length<=cs.length/\L.ro<=id/\(cellsOf x).all A7=true/\(L.n0<=id\/I2 (cellsOf x)=true)/\k≠0)/\K ⟨s.bs.set id (setCells cs off (cellsOf x)),s.ts⟩
 | _=>False
def JV (s:AQ) (x:AV) (K:AV->Prop):Prop:=match x with
 | .ptr id off=>alive s id=true/\K (.ptr id off)
 | .Dt g off=>K (.Dt g off)
 | .Ct r off=>K (.Ct r off)
 | .func (.func f) a b=>K (.func (.func f) a b)
 | _=>False
def DY (s:AQ) (x:AV) (d:Nat) (K:AV->Prop):Prop:=match x with
 | .ptr id off=>alive s id=true/\K (.ptr id (off+d))
 | .Dt g off=>K (.Dt g (off+d))
 | .Ct r off=>K (.Ct r (off+d))
 | _=>False
def zq (k:Option Nat) (x:AV) (off:Nat) (K:AV->Prop):Prop:=match x with
 | .agg cs=>DQ k cs off K
 | _=>False
def ND (s:AQ) (k:Nat) (x ix:AV) (K:AV->Prop):Prop:=match ix with
 | .pv (.sc (.int _ i))=>match x with
  | .ref id off len sz=>(0<=i/\i<len/\sz=k/\alive s id=true)/\K (.ptr id (off+i.toNat*k))
  | x=>wO (rowsOf x) λrows=>0<=i/\∃row,rows[i.toNat]?=some row/\row.length=k/\k≠0/\K (.Ct row 0)
 | _=>False
def JU (x:AV) (i:Nat) (K:AV->Prop):Prop:=match x with
 | .tuple vs=>wO vs[i]? K
 | _=>False
def Gk (s:AQ) (x:AV) (K:AV->Prop):Prop:=wO (BD s x) λn=>K (AG n)
def Ip (x:AV) (K:AV->Prop):Prop:=match x with
 | .pv (.sc (.string b))=>K (AG b.data.toList.length)
 | _=>False
def Xc (x i:AV) (K:AV->Prop):Prop:=match x,i with
 | .pv (.sc (.string b)),.pv (.sc (.int _ n))=>0<=n/\∃c,b.data.toList[n.toNat]?=some c/\K (.pv (.sc (.int .u8 c.toNat)))
 | _,_=>False
def jK (k:IntKind) (n:Int) (K:AV->Prop):Prop:=K (.pv (.sc (.int k (k.wrap n))))
def DI (k:IntKind) (op:BinOp) (x y:AV) (K:AV->Prop):Prop:=match x,y with
 | .pv (.sc (.int k1 a)),.pv (.sc (.int k2 b))=>(k1=k/\k2=k)/\match op with
  | .add=>jK k (a+b) K
  | .sub=>jK k (a-b) K
  | .mul=>jK k (a*b) K
  | .quo=>b≠0/\jK k (a.tdiv b) K
  | .rem=>b≠0/\K (.pv (.sc (.int k (a.tmod b))))
  | .eql=>K (BB (a==b))
  | .neq=>K (BB (a != b))
  | .lss=>K (BB (a<b))
  | .leq=>K (BB (a<=b))
  | .gtr=>K (BB (a>b))
  | .geq=>K (BB (a>=b))
  | .shr=>0<=b/\K (.pv (.sc (.int k (a.fdiv (2 ^ (min b.toNat k.bits))))))
  | _=>False
 | _,_=>False
def KQ (op:BinOp) (x y:AV) (K:AV->Prop):Prop:=match x,y with
 | .pv (.sc (.string a)),.pv (.sc (.string b))=>match op with
  | .add=>a.data.toList.length+b.data.toList.length<2 ^ 63/\K (.pv (.sc (.string ⟨(a.data.toList++b.data.toList).toArray⟩)))
  | .eql=>K (BB (a.data.toList==b.data.toList))
  | .neq=>K (BB (!(a.data.toList==b.data.toList)))
  | .lss=>K (BB (Op.bytesLess a.data.toList b.data.toList))
  | .leq=>K (BB (Op.bytesLess a.data.toList b.data.toList||(a.data.toList==b.data.toList)))
  | .gtr=>K (BB (!(Op.bytesLess a.data.toList b.data.toList||(a.data.toList==b.data.toList))))
  | .geq=>K (BB (!(Op.bytesLess a.data.toList b.data.toList)))
  | _=>False
 | _,_=>False
def gJ (op:BinOp) (x y:AV) (K:AV->Prop):Prop:=match x,y with
 | .pv (.sc (.bool a)),.pv (.sc (.bool b))=>match op with
  | .eql=>K (BB (a==b))
  | .neq=>K (BB (!(a==b)))
  | _=>False
 | _,_=>False
def L2 (x:AV) (K:AV->Prop):Prop:=match x with
 | .pv (.sc (.bool b))=>K (BB (!b))
 | _=>False
def U7:AV->Option Nat
 | .pv (.sc (.pointer none))=>some 0
 | .pv (.sc .nilFunc)=>some 2
 | .pv (.sc .nilIface)=>some 3
 | _=>none
abbrev XD (lk:Lk):Operand->Option Nat
 | .const v=>match v with
  | .slice none 0 0=>some 1
  | v=>U7 (ofConst v)
 | .tmp t=>match lk t with
  | some v=>U7 v
  | none=>none
 | _=>none
def xN (s:AQ) (k:Option Nat) (n m:Option Nat) (op:BinOp) (x y:AV) (K:AV->Prop):Prop:=
 (sameKind k (EI s x) m||sameKind k n (EI s y))=true/\match op with
  | .eql=>K (BB false)
  | .neq=>K (BB true)
  | _=>False
def U8:AV->Bool
 | .pv (.sc (.pointer none))=>true
 | _=>false
def eC (s:AQ) (n m:Option Nat) (op:BinOp) (x y:AV) (K:AV->Prop):Prop:=match U8 x&&U8 y with
 | true=>match op with
  | .eql=>K (BB true)
  | .neq=>K (BB false)
  | _=>False
 | false=>xN s (some 0) n m op x y K
def HB (mu:Bool) (L:BI) (s:AQ) (e:TypeId) (k bytes:Nat) (x y:AV) (K:AV->AQ->Prop):Prop:=
 wO (Cz s k y) λnew=>match new with
  | []=>match x with
   | .ref id _ _ _=>alive s id=true/\K x s
   | x=>wO (rowsOf x) λ_=>K x s
  | c::cs=>((c::cs).all A7=true)/\match x with
   | .ref id off len sz=>wO s.bs[id]? λold=>(off=0/\sz=k/\len*sz<=old.length/\alive s id=true/\(len+(c::cs).length / k)*bytes<=2 ^ 45/\len+(c::cs).length / k<=2 ^ 45/\L.ro<=id) /\
     K (.ref s.bs.length 0 (len+(c::cs).length / k) sz) ⟨s.bs.set id []++[old.take (len*sz)++(c::cs)],s.ts⟩
   | .AE rows=>((rows.length+(c::cs).length / k)*bytes<=2 ^ 45/\rows.length+(c::cs).length / k<=2 ^ 45/\(rows.all λr=>r.length==k)=true) /\
     bif mu then K (.ref s.bs.length 0 (rows.length+(c::cs).length / k) k) ⟨s.bs++[rows.flatten.map .pv++(c::cs)],s.ts⟩
     else wO (CD (c::cs)) λps=>K (.own s.ts.length (rows++CJ k ((c::cs).length / k) ps)) ⟨s.bs,s.ts++[(rows.length+(c::cs).length / k,e)]⟩
   | .own t rows=>((rows.length+(c::cs).length / k)*bytes<=2 ^ 45/\rows.length+(c::cs).length / k<=2 ^ 45/\s.ts[t]?=some (rows.length,e)/\L.rt<=t/\(rows.all λr=>r.length==k)=true) /\
     wO (CD (c::cs)) λps=>K (.own t (rows++CJ k ((c::cs).length / k) ps)) ⟨s.bs,s.ts.set t (rows.length+(c::cs).length / k,e)⟩
   | _=>False
def AQY (L:BI) (s:AQ) (e:TypeId) (k bytes:Nat) (x v:AV) (K:AV->AQ->Prop):Prop:=
 (cellsOf v).all A7=true/\wO (CD (cellsOf v)) λrow=>row.length=k/\match x with
  | .AE rows=>((rows.length+1)*bytes<=2 ^ 45/\rows.length+1<=2 ^ 45/\(rows.all λr=>r.length==k)=true)/\K (.own s.ts.length (rows++[row])) ⟨s.bs,s.ts++[(rows.length+1,e)]⟩
  | .own t rows=>((rows.length+1)*bytes<=2 ^ 45/\rows.length+1<=2 ^ 45/\s.ts[t]?=some (rows.length,e)/\L.rt<=t/\(rows.all λr=>r.length==k)=true)/\K (.own t (rows++[row])) ⟨s.bs,s.ts.set t (rows.length+1,e)⟩
  | _=>False
def rJ (s:AQ) (k:Nat) (x:AV) (lo hi mx:Option AV) (K:AV->Prop):Prop:=match x with
 | .ref id off len sz=>∃l h,Fz 0 lo=some l/\Fz len hi=some h/\match mx with
  | none=>(l<=h/\h<=len/\sz=k/\k≠0/\alive s id=true)/\K (if l=h then .pv (.list []) else .ref id (off+l*k) (h-l) sz)
  | some m=>(l=h/\h<=len/\He m=some h/\hi.isSome=true/\alive s id=true)/\K (.AE [])
 | x=>wO (rowsOf x) λrows=>∃l h,Fz 0 lo=some l/\Fz rows.length hi=some h/\(l<=h/\h<=rows.length/\(rows.all λr=>r.length==k)=true)/\match mx with
  | none=>K (.pv (.list ((rows.take h).drop l)))
  | some m=>(He m=some h/\hi.isSome=true)/\K (.AE ((rows.take h).drop l))
def Ou (k:IntKind) (x:AV) (K:AV->Prop):Prop:=match x with
 | .pv (.sc (.int _ n))=>K (.pv (.sc (.int k (k.wrap n))))
 | _=>False
def XE (E:Env) (L:BI) (lk:Lk) (s:AQ) (o:Oper) (K:AV->AQ->Prop):Prop:=
 ∃v s',(∀U,Hs lk U->Cl E L U s o=some (v,s'))/\K v s'
def D0 (E:Env) (L:BI) (f:AV) (args:List AV) (s:AQ) (K:AV->AQ->Prop):Prop:=match f with
 | .func (.func g) first captured=>∃v s',BG E L g (first++args++captured) s v s'/\K v s'
 | _=>False
abbrev ldK (P:Program) (t:TypeId):Option (Option Nat):=match P.underlying t,P.info? t with
 | some d,some i=>match d with
  | .struct _|.array _ _=>if i.size≠0 then some (some i.size) else none
  | _=>some none
 | _,_=>none
abbrev AAe (P:Program) (t:TypeId) (f:Nat):Option Field:=match P.underlying t with
 | some (.struct fields)=>fields[f]?
 | _=>none
abbrev AAf (P:Program) (t:TypeId):Option (Nat->Option (Nat×Nat)):=match P.underlying t with
 | some (.struct fields)=>bif fields.all (λf=>(D2 P f.type).isSome) then some (Tg P fields) else none
 | some (.array _ elem)=>match D2 P elem with
  | some k=>some λi=>some (i*k,k)
  | none=>none
 | _=>none
abbrev OO (P:Program) (t:TypeId):Option (TypeId×TypeInfo×List AV):=match P.underlying t with
 | some (.slice e)=>match P.info? e,zeroOf P e with
  | some i,some z=>some (e,i,z)
  | _,_=>none
 | _=>none
abbrev ADE (lk:Lk):Option Operand->Option (Option AV)
 | none=>some none
 | some x=>match I8 lk x with
  | some v=>some (some v)
  | none=>none
abbrev wOp (E:Env) (L:BI) (lk:Lk) (s:AQ) (o:Oper) (K:AV->AQ->Prop):Prop:=
 match o.op with
 | .move x=>wO (I8 lk x) λx=>K x s
 | .assign x=>wO (I8 lk x) λx=>K x s
 | .pick c a b=>wO (I8 lk c) λc=>wO (I8 lk a) λa=>wO (I8 lk b) λb=>Hi c a b λv=>K v s
 | .alloc t=>wO (zeroOf E.P t) λz=>IJ s (N7 E s.bs.length t z) K
 | .box t x=>wO (I8 lk x) λx=>match E.bz t with
  | true=>Jw s t x K
  | false=>Mx s x K
 | .build t parts=>wO (zeroOf E.P t) λz=>wO (AAf E.P t) λpl=>wO (s8 lk pl parts.toList) λps=>Fk z ps λv=>K v s
 | .buildSlice t len parts=>wO (OO E.P t) λe=>wO (s8 lk (λi=>some (i*e.2.1.size,e.2.1.size)) parts.toList) λps=>GY (muL L e.1) s e.2.1.size e.2.2 len ps K
 | .load t a=>wO (I8 lk a) λa=>wO (ldK E.P t) λk=>Df E s k a λv=>K v s
 | .store t a x=>wO (I8 lk a) λa=>wO (I8 lk x) λx=>wO (D2 E.P t) λk=>HM L s k a x λs=>K (.tuple []) s
 | .nilCheck x=>wO (I8 lk x) λx=>JV s x λv=>K v s
 | .fieldAddr t x f=>wO (I8 lk x) λx=>wO (AAe E.P t f) λf=>wO (D2 E.P f.type) λk=>match k with
  | 0=>False
  | _+1=>DY s x f.offset λv=>K v s
 | .field t x f=>wO (I8 lk x) λx=>wO (AAe E.P t f) λf=>wO (ldK E.P f.type) λk=>zq k x f.offset λv=>K v s
 | .indexAddr t x i=>wO (I8 lk x) λx=>wO (I8 lk i) λi=>match E.P.underlying t with
  | some (.slice e)=>wO (D2 E.P e) λk=>ND s k x i λv=>K v s
  | _=>XE E L lk s o K
 | .extract x i=>wO (I8 lk x) λx=>JU x i λv=>K v s
 | .makeFunc fn first captured=>wO (s7 lk first.toList) λa=>wO (s7 lk captured.toList) λb=>K (.func fn a b) s
 | .makeInterface t x=>wO (I8 lk x) λx=>match E.P.underlying t with
  | some (.interface _)=>False
  | some _=>K (.iface t x) s
  | none=>False
 | .slice t x lo hi mx=>match E.P.underlying t with
  | some (.slice e)=>wO (D2 E.P e) λk=>wO (I8 lk x) λx=>wO (ADE lk lo) λlo=>wO (ADE lk hi) λhi=>wO (ADE lk mx) λmx=>rJ s k x lo hi mx λv=>K v s
  | _=>XE E L lk s o K
 | .call { callee:=.builtin .len,args:=args,argTypes:=ts }=>match args.toList,ts.toList with
  | [x],[t]=>wO (I8 lk x) λx=>match E.P.underlying t with
   | some .string=>Ip x λv=>K v s
   | some (.slice _)=>Gk s x λv=>K v s
   | _=>XE E L lk s o K
  | _,_=>False
 | .call { callee:=.builtin .append,args:=args,argTypes:=ts }=>match args.toList,ts.toList with
  | [x,y],t::u::_=>match E.P.underlying u with
   | some (.int _)=>False
   | some _=>wO (I8 lk x) λx=>wO (I8 lk y) λy=>wO (OO E.P t) λe=>(e.2.2.length=e.2.1.size/\e.2.1.size≠0)/\HB (L.mu e.1) L s e.1 e.2.1.size e.2.1.bytes x y K
   | none=>False
  | _,_=>False
 | .binOp op t x y _=>wO (I8 lk x) λa=>wO (I8 lk y) λb=>match E.P.underlying t with
  | some (.int k)=>DI k op a b λv=>K v s
  | some .string=>KQ op a b λv=>K v s
  | some .bool=>gJ op a b λv=>K v s
  | some (.interface _)=>XE E L lk s o K
  | some (.pointer _)=>eC s (XD lk x) (XD lk y) op a b λv=>K v s
  | _=>xN s (C8 E.P t) (XD lk x) (XD lk y) op a b λv=>K v s
 | .unOp op _ x=>match op with
  | .not=>wO (I8 lk x) λx=>L2 x λv=>K v s
  | _=>XE E L lk s o K
 | .index t x i=>match E.P.underlying t with
  | some .string=>wO (I8 lk x) λx=>wO (I8 lk i) λi=>Xc x i λv=>K v s
  | _=>XE E L lk s o K
 | .convert a b x=>match E.P.underlying a,E.P.underlying b with
  | some (.int _),some (.int k)=>wO (I8 lk x) λx=>Ou k x λv=>K v s
  | _,_=>XE E L lk s o K
 | _=>XE E L lk s o K
theorem pJ {P:Program} {t:TypeId} {k:Option Nat} {cs:List AV} {off:Nat} {K:AV->Prop} (hk:ldK P t=some k) (h:DQ k cs off K):∃v,partOf P t cs off=some v/\K v:=by
 unfold ldK at hk;unfold partOf
 grind[DQ]
theorem AGb {E:Env} {s:AQ} {t:TypeId} {k:Option Nat} {x:AV} {K:AV->Prop} (hk:ldK E.P t=some k) (h:Df E s k x K):∃v,Tf E s t x=some v/\K v:=by
 unfold Df at h
 grind[Tf,Rp,pJ]
theorem Cm {P:Program} {α β:Type} {x:Sem α} {f:α->Sem β} {a:α} {b:β} (h:quick P x=some a) (k:quick P (f a)=some b):quick P (x >>= f)=some b:=by
 induction x with
 | pure a'=>simp only[quick,BN] at h; subst h; exact k
 | program g ih=>exact ih _ h
 | mark _ g ih=>exact ih h
 | _=>grind[quick]
theorem Jf {P:Program} {t:TypeId} {d:TypeDesc} (h:P.underlying t=some d):quick P (underlying t)=some d:=by
 unfold underlying;refine Cm (a:=P) rfl ?_;rw[h];rfl
theorem kr {E:Env} {L:BI} {U:Nat->AV} {s:AQ} {o:Oper} {op:BinOp} {t:TypeId} {x y:Operand} {c:TypeId} {xv yv v:Value} (ho:o.op=.binOp op t x y c) (hx:Am U x=.pv (.sc xv)) (hy:Am U y=.pv (.sc yv))
  (hk:C8 E.P t=none) (hg:∀a b,quick E.P (eqGuard op t a b xv yv)=some ()) (hq:quick E.P (binOp op t xv yv)=some v) (hv:N6 v=.pv (.sc v)):Cl E L U s o=some (.pv (.sc v),s):=by
 obtain⟨dst,op',type,pos,after,guard⟩:=o;simp only at ho;subst ho;simp only[Cl];cases hf:JN op (Am U x) (Am U y) with
 | some u=>
  have h1:=(OG (P:=E.P) (g:=AP.bare λ_ _=>False) (w:=default) (t:=t) (by rw[hx]; exact V.Kr xv) (by rw[hy]; exact V.Kr yv) hf).1
  simp_all[XM]
 | none=>
  have hn:I3 E.P s U op t x y=none:=by simp[*,I3,sameKind]
  simp only[hn]
  have hq':C5 E U ⟨dst,.binOp op t x y c,type,pos,after,guard⟩=some (.pv (.sc v)):=by
   unfold C5;have hall:E2 U (Op.operands (.binOp op t x y c)).toList=true:=by grind[E2,Op.operands,Ht]
   rw[if_pos hall]
   have:quick E.P (execOp (λz=>(Ht (Am U z)).getD undef) ⟨dst,.binOp op t x y c,type,pos,after,guard⟩)=some (.value v):=by
    simp only[execOp,hx,hy,Ht,JI];exact Cm (Cm (hg x y) hq) rfl
   grind
  rw[hq']
theorem s9 {P:Program} {op:BinOp} {t:TypeId} {a b:Operand} {k1 k2:IntKind} {m n:Int}:quick P (eqGuard op t a b (.int k1 m) (.int k2 n))=some ():=by
 unfold eqGuard;split <;> rfl
theorem tA {P:Program} {op:BinOp} {t:TypeId} {a b:Operand} {m n:ByteArray}:quick P (eqGuard op t a b (.string m) (.string n))=some ():=by
 unfold eqGuard;split <;> rfl
theorem ku {P:Program} {op:BinOp} {t:TypeId} {a b:Operand} {m n:Bool}:quick P (eqGuard op t a b (.bool m) (.bool n))=some ():=by
 unfold eqGuard;split <;> rfl
theorem ANV {E:Env} {L:BI} {U:Nat->AV} {s:AQ} {o:Oper} {op:BinOp} {t:TypeId} {x y:Operand} {c:TypeId} {k:IntKind} {K:AV->Prop} (ho:o.op=.binOp op t x y c) (ht:E.P.underlying t=some (.int k))
  (h:DI k op (Am U x) (Am U y) K):∃v,Cl E L U s o=some (v,s)/\K v:=by
 unfold DI at h;split at h
 .rename_i k1 a k2 b hx hy
  obtain⟨⟨e1,e2⟩,h⟩:=h;subst e1;subst e2;have hk:C8 E.P t=none:=by simp[C8,ht]
  have go:∀v,quick E.P (binOp op t (.int k2 a) (.int k2 b))=some v->N6 v=.pv (.sc v)->K (.pv (.sc v))->∃v,Cl E L U s o=some (v,s)/\K v:=λv h1 h2 h3=>
   ⟨_,kr ho hx hy hk (λ_ _=>s9) h1 h2,h3⟩
  cases op <;> first
   | grind
   | exact go _ (by simp[binOp,Op.intArith]; rfl) rfl h
   | exact go _ (by simp[binOp,Op.intCmp]; rfl) rfl h
   | exact go _ (by simp[binOp,Op.intDiv,h.1]; rfl) rfl h.2
   | exact go _ (by simp[binOp,Op.shift,Int.not_lt.2 h.1]; rfl) rfl h.2
 grind
theorem ANW {E:Env} {L:BI} {U:Nat->AV} {s:AQ} {o:Oper} {op:BinOp} {t:TypeId} {x y:Operand} {c:TypeId} {K:AV->Prop} (ho:o.op=.binOp op t x y c) (ht:E.P.underlying t=some .string)
  (h:KQ op (Am U x) (Am U y) K):∃v,Cl E L U s o=some (v,s)/\K v:=by
 unfold KQ at h;split at h
 .rename_i a b hx hy
  have hk:C8 E.P t=none:=by simp[C8,ht]
  have go:∀v,quick E.P (Op.stringOp op a b)=some v->N6 v=.pv (.sc v)->K (.pv (.sc v))->∃v,Cl E L U s o=some (v,s)/\K v:=λv h1 h2 h3=>
   ⟨_,kr ho hx hy hk (λ_ _=>tA) (by simpa[binOp] using h1) h2,h3⟩
  cases op <;> first
   | grind
   | exact go _ (by simp only[Op.stringOp,Go.ByteArray.toList_eq]; rfl) rfl h
   | skip
  obtain⟨h1,h2⟩:=h;have e:(a++b)=(⟨(a.data.toList++b.data.toList).toArray⟩:ByteArray):=AR;refine go (.string (a++b)) ?_ rfl AB
  have hl:¬ ((a.size+b.size:Nat):Int)>IntKind.i64.max:=by
   have h3:a.size=a.data.toList.length:=(IW (xs:=a.data)).symm;have h4:b.size=b.data.toList.length:=(IW (xs:=b.data)).symm;have h5:IntKind.i64.max=9223372036854775807:=AR;omega
  simp only[Op.stringOp,if_neg hl];rfl
 grind
theorem ADF {E:Env} {L:BI} {U:Nat->AV} {s:AQ} {o:Oper} {op:BinOp} {t:TypeId} {x y:Operand} {c:TypeId} {K:AV->Prop} (ho:o.op=.binOp op t x y c) (ht:E.P.underlying t=some .bool)
  (h:gJ op (Am U x) (Am U y) K):∃v,Cl E L U s o=some (v,s)/\K v:=by
 unfold gJ at h;split at h
 .rename_i a b hx hy
  have hk:C8 E.P t=none:=by simp[C8,ht]
  have hq:quick E.P (Op.equal t (.bool a) (.bool b))=some (a==b):=by
   unfold Op.equal;obtain⟨m,hm⟩:∃m,Op.maxDepth=m+1:=⟨9999,rfl⟩;rw[hm];unfold Op.equalIn;have hu:quick E.P (underlying t)=some .bool:=Jf ht;exact Cm hu rfl
  have go:∀v,quick E.P (binOp op t (.bool a) (.bool b))=some v->N6 v=.pv (.sc v)->K (.pv (.sc v))->∃v,Cl E L U s o=some (v,s)/\K v:=λv h1 h2 h3=>
   ⟨_,kr ho hx hy hk (λ_ _=>ku) h1 h2,h3⟩
  cases op <;> first
   | grind
   | exact go _ (Cm hq rfl) rfl h
 grind
theorem Yz {U:Nat->AV} {x:Operand} {k:Nat} (hx:∀a b c,x≠.const (.slice a b c)) (h:U7 (Am U x)=some k):Fu U x=some k:=by grind[U7,Fu]
theorem kz {a:Option Addr} {b c:Nat}:U7 (ofConst (.slice a b c))=none:=by
 show U7 (H9 (.slice a b c))=none
 unfold H9;split
 .rfl
 rfl
theorem pK {lk:Lk} {U:Nat->AV} (hA:Hs lk U) {x:Operand} {k:Nat} (h:XD lk x=some k):Fu U x=some k:=by
 cases x with
 | const v=>
  by_cases hz:v=.slice none 0 0
  .subst hz
   exact h
  .have h:U7 (ofConst v)=some k:=by grind
   by_cases hs:∃a b c,v=.slice a b c
   .grind[kz]
   .exact Yz (λa b c e=>hs ⟨a,b,c,AB⟩) h
 | tmp t=>
  grind[Yz,CW]
 | global g=>grind
 | func f=>grind
theorem AAh {E:Env} {L:BI} {lk:Lk} {U:Nat->AV} (hA:Hs lk U) {s:AQ} {o:Oper} {op:BinOp} {t:TypeId} {x y:Operand} {c:TypeId} {K:AV->Prop} (ho:o.op=.binOp op t x y c)
  (h:xN s (C8 E.P t) (XD lk x) (XD lk y) op (Am U x) (Am U y) K):∃v,Cl E L U s o=some (v,s)/\K v:=by
 obtain⟨dst,op',type,pos,after,guard⟩:=o;simp only at ho;subst ho;obtain⟨h1,h2⟩:=h
 have hs:(sameKind (C8 E.P t) (EI s (Am U x)) (Fu U y)||sameKind (C8 E.P t) (Fu U x) (EI s (Am U y)))=true:=by
  simp only[Dk] at h1 ⊢;rcases h1 with h1|h1
  .left
   obtain⟨k,e1,e2,e3⟩:=E8 h1;rw[pK hA e3,e1,e2];simp[sameKind]
  .right
   obtain⟨k,e1,e2,e3⟩:=E8 h1;rw[pK hA e2,e1,e3];simp[sameKind]
 have hf:JN op (Am U x) (Am U y)=none:=by
  simp only[Dk] at hs;rcases hs with hs|hs
  .obtain⟨k,e1,e2,e3⟩:=E8 hs
   cases hx:Am U x <;> simp[hx,EI,rowsOf] at e2 ⊢ <;> try rfl
   rename_i p;cases p with
   | sc v=>simp[rowsOf] at e2
   | list rows=>rfl
  .obtain⟨k,e1,e2,e3⟩:=E8 hs
   cases hy:Am U y <;> simp[hy,EI,rowsOf] at e3
   all_goals
    unfold JN
    grind
 grind[Cl,I3]
theorem Y0 {v:AV} (h:U8 v=true):v=.pv (.sc (.pointer none)):=by grind[U8]
theorem lB {P:Program} {t e:TypeId} {x y:Operand} (ht:P.underlying t=some (.pointer e)) :
  quick P (do eqGuard .eql t x y (.pointer none) (.pointer none); binOp .eql t (.pointer none) (.pointer none))=some (.bool true)/\quick P (do eqGuard .neq t x y (.pointer none) (.pointer none); binOp .neq t (.pointer none) (.pointer none))=some (.bool false):=by
 have he:quick P (Op.equal t (.pointer none) (.pointer none))=some true:=by
  show quick P (Op.equalIn (9999+1) t (.pointer none) (.pointer none))=some true
  unfold Op.equalIn;exact Cm (Jf ht) rfl
 constructor
 .refine Cm (a:=()) rfl ?_
  exact Cm he rfl
 .refine Cm (a:=()) rfl ?_
  exact Cm he rfl
theorem ANX {E:Env} {L:BI} {lk:Lk} {U:Nat->AV} (hA:Hs lk U) {s:AQ} {o:Oper} {op:BinOp} {t e:TypeId} {x y:Operand} {c:TypeId} {K:AV->Prop} (ho:o.op=.binOp op t x y c) (ht:E.P.underlying t=some (.pointer e))
  (h:eC s (XD lk x) (XD lk y) op (Am U x) (Am U y) K):∃v,Cl E L U s o=some (v,s)/\K v:=by
 unfold eC at h;split at h
 .rename_i hb
  simp only[AI] at hb;have hx:=Y0 hb.1;have hy:=Y0 hb.2;obtain⟨q1,q2⟩:=lB (x:=x) (y:=y) ht;have hf:JN op (Am U x) (Am U y)=none:=by rw[hx,hy]; rfl
  have hn:I3 E.P s U op t x y=none:=by grind[I3,EI,sameKind,rowsOf]
  have h1:E2 U o.op.operands.toList=true:=by
   have e:o.op.operands.toList=[x,y]:=by rw[ho]; rfl
   grind[E2,Ht]
  have key:∀(v:Bool),quick E.P (do eqGuard op t x y (.pointer none) (.pointer none); binOp op t (.pointer none) (.pointer none))=some (.bool v)->Cl E L U s o=some (.pv (.sc (.bool v)),s):=by
   intro v hq
   have h2:C5 E U o=some (.pv (.sc (.bool v))):=by
    have:quick E.P (execOp (λz=>(Ht (Am U z)).getD undef) o)=some (.value (.bool v)):=by
     unfold execOp;rw[ho];simp only[hx,hy,Ht,JI];exact Cm hq rfl
    simp only[C5,h1,Gu,this];rfl
   grind[Cl]
  grind
 .have hk:C8 E.P t=some 0:=by grind[C8]
  rw[<-hk] at h;exact AAh hA ho h
theorem N1 {P:Program} {t:TypeId} {e:TypeId×TypeInfo×List AV} (h:OO P t=some e):P.underlying t=some (.slice e.1)/\P.info? e.1=some e.2.1/\zeroOf P e.1=some e.2.2:=AB
theorem ADG {lk:Lk} {U:Nat->AV} (hA:Hs lk U) {x:Option Operand} {v:Option AV} (h:ADE lk x=some v):x.map (Am U)=v:=by grind[CW]
theorem ANY {P:Program} {s:AQ} {t e:TypeId} {k:Nat} {x:AV} {lo hi mx:Option AV} {K:AV->Prop} (ht:P.underlying t=some (.slice e)) (hk:D2 P e=some k):rJ s k x lo hi mx K ->
  ∃v,Ql P s t x lo hi mx=some v/\K v:=by
 unfold Ql;simp only[ht,hk];intro h;cases x with
 | ref id off len sz=>
  obtain⟨l,h',h1,h2,h3⟩:=h
  grind
 | pv p=>
  obtain⟨rows,hr,h⟩:=BW h
  grind
 | AE p=>
  obtain⟨l,h',h1,h2,h3,h4⟩:=h
  grind[rowsOf]
 | own t p=>
  obtain⟨l,h',h1,h2,h3,h4⟩:=h
  grind[rowsOf]
 | _=>exact h.elim
theorem ANZ {P:Program} {L:BI} {s:AQ} {t:TypeId} {e:TypeId×TypeInfo×List AV} {x y:AV} {K:AV->AQ->Prop} (he:OO P t=some e) (hz:e.2.2.length=e.2.1.size/\e.2.1.size≠0)
  (h:HB (L.mu e.1) L s e.1 e.2.1.size e.2.1.bytes x y K):∃v s',JM P L s t x y=some (v,s')/\K v s':=by
 obtain⟨e1,e2,e3⟩:=N1 he;unfold JM;simp only[e1,e2,e3,Na];rw[if_pos ⟨AB,hz.2⟩];obtain⟨new,h1,h⟩:=BW h;simp only[h1];cases new with
 | nil=>
  grind
 | cons c cs=>
  grind
theorem K3 {E:Env} {L:BI} {lk:Lk} {U:Nat->AV} {s:AQ} {o:Oper} {K:AV->AQ->Prop} (hA:Hs lk U) (h:XE E L lk s o K):∃v s',Cl E L U s o=some (v,s')/\K v s':=by
 obtain⟨v,s',h1,h2⟩:=h
 grind
theorem ADH {P:Program} {a b:TypeId} {k k1 k2:IntKind} {n:Int} (ha:P.underlying a=some (.int k1)) (hb:P.underlying b=some (.int k)):quick P (convert a b (.int k2 n))=some (.int k (k.wrap n)):=by
 unfold convert;have h1:quick P (underlying a)=some (.int k1):=Jf ha;have h2:quick P (underlying b)=some (.int k):=Jf hb;exact Cm h1 (Cm h2 rfl)
theorem Y1 {E:Env} {L:BI} {lk:Lk} {U:Nat->AV} {s:AQ} {o:Oper} {K:AV->AQ->Prop} (hA:Hs lk U) (h:wOp E L lk s o K):∃v s',Cl E L U s o=some (v,s')/\K v s':=by
 obtain⟨dst,op,type,pos,after,guard⟩:=o;cases op with
 | move x=>
  grind[Cl,CW]
 | assign x=>
  grind[Cl,CW]
 | pick c a b=>
  obtain⟨cv,h1,h⟩:=BW h;obtain⟨av,h2,h⟩:=BW h;obtain⟨bv,h3,h⟩:=BW h;unfold Hi at h
  grind[Cl,CW]
 | alloc t=>
  obtain⟨z,h1,h2⟩:=BW h;exact⟨_,_,by simp only[Cl,h1]; rfl,h2⟩
 | box t x=>
  obtain⟨a,h1,h⟩:=BW h;cases hb:E.bz t with
  | true=>
   rw[hb] at h;obtain⟨h2,h3⟩:=h;exact⟨_,_,by simp only[Cl,CW hA h1,if_pos h2,N7,hb,AN]; rfl,h3⟩
  | false=>
   rw[hb] at h;obtain⟨h2,h3⟩:=h;exact⟨_,_,by simp only[Cl,CW hA h1,if_pos h2,N7,hb,AL]; rfl,h3⟩
 | build t parts=>
  obtain⟨z,h1,h⟩:=BW h;obtain⟨pl,h2,h⟩:=BW h;obtain⟨ps,h3,h⟩:=BW h;obtain⟨cs,h4,h5⟩:=BW h
  grind[WG,Th,Cl]
 | buildSlice t len parts=>
  obtain⟨e,h1,h⟩:=BW h;obtain⟨ps,h2,hz,h⟩:=BW h;obtain⟨cs,h3,h⟩:=BW h;obtain⟨e1,e2,e3⟩:=N1 h1;have hf:=WG hA (cells:=Fx len e.2.2) h2;rw[h3] at hf
  have:∀v s',(bif muL L e.1&&Nat.blt 0 len then some (AV.ref s.bs.length 0 len e.2.1.size,{ s with bs:=s.bs++[cs] })
     else match CD cs with
     | some ps=>some (.AE (CJ e.2.1.size len ps),s)
     | none=>none)=some (v,s')->Cl E L U s ⟨dst,.buildSlice t len parts,type,pos,after,guard⟩=some (v,s'):=by grind[Cl,HE,D2]
  grind
 | load t a=>
  grind[AGb,Cl,CW]
 | store t a x=>
  obtain⟨av,h1,h⟩:=BW h;obtain⟨xv,h2,h⟩:=BW h;obtain⟨k,h3,h⟩:=BW h;obtain⟨i,h4,rfl⟩:=FQ h3;unfold HM at h;split at h
  .obtain⟨cs,h5,h6,h7⟩:=BW h
   refine⟨_,_,?_,h7⟩;simp only[Cl,CW hA h1,CW hA h2,OP,h4,Rp,h5,if_pos h6]
  grind
 | nilCheck x=>
  obtain⟨a,h1,h⟩:=BW h
  have:∃v,K6 s a=some v/\K v s:=by
   unfold JV at h
   grind[K6]
  grind[Cl,CW]
 | fieldAddr t x f=>
  obtain⟨a,h1,h⟩:=BW h;obtain⟨fd,h2,h⟩:=BW h;obtain⟨k,h3,h⟩:=BW h;cases k with
  | zero=>grind
  | succ k=>
   simp only at h;have:∃v,IA E.P s t a f=some v/\K v s:=by grind[IA,DY]
   grind[Cl,CW]
 | field t x f=>
  obtain⟨a,h1,h⟩:=BW h;obtain⟨fd,h2,h⟩:=BW h;obtain⟨k,h3,h⟩:=BW h;unfold zq at h;split at h
  .rename_i cs
   obtain⟨v,h4,h5⟩:=pJ h3 h;refine⟨v,s,?_,h5⟩;unfold AAe at h2;split at h2
   .rename_i fields hu
    simp only[Cl,CW hA h1,Ti,hu,h2,h4]
   grind
  grind
 | indexAddr t x i=>
  obtain⟨a,h1,h⟩:=BW h;obtain⟨b,h2,h⟩:=BW h;split at h
  .rename_i e ht
   obtain⟨k,h3,h⟩:=BW h
   have:∃v,IB E.P s t a b=some v/\K v s:=by
    unfold IB;unfold ND at h
    grind[ZK,rowsOf]
   grind[Cl,CW]
  grind[K3]
 | extract x i=>
  obtain⟨a,h1,h⟩:=BW h;unfold JU at h
  grind[Cl,CW,Mh]
 | makeFunc fn first captured=>
  grind[Cl,bQ]
 | makeInterface t x=>
  grind[Cl,CW]
 | slice t x lo hi mx=>
  simp only[wOp] at h;split at h
  .rename_i e ht
   obtain⟨k,h1,h⟩:=BW h;obtain⟨a,h2,h⟩:=BW h;obtain⟨l,h3,h⟩:=BW h;obtain⟨hh,h4,h⟩:=BW h;obtain⟨m,h5,h⟩:=BW h;obtain⟨v,h6,h7⟩:=ANY ht h1 h
   grind[Cl,CW,ADG]
  grind[K3]
 | call c=>
  obtain⟨callee,args,ts⟩:=c;cases callee with
  | builtin b=>
   cases b with
   | len=>
    simp only[wOp] at h;split at h
    .rename_i x t hx ht
     obtain⟨a,h1,h⟩:=BW h;split at h
     .rename_i hu
      unfold Ip at h
      grind[Cl,CW,Nh]
     .rename_i e hu
      obtain⟨n,h2,h3⟩:=BW h;refine⟨_,s,?_,h3⟩
      have hf:Nh E.P t a=none:=by
       unfold Nh
       grind
      grind[Cl,CW]
     grind[K3]
    grind
   | append=>
    simp only[wOp] at h;split at h
    .rename_i x y t u us hx ht
     split at h
     .grind
     .rename_i d hne hd
      obtain⟨a,h1,h⟩:=BW h;obtain⟨b,h2,h⟩:=BW h;obtain⟨e,h3,h4,h5⟩:=BW h
      grind[ANZ,Cl,CW]
     grind
    grind
   | _=>grind[K3]
  | _=>grind[K3]
 | binOp op t x y c=>
  obtain⟨a,h1,h⟩:=BW h;obtain⟨b,h2,h⟩:=BW h;have bV:=CW hA h1;have h2':=CW hA h2;subst bV h2';split at h
  .rename_i k ht
   obtain⟨v,h3,h4⟩:=ANV (L:=L) (s:=s) (o:=⟨dst,.binOp op t x y c,type,pos,after,guard⟩) rfl ht h
   grind
  .rename_i ht
   obtain⟨v,h3,h4⟩:=ANW (L:=L) (s:=s) (o:=⟨dst,.binOp op t x y c,type,pos,after,guard⟩) rfl ht h
   grind
  .rename_i ht
   obtain⟨v,h3,h4⟩:=ADF (L:=L) (s:=s) (o:=⟨dst,.binOp op t x y c,type,pos,after,guard⟩) rfl ht h
   grind
  .grind[K3]
  .rename_i ht
   obtain⟨v,h3,h4⟩:=ANX (L:=L) hA (o:=⟨dst,.binOp op t x y c,type,pos,after,guard⟩) rfl ht h
   grind
  .obtain⟨v,h3,h4⟩:=AAh (L:=L) hA (o:=⟨dst,.binOp op t x y c,type,pos,after,guard⟩) rfl h
   grind
 | unOp op t x=>
  simp only[wOp] at h;split at h
  .obtain⟨a,h1,h⟩:=BW h
   unfold L2 at h
   grind[Cl,CW,ZP]
  grind[K3]
 | index t x i=>
  simp only[wOp] at h;split at h
  .rename_i ht
   obtain⟨a,h1,h⟩:=BW h;obtain⟨b,h2,h⟩:=BW h;unfold Xc at h
   grind[Cl,CW,Ng]
  grind[K3]
 | convert a b x=>
  simp only[wOp] at h;split at h
  .rename_i k1 k ha hb
   obtain⟨v,h1,h⟩:=BW h;unfold Ou at h;split at h
   .rename_i k2 n
    refine⟨_,s,?_,h⟩
    have hq:C5 E U ⟨dst,.convert a b x,type,pos,after,guard⟩=some (.pv (.sc (.int k (k.wrap n)))):=by
     unfold C5;have hall:E2 U (Op.operands (.convert a b x)).toList=true:=by grind[E2,Op.operands,CW,Ht]
     rw[if_pos hall]
     have:quick E.P (execOp (λz=>(Ht (Am U z)).getD undef) ⟨dst,.convert a b x,type,pos,after,guard⟩)=some (.value (.int k (k.wrap n))):=by
      simp only[execOp,CW hA h1,Ht,JI];exact Cm (ADH ha hb) rfl
     rw[this];rfl
    grind[Cl]
   grind
  grind[K3]
 | _=>grind[K3]
end Go.Tel
