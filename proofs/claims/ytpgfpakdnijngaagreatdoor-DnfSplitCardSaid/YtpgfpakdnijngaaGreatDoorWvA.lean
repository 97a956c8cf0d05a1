/-
  Arguments that are not known: what a single operation needs so that it answers as wanted.
-/
import Derived.Test.YtpgfpakdnijngaaGreatDoorEvI
set_option linter.all false
namespace Go.Tel
abbrev Lk:=Nat->Option AV
abbrev AG (n:Int):AV:=.pv (.sc (.int .i64 n))
abbrev BB (b:Bool):AV:=.pv (.sc (.bool b))
abbrev SS (l:List UInt8):AV:=.pv (.sc (.string ⟨l.toArray⟩))
def BW (E:Env) (L:BL) (f:FuncId) (args:List AV) (s:AQ) (v:AV) (s':AQ):Prop:=
 ∃n,∀m,n<=m->EC E m L f args s=some (v,s')
def Hj (lk:Lk) (U:Nat->AV):Prop:=∀t v,lk t=some v->U t=v
abbrev wO {α:Type} (x:Option α) (K:α->Prop):Prop:=match x with
 | some a=>K a
 | none=>False
theorem BT {α:Type} {x:Option α} {K:α->Prop} (h:wO x K):∃a,x=some a/\K a:=AB
abbrev Iz (lk:Lk):Operand->Option AV
 | .tmp t=>lk t
 | .const v=>some (ofConst v)
 | .global g=>some (.Dt g 0)
 | .func f=>some (.func (.func f) [] [])
theorem CV {lk:Lk} {U:Nat->AV} (hA:Hj lk U) {x:Operand} {v:AV} (h:Iz lk x=some v):Am U x=v:=by
 cases x with
 | tmp t=>exact hA t v h
 | const u=>grind[Am]
 | global g=>grind[Am]
 | func f=>grind[Am]
abbrev rR (lk:Lk):List Operand->Option (List AV)
 | []=>some []
 | x::xs=>match Iz lk x,rR lk xs with
  | some a,some as=>some (a::as)
  | _,_=>none
theorem aF {lk:Lk} {U:Nat->AV} (hA:Hj lk U):∀{xs:List Operand} {vs:List AV},rR lk xs=some vs->xs.map (Am U)=vs
 | [],vs,h=>by grind
 | x::xs,vs,h=>by
  simp only[rR] at h;split at h
  .rename_i a as h1 h2
   simp at h; subst h;simp[CV hA h1,aF hA h2]
  grind
abbrev rS (lk:Lk) (place:Nat->Option (Nat×Nat)):List (Nat×Operand)->Option (List (Nat×Nat×AV))
 | []=>some []
 | (i,x)::xs=>match place i,Iz lk x,rS lk place xs with
  | some (off,size),some a,some as=>some ((off,size,a)::as)
  | _,_,_=>none
def Eo (cells:List AV):List (Nat×Nat×AV)->Option (List AV)
 | []=>some cells
 | (off,size,v)::rest=>if (cellsOf v).length=size/\off+size<=cells.length/\(cellsOf v).all BD=true then Eo (setCells cells off (cellsOf v)) rest else none
theorem Vd {lk:Lk} {U:Nat->AV} (hA:Hj lk U) {place:Nat->Option (Nat×Nat)}:∀{parts:List (Nat×Operand)} {ps:List (Nat×Nat×AV)} {cells:List AV},rS lk place parts=some ps ->
  MK place cells (parts.map λp=>(p.1,Am U p.2))=Eo cells ps
 | [],ps,cells,h=>by
  simp[rS] at h; subst h;rfl
 | (i,x)::parts,ps,cells,h=>by
  simp only[rS] at h;split at h
  .rename_i off size a as h1 h2 h3
   simp at h; subst h;simp only[CO,MK,h1,CV hA h2,Eo];split
   .exact Vd hA h3
   rfl
  grind
def HW (c a b:AV) (K:AV->Prop):Prop:=match c with
 | .pv (.sc (.bool t))=>K (bif t then a else b)
 | _=>False
def Ia (s:AQ) (cs:List AV) (K:AV->AQ->Prop):Prop:=K (.ptr s.bs.length 0) ⟨s.bs++[cs],s.ts⟩
def Mt (s:AQ) (x:AV) (K:AV->AQ->Prop):Prop:=(cellsOf x).all BD=true/\Ia s (cellsOf x) K
def KW (id:Nat) (t:TypeId):List AV->List AV
 | .pv (.sc (.pointer none))::r=>.bz id t (r.length+1)::r
 | z=>z
def Js (s:AQ) (t:TypeId) (x:AV) (K:AV->AQ->Prop):Prop:=(cellsOf x).all BD=true/\Ia s (KW s.bs.length t (cellsOf x)) K
def Fh (z:List AV) (ps:List (Nat×Nat×AV)) (K:AV->Prop):Prop:=wO (Eo z ps) λcs=>K (.agg cs)
def HJ (mu:Bool) (s:AQ) (k:Nat) (z:List AV) (len:Nat) (ps:List (Nat×Nat×AV)) (K:AV->AQ->Prop):Prop:=
 (len*k<=2 ^ 24/\z.length=k/\k≠0)/\wO (Eo (Fu len z) ps) λcs=>
  bif mu&&Nat.blt 0 len then K (.ref s.bs.length 0 len k) ⟨s.bs++[cs],s.ts⟩ else wO (Cp cs) λps=>K (.AE (CI k len ps)) s
def DF (k:Option Nat) (cs:List AV) (off:Nat) (K:AV->Prop):Prop:=match k with
 | some k=>off+k<=cs.length/\K (.agg ((cs.drop off).take k))
 | none=>wO cs[off]? K
def D5 (E:Env) (s:AQ) (k:Option Nat) (x:AV) (K:AV->Prop):Prop:=match x with
 | .ptr id off=>wO s.bs[id]? λcs=>DF k cs off K
 | .Dt g off=>wO (E.G g) λrow=>DF k (row.map .pv) off K
 | .Cw row off=>DF k (row.map .pv) off K
 | _=>False
def IM (L:BL) (s:AQ) (k:Nat) (a x:AV) (K:AQ->Prop):Prop:=match a with
 | .ptr id off=>wO s.bs[id]? λcs=>((cellsOf x).length=k/\off+(cellsOf x).length<=cs.length/\L.ro<=id/\(cellsOf x).all BD=true/\(L.n0<=id\/Iq (cellsOf x)=true)/\k≠0)/\K ⟨s.bs.set id (setCells cs off (cellsOf x)),s.ts⟩
 | _=>False
def JN (s:AQ) (x:AV) (K:AV->Prop):Prop:=match x with
 | .ptr id off=>alive s id=true/\K (.ptr id off)
 | .Dt g off=>K (.Dt g off)
 | .Cw r off=>K (.Cw r off)
 | .func (.func f) a b=>K (.func (.func f) a b)
 | _=>False
def E2 (s:AQ) (x:AV) (d:Nat) (K:AV->Prop):Prop:=match x with
 | .ptr id off=>alive s id=true/\K (.ptr id (off+d))
 | .Dt g off=>K (.Dt g (off+d))
 | .Cw r off=>K (.Cw r (off+d))
 | _=>False
def AMR (k:Option Nat) (x:AV) (off:Nat) (K:AV->Prop):Prop:=match x with
 | .agg cs=>DF k cs off K
 | _=>False
def NC (s:AQ) (k:Nat) (x ix:AV) (K:AV->Prop):Prop:=match ix with
 | .pv (.sc (.int _ i))=>match x with
  | .ref id off len sz=>(0<=i/\i<len/\sz=k/\alive s id=true)/\K (.ptr id (off+i.toNat*k))
  | x=>wO (rowsOf x) λrows=>0<=i/\∃row,rows[i.toNat]?=some row/\row.length=k/\k≠0/\K (.Cw row 0)
 | _=>False
def JM (x:AV) (i:Nat) (K:AV->Prop):Prop:=match x with
 | .tuple vs=>wO vs[i]? K
 | _=>False
def HI (s:AQ) (x:AV) (K:AV->Prop):Prop:=wO (BA s x) λn=>K (AG n)
def Ib (x:AV) (K:AV->Prop):Prop:=match x with
 | .pv (.sc (.string b))=>K (AG b.data.toList.length)
 | _=>False
def Wx (x i:AV) (K:AV->Prop):Prop:=match x,i with
 | .pv (.sc (.string b)),.pv (.sc (.int _ n))=>0<=n/\∃c,b.data.toList[n.toNat]?=some c/\K (.pv (.sc (.int .u8 c.toNat)))
 | _,_=>False
def gu (k:IntKind) (n:Int) (K:AV->Prop):Prop:=K (.pv (.sc (.int k (k.wrap n))))
def DX (k:IntKind) (op:BinOp) (x y:AV) (K:AV->Prop):Prop:=match x,y with
 | .pv (.sc (.int k1 a)),.pv (.sc (.int k2 b))=>(k1=k/\k2=k)/\match op with
  | .add=>gu k (a+b) K
  | .sub=>gu k (a-b) K
  | .mul=>gu k (a*b) K
  | .quo=>b≠0/\gu k (a.tdiv b) K
  | .rem=>b≠0/\K (.pv (.sc (.int k (a.tmod b))))
  | .eql=>K (BB (a==b))
  | .neq=>K (BB (a != b))
  | .lss=>K (BB (a<b))
  | .leq=>K (BB (a<=b))
  | .gtr=>K (BB (a>b))
  | .geq=>K (BB (a>=b))
  | .shr=>0<=b/\K (.pv (.sc (.int k (a.fdiv (2 ^ (min b.toNat k.bits))))))
  | _=>False
 | _,_=>False
def KF (op:BinOp) (x y:AV) (K:AV->Prop):Prop:=match x,y with
 | .pv (.sc (.string a)),.pv (.sc (.string b))=>match op with
  | .add=>a.data.toList.length+b.data.toList.length<2 ^ 63/\K (.pv (.sc (.string ⟨(a.data.toList++b.data.toList).toArray⟩)))
  | .eql=>K (BB (a.data.toList==b.data.toList))
  | .neq=>K (BB (!(a.data.toList==b.data.toList)))
  | .lss=>K (BB (Op.bytesLess a.data.toList b.data.toList))
  | .leq=>K (BB (Op.bytesLess a.data.toList b.data.toList||(a.data.toList==b.data.toList)))
  | .gtr=>K (BB (!(Op.bytesLess a.data.toList b.data.toList||(a.data.toList==b.data.toList))))
  | .geq=>K (BB (!(Op.bytesLess a.data.toList b.data.toList)))
  | _=>False
 | _,_=>False
def nY (op:BinOp) (x y:AV) (K:AV->Prop):Prop:=match x,y with
 | .pv (.sc (.bool a)),.pv (.sc (.bool b))=>match op with
  | .eql=>K (BB (a==b))
  | .neq=>K (BB (!(a==b)))
  | _=>False
 | _,_=>False
def Lr (x:AV) (K:AV->Prop):Prop:=match x with
 | .pv (.sc (.bool b))=>K (BB (!b))
 | _=>False
def Uc:AV->Option Nat
 | .pv (.sc (.pointer none))=>some 0
 | .pv (.sc .nilFunc)=>some 2
 | .pv (.sc .nilIface)=>some 3
 | _=>none
abbrev WX (lk:Lk):Operand->Option Nat
 | .const v=>match v with
  | .slice none 0 0=>some 1
  | v=>Uc (ofConst v)
 | .tmp t=>match lk t with
  | some v=>Uc v
  | none=>none
 | _=>none
def wD (s:AQ) (k:Option Nat) (n m:Option Nat) (op:BinOp) (x y:AV) (K:AV->Prop):Prop:=
 (sameKind k (EI s x) m||sameKind k n (EI s y))=true/\match op with
  | .eql=>K (BB false)
  | .neq=>K (BB true)
  | _=>False
def Ud:AV->Bool
 | .pv (.sc (.pointer none))=>true
 | _=>false
def cZ (s:AQ) (n m:Option Nat) (op:BinOp) (x y:AV) (K:AV->Prop):Prop:=match Ud x&&Ud y with
 | true=>match op with
  | .eql=>K (BB true)
  | .neq=>K (BB false)
  | _=>False
 | false=>wD s (some 0) n m op x y K
def Ik (mu:Bool) (L:BL) (s:AQ) (e:TypeId) (k bytes:Nat) (x y:AV) (K:AV->AQ->Prop):Prop:=
 wO (C6 s k y) λnew=>match new with
  | []=>match x with
   | .ref id _ _ _=>alive s id=true/\K x s
   | x=>wO (rowsOf x) λ_=>K x s
  | c::cs=>((c::cs).all BD=true)/\match x with
   | .ref id off len sz=>wO s.bs[id]? λold=>(off=0/\sz=k/\len*sz<=old.length/\alive s id=true/\(len+(c::cs).length / k)*bytes<=2 ^ 45/\len+(c::cs).length / k<=2 ^ 45/\L.ro<=id) /\
     K (.ref s.bs.length 0 (len+(c::cs).length / k) sz) ⟨s.bs.set id []++[old.take (len*sz)++(c::cs)],s.ts⟩
   | .AE rows=>((rows.length+(c::cs).length / k)*bytes<=2 ^ 45/\rows.length+(c::cs).length / k<=2 ^ 45/\(rows.all λr=>r.length==k)=true) /\
     bif mu then K (.ref s.bs.length 0 (rows.length+(c::cs).length / k) k) ⟨s.bs++[rows.flatten.map .pv++(c::cs)],s.ts⟩
     else wO (Cp (c::cs)) λps=>K (.own s.ts.length (rows++CI k ((c::cs).length / k) ps)) ⟨s.bs,s.ts++[(rows.length+(c::cs).length / k,e)]⟩
   | .own t rows=>((rows.length+(c::cs).length / k)*bytes<=2 ^ 45/\rows.length+(c::cs).length / k<=2 ^ 45/\s.ts[t]?=some (rows.length,e)/\L.rt<=t/\(rows.all λr=>r.length==k)=true) /\
     wO (Cp (c::cs)) λps=>K (.own t (rows++CI k ((c::cs).length / k) ps)) ⟨s.bs,s.ts.set t (rows.length+(c::cs).length / k,e)⟩
   | _=>False
def APZ (L:BL) (s:AQ) (e:TypeId) (k bytes:Nat) (x v:AV) (K:AV->AQ->Prop):Prop:=
 (cellsOf v).all BD=true/\wO (Cp (cellsOf v)) λrow=>row.length=k/\match x with
  | .AE rows=>((rows.length+1)*bytes<=2 ^ 45/\rows.length+1<=2 ^ 45/\(rows.all λr=>r.length==k)=true)/\K (.own s.ts.length (rows++[row])) ⟨s.bs,s.ts++[(rows.length+1,e)]⟩
  | .own t rows=>((rows.length+1)*bytes<=2 ^ 45/\rows.length+1<=2 ^ 45/\s.ts[t]?=some (rows.length,e)/\L.rt<=t/\(rows.all λr=>r.length==k)=true)/\K (.own t (rows++[row])) ⟨s.bs,s.ts.set t (rows.length+1,e)⟩
  | _=>False
def qA (s:AQ) (k:Nat) (x:AV) (lo hi mx:Option AV) (K:AV->Prop):Prop:=match x with
 | .ref id off len sz=>∃l h,Fy 0 lo=some l/\Fy len hi=some h/\match mx with
  | none=>(l<=h/\h<=len/\sz=k/\k≠0/\alive s id=true)/\K (if l=h then .pv (.list []) else .ref id (off+l*k) (h-l) sz)
  | some m=>(l=h/\h<=len/\HS m=some h/\hi.isSome=true/\alive s id=true)/\K (.AE [])
 | x=>wO (rowsOf x) λrows=>∃l h,Fy 0 lo=some l/\Fy rows.length hi=some h/\(l<=h/\h<=rows.length/\(rows.all λr=>r.length==k)=true)/\match mx with
  | none=>K (.pv (.list ((rows.take h).drop l)))
  | some m=>(HS m=some h/\hi.isSome=true)/\K (.AE ((rows.take h).drop l))
def Od (k:IntKind) (x:AV) (K:AV->Prop):Prop:=match x with
 | .pv (.sc (.int _ n))=>K (.pv (.sc (.int k (k.wrap n))))
 | _=>False
def WY (E:Env) (L:BL) (lk:Lk) (s:AQ) (o:Oper) (K:AV->AQ->Prop):Prop:=
 ∃v s',(∀U,Hj lk U->Ci E L U s o=some (v,s'))/\K v s'
def He (E:Env) (L:BL) (f:AV) (args:List AV) (s:AQ) (K:AV->AQ->Prop):Prop:=match f with
 | .func (.func g) first captured=>∃v s',BW E L g (first++args++captured) s v s'/\K v s'
 | _=>False
abbrev ldK (P:Program) (t:TypeId):Option (Option Nat):=match P.underlying t,P.info? t with
 | some d,some i=>match d with
  | .struct _|.array _ _=>if i.size≠0 then some (some i.size) else none
  | _=>some none
 | _,_=>none
abbrev zY (P:Program) (t:TypeId) (f:Nat):Option Field:=match P.underlying t with
 | some (.struct fields)=>fields[f]?
 | _=>none
abbrev zZ (P:Program) (t:TypeId):Option (Nat->Option (Nat×Nat)):=match P.underlying t with
 | some (.struct fields)=>bif fields.all (λf=>(D2 P f.type).isSome) then some (TF P fields) else none
 | some (.array _ elem)=>match D2 P elem with
  | some k=>some λi=>some (i*k,k)
  | none=>none
 | _=>none
abbrev OC (P:Program) (t:TypeId):Option (TypeId×TypeInfo×List AV):=match P.underlying t with
 | some (.slice e)=>match P.info? e,zeroOf P e with
  | some i,some z=>some (e,i,z)
  | _,_=>none
 | _=>none
abbrev ACJ (lk:Lk):Option Operand->Option (Option AV)
 | none=>some none
 | some x=>match Iz lk x with
  | some v=>some (some v)
  | none=>none
abbrev za (E:Env) (L:BL) (lk:Lk) (s:AQ) (o:Oper) (K:AV->AQ->Prop):Prop:=
 match o.op with
 | .move x=>wO (Iz lk x) λx=>K x s
 | .assign x=>wO (Iz lk x) λx=>K x s
 | .pick c a b=>wO (Iz lk c) λc=>wO (Iz lk a) λa=>wO (Iz lk b) λb=>HW c a b λv=>K v s
 | .alloc t=>wO (zeroOf E.P t) λz=>Ia s (N0 E s.bs.length t z) K
 | .box t x=>wO (Iz lk x) λx=>match E.bz t with
  | true=>Js s t x K
  | false=>Mt s x K
 | .build t parts=>wO (zeroOf E.P t) λz=>wO (zZ E.P t) λpl=>wO (rS lk pl parts.toList) λps=>Fh z ps λv=>K v s
 | .buildSlice t len parts=>wO (OC E.P t) λe=>wO (rS lk (λi=>some (i*e.2.1.size,e.2.1.size)) parts.toList) λps=>HJ (muL L e.1) s e.2.1.size e.2.2 len ps K
 | .load t a=>wO (Iz lk a) λa=>wO (ldK E.P t) λk=>D5 E s k a λv=>K v s
 | .store t a x=>wO (Iz lk a) λa=>wO (Iz lk x) λx=>wO (D2 E.P t) λk=>IM L s k a x λs=>K (.tuple []) s
 | .nilCheck x=>wO (Iz lk x) λx=>JN s x λv=>K v s
 | .fieldAddr t x f=>wO (Iz lk x) λx=>wO (zY E.P t f) λf=>wO (D2 E.P f.type) λk=>match k with
  | 0=>False
  | _+1=>E2 s x f.offset λv=>K v s
 | .field t x f=>wO (Iz lk x) λx=>wO (zY E.P t f) λf=>wO (ldK E.P f.type) λk=>AMR k x f.offset λv=>K v s
 | .indexAddr t x i=>wO (Iz lk x) λx=>wO (Iz lk i) λi=>match E.P.underlying t with
  | some (.slice e)=>wO (D2 E.P e) λk=>NC s k x i λv=>K v s
  | _=>WY E L lk s o K
 | .extract x i=>wO (Iz lk x) λx=>JM x i λv=>K v s
 | .makeFunc fn first captured=>wO (rR lk first.toList) λa=>wO (rR lk captured.toList) λb=>K (.func fn a b) s
 | .makeInterface t x=>wO (Iz lk x) λx=>match E.P.underlying t with
  | some (.interface _)=>False
  | some _=>K (.iface t x) s
  | none=>False
 | .slice t x lo hi mx=>match E.P.underlying t with
  | some (.slice e)=>wO (D2 E.P e) λk=>wO (Iz lk x) λx=>wO (ACJ lk lo) λlo=>wO (ACJ lk hi) λhi=>wO (ACJ lk mx) λmx=>qA s k x lo hi mx λv=>K v s
  | _=>WY E L lk s o K
 | .call { callee:=.builtin .len,args:=args,argTypes:=ts }=>match args.toList,ts.toList with
  | [x],[t]=>wO (Iz lk x) λx=>match E.P.underlying t with
   | some .string=>Ib x λv=>K v s
   | some (.slice _)=>HI s x λv=>K v s
   | _=>WY E L lk s o K
  | _,_=>False
 | .call { callee:=.builtin .append,args:=args,argTypes:=ts }=>match args.toList,ts.toList with
  | [x,y],t::u::_=>match E.P.underlying u with
   | some (.int _)=>False
   | some _=>wO (Iz lk x) λx=>wO (Iz lk y) λy=>wO (OC E.P t) λe=>(e.2.2.length=e.2.1.size/\e.2.1.size≠0)/\Ik (L.mu e.1) L s e.1 e.2.1.size e.2.1.bytes x y K
   | none=>False
  | _,_=>False
 | .binOp op t x y _=>wO (Iz lk x) λa=>wO (Iz lk y) λb=>match E.P.underlying t with
  | some (.int k)=>DX k op a b λv=>K v s
  | some .string=>KF op a b λv=>K v s
  | some .bool=>nY op a b λv=>K v s
  | some (.interface _)=>WY E L lk s o K
  | some (.pointer _)=>cZ s (WX lk x) (WX lk y) op a b λv=>K v s
  | _=>wD s (C7 E.P t) (WX lk x) (WX lk y) op a b λv=>K v s
 | .unOp op _ x=>match op with
  | .not=>wO (Iz lk x) λx=>Lr x λv=>K v s
  | _=>WY E L lk s o K
 | .index t x i=>match E.P.underlying t with
  | some .string=>wO (Iz lk x) λx=>wO (Iz lk i) λi=>Wx x i λv=>K v s
  | _=>WY E L lk s o K
 | .convert a b x=>match E.P.underlying a,E.P.underlying b with
  | some (.int _),some (.int k)=>wO (Iz lk x) λx=>Od k x λv=>K v s
  | _,_=>WY E L lk s o K
 | _=>WY E L lk s o K
theorem nZ {P:Program} {t:TypeId} {k:Option Nat} {cs:List AV} {off:Nat} {K:AV->Prop} (hk:ldK P t=some k) (h:DF k cs off K):∃v,partOf P t cs off=some v/\K v:=by
 unfold ldK at hk;unfold partOf
 grind[DF]
theorem AFY {E:Env} {s:AQ} {t:TypeId} {k:Option Nat} {x:AV} {K:AV->Prop} (hk:ldK E.P t=some k) (h:D5 E s k x K):∃v,TE E s t x=some v/\K v:=by
 unfold D5 at h
 grind[TE,RX,nZ]
theorem Cl {P:Program} {α β:Type} {x:Sem α} {f:α->Sem β} {a:α} {b:β} (h:quick P x=some a) (k:quick P (f a)=some b):quick P (x >>= f)=some b:=by
 induction x with
 | pure a'=>simp only[quick,BN] at h; subst h; exact k
 | program g ih=>exact ih _ h
 | mark _ g ih=>exact ih h
 | _=>grind[quick]
theorem JZ {P:Program} {t:TypeId} {d:TypeDesc} (h:P.underlying t=some d):quick P (underlying t)=some d:=by
 unfold underlying;refine Cl (a:=P) rfl ?_;rw[h];rfl
theorem jr {E:Env} {L:BL} {U:Nat->AV} {s:AQ} {o:Oper} {op:BinOp} {t:TypeId} {x y:Operand} {c:TypeId} {xv yv v:Value} (ho:o.op=.binOp op t x y c) (hx:Am U x=.pv (.sc xv)) (hy:Am U y=.pv (.sc yv))
  (hk:C7 E.P t=none) (hg:∀a b,quick E.P (eqGuard op t a b xv yv)=some ()) (hq:quick E.P (binOp op t xv yv)=some v) (hv:Nz v=.pv (.sc v)):Ci E L U s o=some (.pv (.sc v),s):=by
 obtain⟨dst,op',type,pos,after,guard⟩:=o;simp only at ho;subst ho;simp only[Ci];cases hf:JE op (Am U x) (Am U y) with
 | some u=>
  have h1:=(N6 (P:=E.P) (g:=AP.bare λ_ _=>False) (w:=default) (t:=t) (by rw[hx]; exact V.Kc xv) (by rw[hy]; exact V.Kc yv) hf).1
  simp_all[Wi]
 | none=>
  have hn:Ir E.P s U op t x y=none:=by simp[*,Ir,sameKind]
  simp only[hn]
  have hq':C4 E U ⟨dst,.binOp op t x y c,type,pos,after,guard⟩=some (.pv (.sc v)):=by
   unfold C4;have hall:Ev U (Op.operands (.binOp op t x y c)).toList=true:=by grind[Ev,Op.operands,Hl]
   rw[if_pos hall]
   have:quick E.P (execOp (λz=>(Hl (Am U z)).getD undef) ⟨dst,.binOp op t x y c,type,pos,after,guard⟩)=some (.value v):=by
    simp only[execOp,hx,hy,Hl,II];exact Cl (Cl (hg x y) hq) rfl
   grind
  rw[hq']
theorem rT {P:Program} {op:BinOp} {t:TypeId} {a b:Operand} {k1 k2:IntKind} {m n:Int}:quick P (eqGuard op t a b (.int k1 m) (.int k2 n))=some ():=by
 unfold eqGuard;split <;> rfl
theorem rU {P:Program} {op:BinOp} {t:TypeId} {a b:Operand} {m n:ByteArray}:quick P (eqGuard op t a b (.string m) (.string n))=some ():=by
 unfold eqGuard;split <;> rfl
theorem js {P:Program} {op:BinOp} {t:TypeId} {a b:Operand} {m n:Bool}:quick P (eqGuard op t a b (.bool m) (.bool n))=some ():=by
 unfold eqGuard;split <;> rfl
theorem AMS {E:Env} {L:BL} {U:Nat->AV} {s:AQ} {o:Oper} {op:BinOp} {t:TypeId} {x y:Operand} {c:TypeId} {k:IntKind} {K:AV->Prop} (ho:o.op=.binOp op t x y c) (ht:E.P.underlying t=some (.int k))
  (h:DX k op (Am U x) (Am U y) K):∃v,Ci E L U s o=some (v,s)/\K v:=by
 unfold DX at h;split at h
 .rename_i k1 a k2 b hx hy
  obtain⟨⟨e1,e2⟩,h⟩:=h;subst e1;subst e2;have hk:C7 E.P t=none:=by simp[C7,ht]
  have go:∀v,quick E.P (binOp op t (.int k2 a) (.int k2 b))=some v->Nz v=.pv (.sc v)->K (.pv (.sc v))->∃v,Ci E L U s o=some (v,s)/\K v:=λv h1 h2 h3=>
   ⟨_,jr ho hx hy hk (λ_ _=>rT) h1 h2,h3⟩
  cases op <;> first
   | grind
   | exact go _ (by simp[binOp,Op.intArith]; rfl) rfl h
   | exact go _ (by simp[binOp,Op.intCmp]; rfl) rfl h
   | exact go _ (by simp[binOp,Op.intDiv,h.1]; rfl) rfl h.2
   | exact go _ (by simp[binOp,Op.shift,Int.not_lt.2 h.1]; rfl) rfl h.2
 grind
theorem AMT {E:Env} {L:BL} {U:Nat->AV} {s:AQ} {o:Oper} {op:BinOp} {t:TypeId} {x y:Operand} {c:TypeId} {K:AV->Prop} (ho:o.op=.binOp op t x y c) (ht:E.P.underlying t=some .string)
  (h:KF op (Am U x) (Am U y) K):∃v,Ci E L U s o=some (v,s)/\K v:=by
 unfold KF at h;split at h
 .rename_i a b hx hy
  have hk:C7 E.P t=none:=by simp[C7,ht]
  have go:∀v,quick E.P (Op.stringOp op a b)=some v->Nz v=.pv (.sc v)->K (.pv (.sc v))->∃v,Ci E L U s o=some (v,s)/\K v:=λv h1 h2 h3=>
   ⟨_,jr ho hx hy hk (λ_ _=>rU) (by simpa[binOp] using h1) h2,h3⟩
  cases op <;> first
   | grind
   | exact go _ (by simp only[Op.stringOp,Go.ByteArray.toList_eq]; rfl) rfl h
   | skip
  obtain⟨h1,h2⟩:=h;have e:(a++b)=(⟨(a.data.toList++b.data.toList).toArray⟩:ByteArray):=AR;refine go (.string (a++b)) ?_ rfl AB
  have hl:¬ ((a.size+b.size:Nat):Int)>IntKind.i64.max:=by
   have h3:a.size=a.data.toList.length:=(IG (xs:=a.data)).symm;have h4:b.size=b.data.toList.length:=(IG (xs:=b.data)).symm;have h5:IntKind.i64.max=9223372036854775807:=AR;omega
  simp only[Op.stringOp,if_neg hl];rfl
 grind
theorem ACK {E:Env} {L:BL} {U:Nat->AV} {s:AQ} {o:Oper} {op:BinOp} {t:TypeId} {x y:Operand} {c:TypeId} {K:AV->Prop} (ho:o.op=.binOp op t x y c) (ht:E.P.underlying t=some .bool)
  (h:nY op (Am U x) (Am U y) K):∃v,Ci E L U s o=some (v,s)/\K v:=by
 unfold nY at h;split at h
 .rename_i a b hx hy
  have hk:C7 E.P t=none:=by simp[C7,ht]
  have hq:quick E.P (Op.equal t (.bool a) (.bool b))=some (a==b):=by
   unfold Op.equal;obtain⟨m,hm⟩:∃m,Op.maxDepth=m+1:=⟨9999,rfl⟩;rw[hm];unfold Op.equalIn;have hu:quick E.P (underlying t)=some .bool:=JZ ht;exact Cl hu rfl
  have go:∀v,quick E.P (binOp op t (.bool a) (.bool b))=some v->Nz v=.pv (.sc v)->K (.pv (.sc v))->∃v,Ci E L U s o=some (v,s)/\K v:=λv h1 h2 h3=>
   ⟨_,jr ho hx hy hk (λ_ _=>js) h1 h2,h3⟩
  cases op <;> first
   | grind
   | exact go _ (Cl hq rfl) rfl h
 grind
theorem YG {U:Nat->AV} {x:Operand} {k:Nat} (hx:∀a b c,x≠.const (.slice a b c)) (h:Uc (Am U x)=some k):Fp U x=some k:=by grind[Uc,Fp]
theorem jt {a:Option Addr} {b c:Nat}:Uc (ofConst (.slice a b c))=none:=by
 show Uc (Hw (.slice a b c))=none
 unfold Hw;split
 .rfl
 rfl
theorem ng {lk:Lk} {U:Nat->AV} (hA:Hj lk U) {x:Operand} {k:Nat} (h:WX lk x=some k):Fp U x=some k:=by
 cases x with
 | const v=>
  by_cases hz:v=.slice none 0 0
  .subst hz
   exact h
  .have h:Uc (ofConst v)=some k:=by grind
   by_cases hs:∃a b c,v=.slice a b c
   .grind[jt]
   .exact YG (λa b c e=>hs ⟨a,b,c,AB⟩) h
 | tmp t=>
  grind[YG,CV]
 | global g=>grind
 | func f=>grind
theorem zb {E:Env} {L:BL} {lk:Lk} {U:Nat->AV} (hA:Hj lk U) {s:AQ} {o:Oper} {op:BinOp} {t:TypeId} {x y:Operand} {c:TypeId} {K:AV->Prop} (ho:o.op=.binOp op t x y c)
  (h:wD s (C7 E.P t) (WX lk x) (WX lk y) op (Am U x) (Am U y) K):∃v,Ci E L U s o=some (v,s)/\K v:=by
 obtain⟨dst,op',type,pos,after,guard⟩:=o;simp only at ho;subst ho;obtain⟨h1,h2⟩:=h
 have hs:(sameKind (C7 E.P t) (EI s (Am U x)) (Fp U y)||sameKind (C7 E.P t) (Fp U x) (EI s (Am U y)))=true:=by
  simp only[De] at h1 ⊢;rcases h1 with h1|h1
  .left
   obtain⟨k,e1,e2,e3⟩:=E1 h1;rw[ng hA e3,e1,e2];simp[sameKind]
  .right
   obtain⟨k,e1,e2,e3⟩:=E1 h1;rw[ng hA e2,e1,e3];simp[sameKind]
 have hf:JE op (Am U x) (Am U y)=none:=by
  simp only[De] at hs;rcases hs with hs|hs
  .obtain⟨k,e1,e2,e3⟩:=E1 hs
   cases hx:Am U x <;> simp[hx,EI,rowsOf] at e2 ⊢ <;> try rfl
   rename_i p;cases p with
   | sc v=>simp[rowsOf] at e2
   | list rows=>rfl
  .obtain⟨k,e1,e2,e3⟩:=E1 hs
   cases hy:Am U y <;> simp[hy,EI,rowsOf] at e3
   all_goals
    unfold JE
    grind
 grind[Ci,Ir]
theorem YH {v:AV} (h:Ud v=true):v=.pv (.sc (.pointer none)):=by grind[Ud]
theorem ju {P:Program} {t e:TypeId} {x y:Operand} (ht:P.underlying t=some (.pointer e)) :
  quick P (do eqGuard .eql t x y (.pointer none) (.pointer none); binOp .eql t (.pointer none) (.pointer none))=some (.bool true)/\quick P (do eqGuard .neq t x y (.pointer none) (.pointer none); binOp .neq t (.pointer none) (.pointer none))=some (.bool false):=by
 have he:quick P (Op.equal t (.pointer none) (.pointer none))=some true:=by
  show quick P (Op.equalIn (9999+1) t (.pointer none) (.pointer none))=some true
  unfold Op.equalIn;exact Cl (JZ ht) rfl
 constructor
 .refine Cl (a:=()) rfl ?_
  exact Cl he rfl
 .refine Cl (a:=()) rfl ?_
  exact Cl he rfl
theorem AMU {E:Env} {L:BL} {lk:Lk} {U:Nat->AV} (hA:Hj lk U) {s:AQ} {o:Oper} {op:BinOp} {t e:TypeId} {x y:Operand} {c:TypeId} {K:AV->Prop} (ho:o.op=.binOp op t x y c) (ht:E.P.underlying t=some (.pointer e))
  (h:cZ s (WX lk x) (WX lk y) op (Am U x) (Am U y) K):∃v,Ci E L U s o=some (v,s)/\K v:=by
 unfold cZ at h;split at h
 .rename_i hb
  simp only[AH] at hb;have hx:=YH hb.1;have hy:=YH hb.2;obtain⟨q1,q2⟩:=ju (x:=x) (y:=y) ht;have hf:JE op (Am U x) (Am U y)=none:=by rw[hx,hy]; rfl
  have hn:Ir E.P s U op t x y=none:=by grind[Ir,EI,sameKind,rowsOf]
  have h1:Ev U o.op.operands.toList=true:=by
   have e:o.op.operands.toList=[x,y]:=by rw[ho]; rfl
   grind[Ev,Hl]
  have key:∀(v:Bool),quick E.P (do eqGuard op t x y (.pointer none) (.pointer none); binOp op t (.pointer none) (.pointer none))=some (.bool v)->Ci E L U s o=some (.pv (.sc (.bool v)),s):=by
   intro v hq
   have h2:C4 E U o=some (.pv (.sc (.bool v))):=by
    have:quick E.P (execOp (λz=>(Hl (Am U z)).getD undef) o)=some (.value (.bool v)):=by
     unfold execOp;rw[ho];simp only[hx,hy,Hl,II];exact Cl hq rfl
    simp only[C4,h1,Gs,this];rfl
   grind[Ci]
  grind
 .have hk:C7 E.P t=some 0:=by grind[C7]
  rw[<-hk] at h;exact zb hA ho h
theorem Nu {P:Program} {t:TypeId} {e:TypeId×TypeInfo×List AV} (h:OC P t=some e):P.underlying t=some (.slice e.1)/\P.info? e.1=some e.2.1/\zeroOf P e.1=some e.2.2:=AB
theorem ACL {lk:Lk} {U:Nat->AV} (hA:Hj lk U) {x:Option Operand} {v:Option AV} (h:ACJ lk x=some v):x.map (Am U)=v:=by grind[CV]
theorem AMV {P:Program} {s:AQ} {t e:TypeId} {k:Nat} {x:AV} {lo hi mx:Option AV} {K:AV->Prop} (ht:P.underlying t=some (.slice e)) (hk:D2 P e=some k):qA s k x lo hi mx K ->
  ∃v,QW P s t x lo hi mx=some v/\K v:=by
 unfold QW;simp only[ht,hk];intro h;cases x with
 | ref id off len sz=>
  obtain⟨l,h',h1,h2,h3⟩:=h
  grind
 | pv p=>
  obtain⟨rows,hr,h⟩:=BT h
  grind
 | AE p=>
  obtain⟨l,h',h1,h2,h3,h4⟩:=h
  grind[rowsOf]
 | own t p=>
  obtain⟨l,h',h1,h2,h3,h4⟩:=h
  grind[rowsOf]
 | _=>exact h.elim
theorem AMW {P:Program} {L:BL} {s:AQ} {t:TypeId} {e:TypeId×TypeInfo×List AV} {x y:AV} {K:AV->AQ->Prop} (he:OC P t=some e) (hz:e.2.2.length=e.2.1.size/\e.2.1.size≠0)
  (h:Ik (L.mu e.1) L s e.1 e.2.1.size e.2.1.bytes x y K):∃v s',JD P L s t x y=some (v,s')/\K v s':=by
 obtain⟨e1,e2,e3⟩:=Nu he;unfold JD;simp only[e1,e2,e3,NQ];rw[if_pos ⟨AB,hz.2⟩];obtain⟨new,h1,h⟩:=BT h;simp only[h1];cases new with
 | nil=>
  grind
 | cons c cs=>
  grind
theorem Ks {E:Env} {L:BL} {lk:Lk} {U:Nat->AV} {s:AQ} {o:Oper} {K:AV->AQ->Prop} (hA:Hj lk U) (h:WY E L lk s o K):∃v s',Ci E L U s o=some (v,s')/\K v s':=by
 obtain⟨v,s',h1,h2⟩:=h
 grind
theorem ACN {P:Program} {a b:TypeId} {k k1 k2:IntKind} {n:Int} (ha:P.underlying a=some (.int k1)) (hb:P.underlying b=some (.int k)):quick P (convert a b (.int k2 n))=some (.int k (k.wrap n)):=by
 unfold convert;have h1:quick P (underlying a)=some (.int k1):=JZ ha;have h2:quick P (underlying b)=some (.int k):=JZ hb;exact Cl h1 (Cl h2 rfl)
theorem YI {E:Env} {L:BL} {lk:Lk} {U:Nat->AV} {s:AQ} {o:Oper} {K:AV->AQ->Prop} (hA:Hj lk U) (h:za E L lk s o K):∃v s',Ci E L U s o=some (v,s')/\K v s':=by
 obtain⟨dst,op,type,pos,after,guard⟩:=o;cases op with
 | move x=>
  grind[Ci,CV]
 | assign x=>
  grind[Ci,CV]
 | pick c a b=>
  obtain⟨cv,h1,h⟩:=BT h;obtain⟨av,h2,h⟩:=BT h;obtain⟨bv,h3,h⟩:=BT h;unfold HW at h
  grind[Ci,CV]
 | alloc t=>
  obtain⟨z,h1,h2⟩:=BT h;exact⟨_,_,by simp only[Ci,h1]; rfl,h2⟩
 | box t x=>
  obtain⟨a,h1,h⟩:=BT h;cases hb:E.bz t with
  | true=>
   rw[hb] at h;obtain⟨h2,h3⟩:=h;exact⟨_,_,by simp only[Ci,CV hA h1,if_pos h2,N0,hb,AM]; rfl,h3⟩
  | false=>
   rw[hb] at h;obtain⟨h2,h3⟩:=h;exact⟨_,_,by simp only[Ci,CV hA h1,if_pos h2,N0,hb,AK]; rfl,h3⟩
 | build t parts=>
  obtain⟨z,h1,h⟩:=BT h;obtain⟨pl,h2,h⟩:=BT h;obtain⟨ps,h3,h⟩:=BT h;obtain⟨cs,h4,h5⟩:=BT h
  grind[Vd,TG,Ci]
 | buildSlice t len parts=>
  obtain⟨e,h1,h⟩:=BT h;obtain⟨ps,h2,hz,h⟩:=BT h;obtain⟨cs,h3,h⟩:=BT h;obtain⟨e1,e2,e3⟩:=Nu h1;have hf:=Vd hA (cells:=Fu len e.2.2) h2;rw[h3] at hf
  have:∀v s',(bif muL L e.1&&Nat.blt 0 len then some (AV.ref s.bs.length 0 len e.2.1.size,{ s with bs:=s.bs++[cs] })
     else match Cp cs with
     | some ps=>some (.AE (CI e.2.1.size len ps),s)
     | none=>none)=some (v,s')->Ci E L U s ⟨dst,.buildSlice t len parts,type,pos,after,guard⟩=some (v,s'):=by grind[Ci,G4,D2]
  grind
 | load t a=>
  grind[AFY,Ci,CV]
 | store t a x=>
  obtain⟨av,h1,h⟩:=BT h;obtain⟨xv,h2,h⟩:=BT h;obtain⟨k,h3,h⟩:=BT h;obtain⟨i,h4,rfl⟩:=FL h3;unfold IM at h;split at h
  .obtain⟨cs,h5,h6,h7⟩:=BT h
   refine⟨_,_,?_,h7⟩;simp only[Ci,CV hA h1,CV hA h2,OD,h4,RX,h5,if_pos h6]
  grind
 | nilCheck x=>
  obtain⟨a,h1,h⟩:=BT h
  have:∃v,Kw s a=some v/\K v s:=by
   unfold JN at h
   grind[Kw]
  grind[Ci,CV]
 | fieldAddr t x f=>
  obtain⟨a,h1,h⟩:=BT h;obtain⟨fd,h2,h⟩:=BT h;obtain⟨k,h3,h⟩:=BT h;cases k with
  | zero=>grind
  | succ k=>
   simp only at h;have:∃v,Hx E.P s t a f=some v/\K v s:=by grind[Hx,E2]
   grind[Ci,CV]
 | field t x f=>
  obtain⟨a,h1,h⟩:=BT h;obtain⟨fd,h2,h⟩:=BT h;obtain⟨k,h3,h⟩:=BT h;unfold AMR at h;split at h
  .rename_i cs
   obtain⟨v,h4,h5⟩:=nZ h3 h;refine⟨v,s,?_,h5⟩;unfold zY at h2;split at h2
   .rename_i fields hu
    simp only[Ci,CV hA h1,TH,hu,h2,h4]
   grind
  grind
 | indexAddr t x i=>
  obtain⟨a,h1,h⟩:=BT h;obtain⟨b,h2,h⟩:=BT h;split at h
  .rename_i e ht
   obtain⟨k,h3,h⟩:=BT h
   have:∃v,Hy E.P s t a b=some v/\K v s:=by
    unfold Hy;unfold NC at h
    grind[YZ,rowsOf]
   grind[Ci,CV]
  grind[Ks]
 | extract x i=>
  obtain⟨a,h1,h⟩:=BT h;unfold JM at h
  grind[Ci,CV,Me]
 | makeFunc fn first captured=>
  grind[Ci,aF]
 | makeInterface t x=>
  grind[Ci,CV]
 | slice t x lo hi mx=>
  simp only[za] at h;split at h
  .rename_i e ht
   obtain⟨k,h1,h⟩:=BT h;obtain⟨a,h2,h⟩:=BT h;obtain⟨l,h3,h⟩:=BT h;obtain⟨hh,h4,h⟩:=BT h;obtain⟨m,h5,h⟩:=BT h;obtain⟨v,h6,h7⟩:=AMV ht h1 h
   grind[Ci,CV,ACL]
  grind[Ks]
 | call c=>
  obtain⟨callee,args,ts⟩:=c;cases callee with
  | builtin b=>
   cases b with
   | len=>
    simp only[za] at h;split at h
    .rename_i x t hx ht
     obtain⟨a,h1,h⟩:=BT h;split at h
     .rename_i hu
      unfold Ib at h
      grind[Ci,CV,NY]
     .rename_i e hu
      obtain⟨n,h2,h3⟩:=BT h;refine⟨_,s,?_,h3⟩
      have hf:NY E.P t a=none:=by
       unfold NY
       grind
      grind[Ci,CV]
     grind[Ks]
    grind
   | append=>
    simp only[za] at h;split at h
    .rename_i x y t u us hx ht
     split at h
     .grind
     .rename_i d hne hd
      obtain⟨a,h1,h⟩:=BT h;obtain⟨b,h2,h⟩:=BT h;obtain⟨e,h3,h4,h5⟩:=BT h
      grind[AMW,Ci,CV]
     grind
    grind
   | _=>grind[Ks]
  | _=>grind[Ks]
 | binOp op t x y c=>
  obtain⟨a,h1,h⟩:=BT h;obtain⟨b,h2,h⟩:=BT h;have aM:=CV hA h1;have h2':=CV hA h2;subst aM h2';split at h
  .rename_i k ht
   obtain⟨v,h3,h4⟩:=AMS (L:=L) (s:=s) (o:=⟨dst,.binOp op t x y c,type,pos,after,guard⟩) rfl ht h
   grind
  .rename_i ht
   obtain⟨v,h3,h4⟩:=AMT (L:=L) (s:=s) (o:=⟨dst,.binOp op t x y c,type,pos,after,guard⟩) rfl ht h
   grind
  .rename_i ht
   obtain⟨v,h3,h4⟩:=ACK (L:=L) (s:=s) (o:=⟨dst,.binOp op t x y c,type,pos,after,guard⟩) rfl ht h
   grind
  .grind[Ks]
  .rename_i ht
   obtain⟨v,h3,h4⟩:=AMU (L:=L) hA (o:=⟨dst,.binOp op t x y c,type,pos,after,guard⟩) rfl ht h
   grind
  .obtain⟨v,h3,h4⟩:=zb (L:=L) hA (o:=⟨dst,.binOp op t x y c,type,pos,after,guard⟩) rfl h
   grind
 | unOp op t x=>
  simp only[za] at h;split at h
  .obtain⟨a,h1,h⟩:=BT h
   unfold Lr at h
   grind[Ci,CV,Ye]
  grind[Ks]
 | index t x i=>
  simp only[za] at h;split at h
  .rename_i ht
   obtain⟨a,h1,h⟩:=BT h;obtain⟨b,h2,h⟩:=BT h;unfold Wx at h
   grind[Ci,CV,NW]
  grind[Ks]
 | convert a b x=>
  simp only[za] at h;split at h
  .rename_i k1 k ha hb
   obtain⟨v,h1,h⟩:=BT h;unfold Od at h;split at h
   .rename_i k2 n
    refine⟨_,s,?_,h⟩
    have hq:C4 E U ⟨dst,.convert a b x,type,pos,after,guard⟩=some (.pv (.sc (.int k (k.wrap n)))):=by
     unfold C4;have hall:Ev U (Op.operands (.convert a b x)).toList=true:=by grind[Ev,Op.operands,CV,Hl]
     rw[if_pos hall]
     have:quick E.P (execOp (λz=>(Hl (Am U z)).getD undef) ⟨dst,.convert a b x,type,pos,after,guard⟩)=some (.value (.int k (k.wrap n))):=by
      simp only[execOp,CV hA h1,Hl,II];exact Cl (ACN ha hb) rfl
     rw[this];rfl
    grind[Ci]
   grind
  grind[Ks]
 | _=>grind[Ks]
end Go.Tel
