/-
  Arguments that are not known: what a single operation needs so that it answers as wanted.
-/
import Derived.Test.YtpgfpakdnijngaaGreatDoorEvI
set_option linter.all false
namespace Go.Tel
abbrev Lk:=Nat->Option AV
abbrev AA (n:Int):AV:=.pv (.sc (.int .i64 n))
abbrev BB (b:Bool):AV:=.pv (.sc (.bool b))
abbrev SS (l:List UInt8):AV:=.pv (.sc (.string ⟨l.toArray⟩))
def A8 (E:Env) (L:A3) (f:FuncId) (args:List AV) (s:AM) (v:AV) (s':AM):Prop:=
 ∃n,∀m,n<=m->DG E m L f args s=some (v,s')
def G5 (lk:Lk) (ρ:Nat->AV):Prop:=∀t v,lk t=some v->ρ t=v
abbrev wO {α:Type} (x:Option α) (K:α->Prop):Prop:=match x with
 | some a=>K a
 | none=>False
theorem BC {α:Type} {x:Option α} {K:α->Prop} (h:wO x K):∃a,x=some a/\K a:=by grind
abbrev IE (lk:Lk):Operand->Option AV
 | .tmp t=>lk t
 | .const v=>some (ofConst v)
 | .global g=>some (.DM g 0)
 | .func f=>some (.func (.func f) [] [])
theorem CA {lk:Lk} {ρ:Nat->AV} (hA:G5 lk ρ) {x:Operand} {v:AV} (h:IE lk x=some v):AX ρ x=v:=by
 cases x with
 | tmp t=>exact hA t v h
 | const u=>grind[AX]
 | global g=>grind[AX]
 | func f=>grind[AX]
abbrev qE (lk:Lk):List Operand->Option (List AV)
 | []=>some []
 | x::xs=>match IE lk x,qE lk xs with
  | some a,some as=>some (a::as)
  | _,_=>none
theorem ZS {lk:Lk} {ρ:Nat->AV} (hA:G5 lk ρ):∀{xs:List Operand} {vs:List AV},qE lk xs=some vs->xs.map (AX ρ)=vs
 | [],vs,h=>by grind
 | x::xs,vs,h=>by
  simp only[qE] at h;split at h
  .rename_i a as h1 h2
   simp at h; subst h;simp[CA hA h1,ZS hA h2]
  grind
abbrev qG (lk:Lk) (place:Nat->Option (Nat×Nat)):List (Nat×Operand)->Option (List (Nat×Nat×AV))
 | []=>some []
 | (i,x)::xs=>match place i,IE lk x,qG lk place xs with
  | some (off,size),some a,some as=>some ((off,size,a)::as)
  | _,_,_=>none
def GC (cells:List AV):List (Nat×Nat×AV)->Option (List AV)
 | []=>some cells
 | (off,size,v)::rest=>if (cellsOf v).length=size/\off+size<=cells.length/\(cellsOf v).all A1=true then GC (setCells cells off (cellsOf v)) rest else none
theorem UY {lk:Lk} {ρ:Nat->AV} (hA:G5 lk ρ) {place:Nat->Option (Nat×Nat)}:∀{parts:List (Nat×Operand)} {ps:List (Nat×Nat×AV)} {cells:List AV},qG lk place parts=some ps ->
  La place cells (parts.map λp=>(p.1,AX ρ p.2))=GC cells ps
 | [],ps,cells,h=>by
  simp[qG] at h; subst h;rfl
 | (i,x)::parts,ps,cells,h=>by
  simp only[qG] at h;split at h
  .rename_i off size a as h1 h2 h3
   simp at h; subst h;simp only[Bz,La,h1,CA hA h2,GC];split
   .exact UY hA h3
   rfl
  grind
def Ay (c a b:AV) (K:AV->Prop):Prop:=match c with
 | .pv (.sc (.bool t))=>K (bif t then a else b)
 | _=>False
def Bw (s:AM) (cs:List AV) (K:AV->AM->Prop):Prop:=K (.ptr s.bs.length 0) ⟨s.bs++[cs],s.ts⟩
def B6 (s:AM) (x:AV) (K:AV->AM->Prop):Prop:=(cellsOf x).all A1=true/\Bw s (cellsOf x) K
def KT (id:Nat) (t:TypeId):List AV->List AV
 | .pv (.sc (.pointer none))::r=>.bz id t (r.length+1)::r
 | z=>z
def KS (s:AM) (t:TypeId) (x:AV) (K:AV->AM->Prop):Prop:=(cellsOf x).all A1=true/\Bw s (KT s.bs.length t (cellsOf x)) K
def C1 (z:List AV) (ps:List (Nat×Nat×AV)) (K:AV->Prop):Prop:=wO (GC z ps) λcs=>K (.agg cs)
def Dc (mu:Bool) (s:AM) (k:Nat) (z:List AV) (len:Nat) (ps:List (Nat×Nat×AV)) (K:AV->AM->Prop):Prop:=
 (len*k<=2 ^ 24/\z.length=k/\k≠0)/\wO (GC (Fz len z) ps) λcs=>
  bif mu&&Nat.blt 0 len then K (.ref s.bs.length 0 len k) ⟨s.bs++[cs],s.ts⟩ else wO (Cm cs) λps=>K (.AB (CD k len ps)) s
def DQ (k:Option Nat) (cs:List AV) (off:Nat) (K:AV->Prop):Prop:=match k with
 | some k=>off+k<=cs.length/\K (.agg ((cs.drop off).take k))
 | none=>wO cs[off]? K
def EG (E:Env) (s:AM) (k:Option Nat) (x:AV) (K:AV->Prop):Prop:=match x with
 | .ptr id off=>wO s.bs[id]? λcs=>DQ k cs off K
 | .DM g off=>wO (E.G g) λrow=>DQ k (row.map .pv) off K
 | .C8 row off=>DQ k (row.map .pv) off K
 | _=>False
def CR (L:A3) (s:AM) (k:Nat) (a x:AV) (K:AM->Prop):Prop:=match a with
 | .ptr id off=>wO s.bs[id]? λcs=>((cellsOf x).length=k/\off+(cellsOf x).length<=cs.length/\L.ro<=id/\(cellsOf x).all A1=true/\(L.n0<=id\/IM (cellsOf x)=true)/\k≠0)/\K ⟨s.bs.set id (setCells cs off (cellsOf x)),s.ts⟩
 | _=>False
def D0 (s:AM) (x:AV) (K:AV->Prop):Prop:=match x with
 | .ptr id off=>alive s id=true/\K (.ptr id off)
 | .DM g off=>K (.DM g off)
 | .C8 r off=>K (.C8 r off)
 | .func (.func f) a b=>K (.func (.func f) a b)
 | _=>False
def BD (s:AM) (x:AV) (d:Nat) (K:AV->Prop):Prop:=match x with
 | .ptr id off=>alive s id=true/\K (.ptr id (off+d))
 | .DM g off=>K (.DM g (off+d))
 | .C8 r off=>K (.C8 r (off+d))
 | _=>False
def xA (k:Option Nat) (x:AV) (off:Nat) (K:AV->Prop):Prop:=match x with
 | .agg cs=>DQ k cs off K
 | _=>False
def Cl (s:AM) (k:Nat) (x ix:AV) (K:AV->Prop):Prop:=match ix with
 | .pv (.sc (.int _ i))=>match x with
  | .ref id off len sz=>(0<=i/\i<len/\sz=k/\alive s id=true)/\K (.ptr id (off+i.toNat*k))
  | x=>wO (rowsOf x) λrows=>0<=i/\∃row,rows[i.toNat]?=some row/\row.length=k/\k≠0/\K (.C8 row 0)
 | _=>False
def DC (x:AV) (i:Nat) (K:AV->Prop):Prop:=match x with
 | .tuple vs=>wO vs[i]? K
 | _=>False
def BV (s:AM) (x:AV) (K:AV->Prop):Prop:=wO (BN s x) λn=>K (AA n)
def GL (x:AV) (K:AV->Prop):Prop:=match x with
 | .pv (.sc (.string b))=>K (AA b.data.toList.length)
 | _=>False
def L9 (x i:AV) (K:AV->Prop):Prop:=match x,i with
 | .pv (.sc (.string b)),.pv (.sc (.int _ n))=>0<=n/\∃c,b.data.toList[n.toNat]?=some c/\K (.pv (.sc (.int .u8 c.toNat)))
 | _,_=>False
def fV (k:IntKind) (n:Int) (K:AV->Prop):Prop:=K (.pv (.sc (.int k (k.wrap n))))
def Cb (k:IntKind) (op:BinOp) (x y:AV) (K:AV->Prop):Prop:=match x,y with
 | .pv (.sc (.int k1 a)),.pv (.sc (.int k2 b))=>(k1=k/\k2=k)/\match op with
  | .add=>fV k (a+b) K
  | .sub=>fV k (a-b) K
  | .mul=>fV k (a*b) K
  | .quo=>b≠0/\fV k (a.tdiv b) K
  | .rem=>b≠0/\K (.pv (.sc (.int k (a.tmod b))))
  | .eql=>K (BB (a==b))
  | .neq=>K (BB (a != b))
  | .lss=>K (BB (a<b))
  | .leq=>K (BB (a<=b))
  | .gtr=>K (BB (a>b))
  | .geq=>K (BB (a>=b))
  | .shr=>0<=b/\K (.pv (.sc (.int k (a.fdiv (2 ^ (min b.toNat k.bits))))))
  | _=>False
 | _,_=>False
def Fi (op:BinOp) (x y:AV) (K:AV->Prop):Prop:=match x,y with
 | .pv (.sc (.string a)),.pv (.sc (.string b))=>match op with
  | .add=>a.data.toList.length+b.data.toList.length<2 ^ 63/\K (.pv (.sc (.string ⟨(a.data.toList++b.data.toList).toArray⟩)))
  | .eql=>K (BB (a.data.toList==b.data.toList))
  | .neq=>K (BB (!(a.data.toList==b.data.toList)))
  | .lss=>K (BB (Op.bytesLess a.data.toList b.data.toList))
  | .leq=>K (BB (Op.bytesLess a.data.toList b.data.toList||(a.data.toList==b.data.toList)))
  | .gtr=>K (BB (!(Op.bytesLess a.data.toList b.data.toList||(a.data.toList==b.data.toList))))
  | .geq=>K (BB (!(Op.bytesLess a.data.toList b.data.toList)))
  | _=>False
 | _,_=>False
def AAo (op:BinOp) (x y:AV) (K:AV->Prop):Prop:=match x,y with
 | .pv (.sc (.bool a)),.pv (.sc (.bool b))=>match op with
  | .eql=>K (BB (a==b))
  | .neq=>K (BB (!(a==b)))
  | _=>False
 | _,_=>False
def DY (x:AV) (K:AV->Prop):Prop:=match x with
 | .pv (.sc (.bool b))=>K (BB (!b))
 | _=>False
def RR:AV->Option Nat
 | .pv (.sc (.pointer none))=>some 0
 | .pv (.sc .nilFunc)=>some 2
 | .pv (.sc .nilIface)=>some 3
 | _=>none
abbrev ZT (lk:Lk):Operand->Option Nat
 | .const v=>match v with
  | .slice none 0 0=>some 1
  | v=>RR (ofConst v)
 | .tmp t=>match lk t with
  | some v=>RR v
  | none=>none
 | _=>none
def vN (s:AM) (k:Option Nat) (n m:Option Nat) (op:BinOp) (x y:AV) (K:AV->Prop):Prop:=
 (sameKind k (Dv s x) m||sameKind k n (Dv s y))=true/\match op with
  | .eql=>K (BB false)
  | .neq=>K (BB true)
  | _=>False
def Td:AV->Bool
 | .pv (.sc (.pointer none))=>true
 | _=>false
def bM (s:AM) (n m:Option Nat) (op:BinOp) (x y:AV) (K:AV->Prop):Prop:=match Td x&&Td y with
 | true=>match op with
  | .eql=>K (BB true)
  | .neq=>K (BB false)
  | _=>False
 | false=>vN s (some 0) n m op x y K
def EL (mu:Bool) (L:A3) (s:AM) (e:TypeId) (k bytes:Nat) (x y:AV) (K:AV->AM->Prop):Prop:=
 wO (DN s k y) λnew=>match new with
  | []=>match x with
   | .ref id _ _ _=>alive s id=true/\K x s
   | x=>wO (rowsOf x) λ_=>K x s
  | c::cs=>((c::cs).all A1=true)/\match x with
   | .ref id off len sz=>wO s.bs[id]? λold=>(off=0/\sz=k/\len*sz<=old.length/\alive s id=true/\(len+(c::cs).length / k)*bytes<=2 ^ 45/\len+(c::cs).length / k<=2 ^ 45/\L.ro<=id) /\
     K (.ref s.bs.length 0 (len+(c::cs).length / k) sz) ⟨s.bs.set id []++[old.take (len*sz)++(c::cs)],s.ts⟩
   | .AB rows=>((rows.length+(c::cs).length / k)*bytes<=2 ^ 45/\rows.length+(c::cs).length / k<=2 ^ 45/\(rows.all λr=>r.length==k)=true) /\
     bif mu then K (.ref s.bs.length 0 (rows.length+(c::cs).length / k) k) ⟨s.bs++[rows.flatten.map .pv++(c::cs)],s.ts⟩
     else wO (Cm (c::cs)) λps=>K (.own s.ts.length (rows++CD k ((c::cs).length / k) ps)) ⟨s.bs,s.ts++[(rows.length+(c::cs).length / k,e)]⟩
   | .own t rows=>((rows.length+(c::cs).length / k)*bytes<=2 ^ 45/\rows.length+(c::cs).length / k<=2 ^ 45/\s.ts[t]?=some (rows.length,e)/\L.rt<=t/\(rows.all λr=>r.length==k)=true) /\
     wO (Cm (c::cs)) λps=>K (.own t (rows++CD k ((c::cs).length / k) ps)) ⟨s.bs,s.ts.set t (rows.length+(c::cs).length / k,e)⟩
   | _=>False
def AOw (L:A3) (s:AM) (e:TypeId) (k bytes:Nat) (x v:AV) (K:AV->AM->Prop):Prop:=
 (cellsOf v).all A1=true/\wO (Cm (cellsOf v)) λrow=>row.length=k/\match x with
  | .AB rows=>((rows.length+1)*bytes<=2 ^ 45/\rows.length+1<=2 ^ 45/\(rows.all λr=>r.length==k)=true)/\K (.own s.ts.length (rows++[row])) ⟨s.bs,s.ts++[(rows.length+1,e)]⟩
  | .own t rows=>((rows.length+1)*bytes<=2 ^ 45/\rows.length+1<=2 ^ 45/\s.ts[t]?=some (rows.length,e)/\L.rt<=t/\(rows.all λr=>r.length==k)=true)/\K (.own t (rows++[row])) ⟨s.bs,s.ts.set t (rows.length+1,e)⟩
  | _=>False
def YB (s:AM) (k:Nat) (x:AV) (lo hi mx:Option AV) (K:AV->Prop):Prop:=match x with
 | .ref id off len sz=>∃l h,FX 0 lo=some l/\FX len hi=some h/\match mx with
  | none=>(l<=h/\h<=len/\sz=k/\k≠0/\alive s id=true)/\K (if l=h then .pv (.list []) else .ref id (off+l*k) (h-l) sz)
  | some m=>(l=h/\h<=len/\HA m=some h/\hi.isSome=true/\alive s id=true)/\K (.AB [])
 | x=>wO (rowsOf x) λrows=>∃l h,FX 0 lo=some l/\FX rows.length hi=some h/\(l<=h/\h<=rows.length/\(rows.all λr=>r.length==k)=true)/\match mx with
  | none=>K (.pv (.list ((rows.take h).drop l)))
  | some m=>(HA m=some h/\hi.isSome=true)/\K (.AB ((rows.take h).drop l))
def MN (k:IntKind) (x:AV) (K:AV->Prop):Prop:=match x with
 | .pv (.sc (.int _ n))=>K (.pv (.sc (.int k (k.wrap n))))
 | _=>False
def VO (E:Env) (L:A3) (lk:Lk) (s:AM) (o:Oper) (K:AV->AM->Prop):Prop:=
 ∃v s',(∀ρ,G5 lk ρ->Ca E L ρ s o=some (v,s'))/\K v s'
def EK (E:Env) (L:A3) (f:AV) (args:List AV) (s:AM) (K:AV->AM->Prop):Prop:=match f with
 | .func (.func g) first captured=>∃v s',A8 E L g (first++args++captured) s v s'/\K v s'
 | _=>False
abbrev ldK (P:Program) (t:TypeId):Option (Option Nat):=match P.underlying t,P.info? t with
 | some d,some i=>match d with
  | .struct _|.array _ _=>if i.size≠0 then some (some i.size) else none
  | _=>some none
 | _,_=>none
abbrev ALH (P:Program) (t:TypeId) (f:Nat):Option Field:=match P.underlying t with
 | some (.struct fields)=>fields[f]?
 | _=>none
abbrev ALI (P:Program) (t:TypeId):Option (Nat->Option (Nat×Nat)):=match P.underlying t with
 | some (.struct fields)=>bif fields.all (λf=>(DZ P f.type).isSome) then some (Xb P fields) else none
 | some (.array _ elem)=>match DZ P elem with
  | some k=>some λi=>some (i*k,k)
  | none=>none
 | _=>none
abbrev W9 (P:Program) (t:TypeId):Option (TypeId×TypeInfo×List AV):=match P.underlying t with
 | some (.slice e)=>match P.info? e,zeroOf P e with
  | some i,some z=>some (e,i,z)
  | _,_=>none
 | _=>none
abbrev ADL (lk:Lk):Option Operand->Option (Option AV)
 | none=>some none
 | some x=>match IE lk x with
  | some v=>some (some v)
  | none=>none
abbrev wOp (E:Env) (L:A3) (lk:Lk) (s:AM) (o:Oper) (K:AV->AM->Prop):Prop:=
 match o.op with
 | .move x=>wO (IE lk x) λx=>K x s
 | .assign x=>wO (IE lk x) λx=>K x s
 | .pick c a b=>wO (IE lk c) λc=>wO (IE lk a) λa=>wO (IE lk b) λb=>Ay c a b λv=>K v s
 | .alloc t=>wO (zeroOf E.P t) λz=>Bw s (M6 E s.bs.length t z) K
 | .box t x=>wO (IE lk x) λx=>match E.bz t with
  | true=>KS s t x K
  | false=>B6 s x K
 | .build t parts=>wO (zeroOf E.P t) λz=>wO (ALI E.P t) λpl=>wO (qG lk pl parts.toList) λps=>C1 z ps λv=>K v s
 | .buildSlice t len parts=>wO (W9 E.P t) λe=>wO (qG lk (λi=>some (i*e.2.1.size,e.2.1.size)) parts.toList) λps=>Dc (L.mu e.1) s e.2.1.size e.2.2 len ps K
 | .load t a=>wO (IE lk a) λa=>wO (ldK E.P t) λk=>EG E s k a λv=>K v s
 | .store t a x=>wO (IE lk a) λa=>wO (IE lk x) λx=>wO (DZ E.P t) λk=>CR L s k a x λs=>K (.tuple []) s
 | .nilCheck x=>wO (IE lk x) λx=>D0 s x λv=>K v s
 | .fieldAddr t x f=>wO (IE lk x) λx=>wO (ALH E.P t f) λf=>wO (DZ E.P f.type) λk=>match k with
  | 0=>False
  | _+1=>BD s x f.offset λv=>K v s
 | .field t x f=>wO (IE lk x) λx=>wO (ALH E.P t f) λf=>wO (ldK E.P f.type) λk=>xA k x f.offset λv=>K v s
 | .indexAddr t x i=>wO (IE lk x) λx=>wO (IE lk i) λi=>match E.P.underlying t with
  | some (.slice e)=>wO (DZ E.P e) λk=>Cl s k x i λv=>K v s
  | _=>VO E L lk s o K
 | .extract x i=>wO (IE lk x) λx=>DC x i λv=>K v s
 | .makeFunc fn first captured=>wO (qE lk first.toList) λa=>wO (qE lk captured.toList) λb=>K (.func fn a b) s
 | .makeInterface t x=>wO (IE lk x) λx=>match E.P.underlying t with
  | some (.interface _)=>False
  | some _=>K (.iface t x) s
  | none=>False
 | .slice t x lo hi mx=>match E.P.underlying t with
  | some (.slice e)=>wO (DZ E.P e) λk=>wO (IE lk x) λx=>wO (ADL lk lo) λlo=>wO (ADL lk hi) λhi=>wO (ADL lk mx) λmx=>YB s k x lo hi mx λv=>K v s
  | _=>VO E L lk s o K
 | .call { callee:=.builtin .len,args:=args,argTypes:=ts }=>match args.toList,ts.toList with
  | [x],[t]=>wO (IE lk x) λx=>match E.P.underlying t with
   | some .string=>GL x λv=>K v s
   | some (.slice _)=>BV s x λv=>K v s
   | _=>VO E L lk s o K
  | _,_=>False
 | .call { callee:=.builtin .append,args:=args,argTypes:=ts }=>match args.toList,ts.toList with
  | [x,y],t::u::_=>match E.P.underlying u with
   | some (.int _)=>False
   | some _=>wO (IE lk x) λx=>wO (IE lk y) λy=>wO (W9 E.P t) λe=>(e.2.2.length=e.2.1.size/\e.2.1.size≠0)/\EL (L.mu e.1) L s e.1 e.2.1.size e.2.1.bytes x y K
   | none=>False
  | _,_=>False
 | .binOp op t x y _=>wO (IE lk x) λa=>wO (IE lk y) λb=>match E.P.underlying t with
  | some (.int k)=>Cb k op a b λv=>K v s
  | some .string=>Fi op a b λv=>K v s
  | some .bool=>AAo op a b λv=>K v s
  | some (.interface _)=>VO E L lk s o K
  | some (.pointer _)=>bM s (ZT lk x) (ZT lk y) op a b λv=>K v s
  | _=>vN s (C4 E.P t) (ZT lk x) (ZT lk y) op a b λv=>K v s
 | .unOp op _ x=>match op with
  | .not=>wO (IE lk x) λx=>DY x λv=>K v s
  | _=>VO E L lk s o K
 | .index t x i=>match E.P.underlying t with
  | some .string=>wO (IE lk x) λx=>wO (IE lk i) λi=>L9 x i λv=>K v s
  | _=>VO E L lk s o K
 | .convert a b x=>match E.P.underlying a,E.P.underlying b with
  | some (.int _),some (.int k)=>wO (IE lk x) λx=>MN k x λv=>K v s
  | _,_=>VO E L lk s o K
 | _=>VO E L lk s o K
theorem nT {P:Program} {t:TypeId} {k:Option Nat} {cs:List AV} {off:Nat} {K:AV->Prop} (hk:ldK P t=some k) (h:DQ k cs off K):∃v,partOf P t cs off=some v/\K v:=by
 unfold ldK at hk;unfold partOf
 grind[DQ]
theorem AHP {E:Env} {s:AM} {t:TypeId} {k:Option Nat} {x:AV} {K:AV->Prop} (hk:ldK E.P t=some k) (h:EG E s k x K):∃v,SG E s t x=some v/\K v:=by
 unfold EG at h
 grind[SG,Qg,nT]
theorem Cd {P:Program} {α β:Type} {x:Sem α} {f:α->Sem β} {a:α} {b:β} (h:quick P x=some a) (k:quick P (f a)=some b):quick P (x >>= f)=some b:=by
 induction x with
 | pure a'=>simp only[quick,Aw] at h; subst h; exact k
 | program g ih=>exact ih _ h
 | mark _ g ih=>exact ih h
 | _=>grind[quick]
theorem I3 {P:Program} {t:TypeId} {d:TypeDesc} (h:P.underlying t=some d):quick P (underlying t)=some d:=by
 unfold underlying;refine Cd (a:=P) rfl ?_;rw[h];rfl
theorem jD {E:Env} {L:A3} {ρ:Nat->AV} {s:AM} {o:Oper} {op:BinOp} {t:TypeId} {x y:Operand} {c:TypeId} {xv yv v:Value} (ho:o.op=.binOp op t x y c) (hx:AX ρ x=.pv (.sc xv)) (hy:AX ρ y=.pv (.sc yv))
  (hk:C4 E.P t=none) (hg:∀a b,quick E.P (eqGuard op t a b xv yv)=some ()) (hq:quick E.P (binOp op t xv yv)=some v) (hv:M5 v=.pv (.sc v)):Ca E L ρ s o=some (.pv (.sc v),s):=by
 obtain⟨dst,op',type,pos,after,guard⟩:=o;simp only at ho;subst ho;simp only[Ca];cases hf:Ii op (AX ρ x) (AX ρ y) with
 | some u=>
  have h1:=(NF (P:=E.P) (g:=AI.bare λ_ _=>False) (w:=default) (t:=t) (by rw[hx]; exact V.Iz xv) (by rw[hy]; exact V.Iz yv) hf).1
  simp_all[VV]
 | none=>
  have hn:IP E.P s ρ op t x y=none:=by simp[*,IP,sameKind]
  simp only[hn]
  have hq':Cs E ρ ⟨dst,.binOp op t x y c,type,pos,after,guard⟩=some (.pv (.sc v)):=by
   unfold Cs;have hall:EZ ρ (Op.operands (.binOp op t x y c)).toList=true:=by grind[EZ,Op.operands,HJ]
   rw[if_pos hall]
   have:quick E.P (execOp (λz=>(HJ (AX ρ z)).getD undef) ⟨dst,.binOp op t x y c,type,pos,after,guard⟩)=some (.value v):=by
    simp only[execOp,hx,hy,HJ,Ie];exact Cd (Cd (hg x y) hq) rfl
   grind
  rw[hq']
theorem qH {P:Program} {op:BinOp} {t:TypeId} {a b:Operand} {k1 k2:IntKind} {m n:Int}:quick P (eqGuard op t a b (.int k1 m) (.int k2 n))=some ():=by
 unfold eqGuard;split <;> rfl
theorem qI {P:Program} {op:BinOp} {t:TypeId} {a b:Operand} {m n:ByteArray}:quick P (eqGuard op t a b (.string m) (.string n))=some ():=by
 unfold eqGuard;split <;> rfl
theorem jE {P:Program} {op:BinOp} {t:TypeId} {a b:Operand} {m n:Bool}:quick P (eqGuard op t a b (.bool m) (.bool n))=some ():=by
 unfold eqGuard;split <;> rfl
theorem ALJ {E:Env} {L:A3} {ρ:Nat->AV} {s:AM} {o:Oper} {op:BinOp} {t:TypeId} {x y:Operand} {c:TypeId} {k:IntKind} {K:AV->Prop} (ho:o.op=.binOp op t x y c) (ht:E.P.underlying t=some (.int k))
  (h:Cb k op (AX ρ x) (AX ρ y) K):∃v,Ca E L ρ s o=some (v,s)/\K v:=by
 unfold Cb at h;split at h
 .rename_i k1 a k2 b hx hy
  obtain⟨⟨e1,e2⟩,h⟩:=h;subst e1;subst e2;have hk:C4 E.P t=none:=by simp[C4,ht]
  have go:∀v,quick E.P (binOp op t (.int k2 a) (.int k2 b))=some v->M5 v=.pv (.sc v)->K (.pv (.sc v))->∃v,Ca E L ρ s o=some (v,s)/\K v:=λv h1 h2 h3=>
   ⟨_,jD ho hx hy hk (λ_ _=>qH) h1 h2,h3⟩
  cases op <;> first
   | grind
   | exact go _ (by simp[binOp,Op.intArith]; rfl) rfl h
   | exact go _ (by simp[binOp,Op.intCmp]; rfl) rfl h
   | exact go _ (by simp[binOp,Op.intDiv,h.1]; rfl) rfl h.2
   | exact go _ (by simp[binOp,Op.shift,Int.not_lt.2 h.1]; rfl) rfl h.2
 grind
theorem ALK {E:Env} {L:A3} {ρ:Nat->AV} {s:AM} {o:Oper} {op:BinOp} {t:TypeId} {x y:Operand} {c:TypeId} {K:AV->Prop} (ho:o.op=.binOp op t x y c) (ht:E.P.underlying t=some .string)
  (h:Fi op (AX ρ x) (AX ρ y) K):∃v,Ca E L ρ s o=some (v,s)/\K v:=by
 unfold Fi at h;split at h
 .rename_i a b hx hy
  have hk:C4 E.P t=none:=by simp[C4,ht]
  have go:∀v,quick E.P (Op.stringOp op a b)=some v->M5 v=.pv (.sc v)->K (.pv (.sc v))->∃v,Ca E L ρ s o=some (v,s)/\K v:=λv h1 h2 h3=>
   ⟨_,jD ho hx hy hk (λ_ _=>qI) (by simpa[binOp] using h1) h2,h3⟩
  cases op <;> first
   | grind
   | exact go _ (by simp only[Op.stringOp,Go.ByteArray.toList_eq]; rfl) rfl h
   | skip
  obtain⟨h1,h2⟩:=h;have e:(a++b)=(⟨(a.data.toList++b.data.toList).toArray⟩:ByteArray):=by rfl
  refine go (.string (a++b)) ?_ rfl (by grind)
  have hl:¬ ((a.size+b.size:Nat):Int)>IntKind.i64.max:=by
   have h3:a.size=a.data.toList.length:=(Hl (xs:=a.data)).symm;have h4:b.size=b.data.toList.length:=(Hl (xs:=b.data)).symm;have h5:IntKind.i64.max=9223372036854775807:=by rfl
   omega
  simp only[Op.stringOp,if_neg hl];rfl
 grind
theorem ADM {E:Env} {L:A3} {ρ:Nat->AV} {s:AM} {o:Oper} {op:BinOp} {t:TypeId} {x y:Operand} {c:TypeId} {K:AV->Prop} (ho:o.op=.binOp op t x y c) (ht:E.P.underlying t=some .bool)
  (h:AAo op (AX ρ x) (AX ρ y) K):∃v,Ca E L ρ s o=some (v,s)/\K v:=by
 unfold AAo at h;split at h
 .rename_i a b hx hy
  have hk:C4 E.P t=none:=by simp[C4,ht]
  have hq:quick E.P (Op.equal t (.bool a) (.bool b))=some (a==b):=by
   unfold Op.equal;obtain⟨m,hm⟩:∃m,Op.maxDepth=m+1:=⟨9999,rfl⟩;rw[hm];unfold Op.equalIn;have hu:quick E.P (underlying t)=some .bool:=I3 ht;exact Cd hu rfl
  have go:∀v,quick E.P (binOp op t (.bool a) (.bool b))=some v->M5 v=.pv (.sc v)->K (.pv (.sc v))->∃v,Ca E L ρ s o=some (v,s)/\K v:=λv h1 h2 h3=>
   ⟨_,jD ho hx hy hk (λ_ _=>jE) h1 h2,h3⟩
  cases op <;> first
   | grind
   | exact go _ (Cd hq rfl) rfl h
 grind
theorem XA {ρ:Nat->AV} {x:Operand} {k:Nat} (hx:∀a b c,x≠.const (.slice a b c)) (h:RR (AX ρ x)=some k):FM ρ x=some k:=by grind[RR,FM]
theorem jF {a:Option Addr} {b c:Nat}:RR (ofConst (.slice a b c))=none:=by
 show RR (HR (.slice a b c))=none
 unfold HR;split
 .rfl
 rfl
theorem nU {lk:Lk} {ρ:Nat->AV} (hA:G5 lk ρ) {x:Operand} {k:Nat} (h:ZT lk x=some k):FM ρ x=some k:=by
 cases x with
 | const v=>
  by_cases hz:v=.slice none 0 0
  .subst hz
   exact h
  .have h:RR (ofConst v)=some k:=by grind
   by_cases hs:∃a b c,v=.slice a b c
   .grind[jF]
   .exact XA (λa b c e=>hs ⟨a,b,c,by grind⟩) h
 | tmp t=>
  grind[XA,CA]
 | global g=>grind
 | func f=>grind
theorem AAq {E:Env} {L:A3} {lk:Lk} {ρ:Nat->AV} (hA:G5 lk ρ) {s:AM} {o:Oper} {op:BinOp} {t:TypeId} {x y:Operand} {c:TypeId} {K:AV->Prop} (ho:o.op=.binOp op t x y c)
  (h:vN s (C4 E.P t) (ZT lk x) (ZT lk y) op (AX ρ x) (AX ρ y) K):∃v,Ca E L ρ s o=some (v,s)/\K v:=by
 obtain⟨dst,op',type,pos,after,guard⟩:=o;simp only at ho;subst ho;obtain⟨h1,h2⟩:=h
 have hs:(sameKind (C4 E.P t) (Dv s (AX ρ x)) (FM ρ y)||sameKind (C4 E.P t) (FM ρ x) (Dv s (AX ρ y)))=true:=by
  simp only[DX] at h1 ⊢;rcases h1 with h1|h1
  .left
   obtain⟨k,e1,e2,e3⟩:=Eg h1;rw[nU hA e3,e1,e2];simp[sameKind]
  .right
   obtain⟨k,e1,e2,e3⟩:=Eg h1;rw[nU hA e2,e1,e3];simp[sameKind]
 have hf:Ii op (AX ρ x) (AX ρ y)=none:=by
  simp only[DX] at hs;rcases hs with hs|hs
  .obtain⟨k,e1,e2,e3⟩:=Eg hs
   cases hx:AX ρ x <;> simp[hx,Dv,rowsOf] at e2 ⊢ <;> try rfl
   rename_i p;cases p with
   | sc v=>simp[rowsOf] at e2
   | list rows=>rfl
  .obtain⟨k,e1,e2,e3⟩:=Eg hs
   cases hy:AX ρ y <;> simp[hy,Dv,rowsOf] at e3
   all_goals
    unfold Ii
    grind
 grind[Ca,IP]
theorem XB {v:AV} (h:Td v=true):v=.pv (.sc (.pointer none)):=by grind[Td]
theorem jG {P:Program} {t e:TypeId} {x y:Operand} (ht:P.underlying t=some (.pointer e)) :
  quick P (do eqGuard .eql t x y (.pointer none) (.pointer none); binOp .eql t (.pointer none) (.pointer none))=some (.bool true)/\quick P (do eqGuard .neq t x y (.pointer none) (.pointer none); binOp .neq t (.pointer none) (.pointer none))=some (.bool false):=by
 have he:quick P (Op.equal t (.pointer none) (.pointer none))=some true:=by
  show quick P (Op.equalIn (9999+1) t (.pointer none) (.pointer none))=some true
  unfold Op.equalIn;exact Cd (I3 ht) rfl
 constructor
 .refine Cd (a:=()) rfl ?_
  exact Cd he rfl
 .refine Cd (a:=()) rfl ?_
  exact Cd he rfl
theorem ALL {E:Env} {L:A3} {lk:Lk} {ρ:Nat->AV} (hA:G5 lk ρ) {s:AM} {o:Oper} {op:BinOp} {t e:TypeId} {x y:Operand} {c:TypeId} {K:AV->Prop} (ho:o.op=.binOp op t x y c) (ht:E.P.underlying t=some (.pointer e))
  (h:bM s (ZT lk x) (ZT lk y) op (AX ρ x) (AX ρ y) K):∃v,Ca E L ρ s o=some (v,s)/\K v:=by
 unfold bM at h;split at h
 .rename_i hb
  simp only[AD] at hb;have hx:=XB hb.1;have hy:=XB hb.2;obtain⟨q1,q2⟩:=jG (x:=x) (y:=y) ht;have hf:Ii op (AX ρ x) (AX ρ y)=none:=by rw[hx,hy]; rfl
  have hn:IP E.P s ρ op t x y=none:=by grind[IP,Dv,sameKind,rowsOf]
  have h1:EZ ρ o.op.operands.toList=true:=by
   have e:o.op.operands.toList=[x,y]:=by rw[ho]; rfl
   grind[EZ,HJ]
  have key:∀(v:Bool),quick E.P (do eqGuard op t x y (.pointer none) (.pointer none); binOp op t (.pointer none) (.pointer none))=some (.bool v)->Ca E L ρ s o=some (.pv (.sc (.bool v)),s):=by
   intro v hq
   have h2:Cs E ρ o=some (.pv (.sc (.bool v))):=by
    have:quick E.P (execOp (λz=>(HJ (AX ρ z)).getD undef) o)=some (.value (.bool v)):=by
     unfold execOp;rw[ho];simp only[hx,hy,HJ,Ie];exact Cd hq rfl
    simp only[Cs,h1,GR,this];rfl
   grind[Ca]
  grind
 .have hk:C4 E.P t=some 0:=by grind[C4]
  rw[<-hk] at h;exact AAq hA ho h
theorem My {P:Program} {t:TypeId} {e:TypeId×TypeInfo×List AV} (h:W9 P t=some e):P.underlying t=some (.slice e.1)/\P.info? e.1=some e.2.1/\zeroOf P e.1=some e.2.2:=by grind
theorem ADN {lk:Lk} {ρ:Nat->AV} (hA:G5 lk ρ) {x:Option Operand} {v:Option AV} (h:ADL lk x=some v):x.map (AX ρ)=v:=by grind[CA]
theorem ALM {P:Program} {s:AM} {t e:TypeId} {k:Nat} {x:AV} {lo hi mx:Option AV} {K:AV->Prop} (ht:P.underlying t=some (.slice e)) (hk:DZ P e=some k):YB s k x lo hi mx K ->
  ∃v,PW P s t x lo hi mx=some v/\K v:=by
 unfold PW;simp only[ht,hk];intro h;cases x with
 | ref id off len sz=>
  obtain⟨l,h',h1,h2,h3⟩:=h
  grind
 | pv p=>
  obtain⟨rows,hr,h⟩:=BC h
  grind
 | AB p=>
  obtain⟨l,h',h1,h2,h3,h4⟩:=h
  grind[rowsOf]
 | own t p=>
  obtain⟨l,h',h1,h2,h3,h4⟩:=h
  grind[rowsOf]
 | _=>exact h.elim
theorem ALN {P:Program} {L:A3} {s:AM} {t:TypeId} {e:TypeId×TypeInfo×List AV} {x y:AV} {K:AV->AM->Prop} (he:W9 P t=some e) (hz:e.2.2.length=e.2.1.size/\e.2.1.size≠0)
  (h:EL (L.mu e.1) L s e.1 e.2.1.size e.2.1.bytes x y K):∃v s',Ih P L s t x y=some (v,s')/\K v s':=by
 obtain⟨e1,e2,e3⟩:=My he;unfold Ih;simp only[e1,e2,e3,MY];rw[if_pos ⟨by grind,hz.2⟩];obtain⟨new,h1,h⟩:=BC h;simp only[h1];cases new with
 | nil=>
  grind
 | cons c cs=>
  grind
theorem KC {E:Env} {L:A3} {lk:Lk} {ρ:Nat->AV} {s:AM} {o:Oper} {K:AV->AM->Prop} (hA:G5 lk ρ) (h:VO E L lk s o K):∃v s',Ca E L ρ s o=some (v,s')/\K v s':=by
 obtain⟨v,s',h1,h2⟩:=h
 grind
theorem ADO {P:Program} {a b:TypeId} {k k1 k2:IntKind} {n:Int} (ha:P.underlying a=some (.int k1)) (hb:P.underlying b=some (.int k)):quick P (convert a b (.int k2 n))=some (.int k (k.wrap n)):=by
 unfold convert;have h1:quick P (underlying a)=some (.int k1):=I3 ha;have h2:quick P (underlying b)=some (.int k):=I3 hb;exact Cd h1 (Cd h2 rfl)
theorem XC {E:Env} {L:A3} {lk:Lk} {ρ:Nat->AV} {s:AM} {o:Oper} {K:AV->AM->Prop} (hA:G5 lk ρ) (h:wOp E L lk s o K):∃v s',Ca E L ρ s o=some (v,s')/\K v s':=by
 obtain⟨dst,op,type,pos,after,guard⟩:=o;cases op with
 | move x=>
  grind[Ca,CA]
 | assign x=>
  grind[Ca,CA]
 | pick c a b=>
  obtain⟨cv,h1,h⟩:=BC h;obtain⟨av,h2,h⟩:=BC h;obtain⟨bv,h3,h⟩:=BC h;unfold Ay at h
  grind[Ca,CA]
 | alloc t=>
  obtain⟨z,h1,h2⟩:=BC h;exact⟨_,_,by simp only[Ca,h1]; rfl,h2⟩
 | box t x=>
  obtain⟨a,h1,h⟩:=BC h;cases hb:E.bz t with
  | true=>
   rw[hb] at h;obtain⟨h2,h3⟩:=h;exact⟨_,_,by simp only[Ca,CA hA h1,if_pos h2,M6,hb,AH]; rfl,h3⟩
  | false=>
   rw[hb] at h;obtain⟨h2,h3⟩:=h;exact⟨_,_,by simp only[Ca,CA hA h1,if_pos h2,M6,hb,AE]; rfl,h3⟩
 | build t parts=>
  obtain⟨z,h1,h⟩:=BC h;obtain⟨pl,h2,h⟩:=BC h;obtain⟨ps,h3,h⟩:=BC h;obtain⟨cs,h4,h5⟩:=BC h
  grind[UY,SH,Ca]
 | buildSlice t len parts=>
  obtain⟨e,h1,h⟩:=BC h;obtain⟨ps,h2,hz,h⟩:=BC h;obtain⟨cs,h3,h⟩:=BC h;obtain⟨e1,e2,e3⟩:=My h1;have hf:=UY hA (cells:=Fz len e.2.2) h2;rw[h3] at hf
  have:∀v s',(bif L.mu e.1&&Nat.blt 0 len then some (AV.ref s.bs.length 0 len e.2.1.size,{ s with bs:=s.bs++[cs] })
     else match Cm cs with
     | some ps=>some (.AB (CD e.2.1.size len ps),s)
     | none=>none)=some (v,s')->Ca E L ρ s ⟨dst,.buildSlice t len parts,type,pos,after,guard⟩=some (v,s'):=by grind[Ca,Gl,DZ]
  grind
 | load t a=>
  grind[AHP,Ca,CA]
 | store t a x=>
  obtain⟨av,h1,h⟩:=BC h;obtain⟨xv,h2,h⟩:=BC h;obtain⟨k,h3,h⟩:=BC h;obtain⟨i,h4,rfl⟩:=Ez h3;unfold CR at h;split at h
  .obtain⟨cs,h5,h6,h7⟩:=BC h
   refine⟨_,_,?_,h7⟩;simp only[Ca,CA hA h1,CA hA h2,NV,h4,Qg,h5,if_pos h6]
  grind
 | nilCheck x=>
  obtain⟨a,h1,h⟩:=BC h
  have:∃v,KF s a=some v/\K v s:=by
   unfold D0 at h
   grind[KF]
  grind[Ca,CA]
 | fieldAddr t x f=>
  obtain⟨a,h1,h⟩:=BC h;obtain⟨fd,h2,h⟩:=BC h;obtain⟨k,h3,h⟩:=BC h;cases k with
  | zero=>grind
  | succ k=>
   simp only at h;have:∃v,HS E.P s t a f=some v/\K v s:=by grind[HS,BD]
   grind[Ca,CA]
 | field t x f=>
  obtain⟨a,h1,h⟩:=BC h;obtain⟨fd,h2,h⟩:=BC h;obtain⟨k,h3,h⟩:=BC h;unfold xA at h;split at h
  .rename_i cs
   obtain⟨v,h4,h5⟩:=nT h3 h;refine⟨v,s,?_,h5⟩;unfold ALH at h2;split at h2
   .rename_i fields hu
    simp only[Ca,CA hA h1,SI,hu,h2,h4]
   grind
  grind
 | indexAddr t x i=>
  obtain⟨a,h1,h⟩:=BC h;obtain⟨b,h2,h⟩:=BC h;split at h
  .rename_i e ht
   obtain⟨k,h3,h⟩:=BC h
   have:∃v,HT E.P s t a b=some v/\K v s:=by
    unfold HT;unfold Cl at h
    grind[Xc,rowsOf]
   grind[Ca,CA]
  grind[KC]
 | extract x i=>
  obtain⟨a,h1,h⟩:=BC h;unfold DC at h
  grind[Ca,CA,Lr]
 | makeFunc fn first captured=>
  grind[Ca,ZS]
 | makeInterface t x=>
  grind[Ca,CA]
 | slice t x lo hi mx=>
  simp only[wOp] at h;split at h
  .rename_i e ht
   obtain⟨k,h1,h⟩:=BC h;obtain⟨a,h2,h⟩:=BC h;obtain⟨l,h3,h⟩:=BC h;obtain⟨hh,h4,h⟩:=BC h;obtain⟨m,h5,h⟩:=BC h;obtain⟨v,h6,h7⟩:=ALM ht h1 h
   grind[Ca,CA,ADN]
  grind[KC]
 | call c=>
  obtain⟨callee,args,ts⟩:=c;cases callee with
  | builtin b=>
   cases b with
   | len=>
    simp only[wOp] at h;split at h
    .rename_i x t hx ht
     obtain⟨a,h1,h⟩:=BC h;split at h
     .rename_i hu
      unfold GL at h
      grind[Ca,CA,Mg]
     .rename_i e hu
      obtain⟨n,h2,h3⟩:=BC h;refine⟨_,s,?_,h3⟩
      have hf:Mg E.P t a=none:=by
       unfold Mg
       grind
      grind[Ca,CA]
     grind[KC]
    grind
   | append=>
    simp only[wOp] at h;split at h
    .rename_i x y t u us hx ht
     split at h
     .grind
     .rename_i d hne hd
      obtain⟨a,h1,h⟩:=BC h;obtain⟨b,h2,h⟩:=BC h;obtain⟨e,h3,h4,h5⟩:=BC h
      grind[ALN,Ca,CA]
     grind
    grind
   | _=>grind[KC]
  | _=>grind[KC]
 | binOp op t x y c=>
  obtain⟨a,h1,h⟩:=BC h;obtain⟨b,h2,h⟩:=BC h;have eC:=CA hA h1;have h2':=CA hA h2;subst eC h2';split at h
  .rename_i k ht
   obtain⟨v,h3,h4⟩:=ALJ (L:=L) (s:=s) (o:=⟨dst,.binOp op t x y c,type,pos,after,guard⟩) rfl ht h
   grind
  .rename_i ht
   obtain⟨v,h3,h4⟩:=ALK (L:=L) (s:=s) (o:=⟨dst,.binOp op t x y c,type,pos,after,guard⟩) rfl ht h
   grind
  .rename_i ht
   obtain⟨v,h3,h4⟩:=ADM (L:=L) (s:=s) (o:=⟨dst,.binOp op t x y c,type,pos,after,guard⟩) rfl ht h
   grind
  .grind[KC]
  .rename_i ht
   obtain⟨v,h3,h4⟩:=ALL (L:=L) hA (o:=⟨dst,.binOp op t x y c,type,pos,after,guard⟩) rfl ht h
   grind
  .obtain⟨v,h3,h4⟩:=AAq (L:=L) hA (o:=⟨dst,.binOp op t x y c,type,pos,after,guard⟩) rfl h
   grind
 | unOp op t x=>
  simp only[wOp] at h;split at h
  .obtain⟨a,h1,h⟩:=BC h
   unfold DY at h
   grind[Ca,CA,Xh]
  grind[KC]
 | index t x i=>
  simp only[wOp] at h;split at h
  .rename_i ht
   obtain⟨a,h1,h⟩:=BC h;obtain⟨b,h2,h⟩:=BC h;unfold L9 at h
   grind[Ca,CA,Mf]
  grind[KC]
 | convert a b x=>
  simp only[wOp] at h;split at h
  .rename_i k1 k ha hb
   obtain⟨v,h1,h⟩:=BC h;unfold MN at h;split at h
   .rename_i k2 n
    refine⟨_,s,?_,h⟩
    have hq:Cs E ρ ⟨dst,.convert a b x,type,pos,after,guard⟩=some (.pv (.sc (.int k (k.wrap n)))):=by
     unfold Cs;have hall:EZ ρ (Op.operands (.convert a b x)).toList=true:=by grind[EZ,Op.operands,CA,HJ]
     rw[if_pos hall]
     have:quick E.P (execOp (λz=>(HJ (AX ρ z)).getD undef) ⟨dst,.convert a b x,type,pos,after,guard⟩)=some (.value (.int k (k.wrap n))):=by
      simp only[execOp,CA hA h1,HJ,Ie];exact Cd (ADO ha hb) rfl
     rw[this];rfl
    grind[Ca]
   grind
  grind[KC]
 | _=>grind[KC]
end Go.Tel
