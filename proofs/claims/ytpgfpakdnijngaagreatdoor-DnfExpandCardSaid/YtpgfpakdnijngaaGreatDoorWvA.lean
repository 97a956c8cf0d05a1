/-
  Arguments that are not known: what a single operation needs so that it answers as wanted.
-/
import Derived.Test.YtpgfpakdnijngaaGreatDoorEvI
set_option linter.all false
namespace Go.Tel
abbrev Lk:=Nat->Option AV
abbrev AA (n:Int):AV:=.pv (.sc (.int .i64 n))
abbrev BB (b:Bool):AV:=.pv (.sc (.bool b))
abbrev SS (l:List UInt8):AV:=.pv (.sc (.string ⟨l.toArray⟩))
def BD (E:Env) (L:A8) (f:FuncId) (args:List AV) (s:AM) (v:AV) (s':AM):Prop:=
 ∃n,∀m,n<=m->Dz E m L f args s=some (v,s')
def HI (lk:Lk) (ρ:Nat->AV):Prop:=∀t v,lk t=some v->ρ t=v
abbrev wO {α:Type} (x:Option α) (K:α->Prop):Prop:=match x with
 | some a=>K a
 | none=>False
theorem BN {α:Type} {x:Option α} {K:α->Prop} (h:wO x K):∃a,x=some a/\K a:=by grind
abbrev IU (lk:Lk):Operand->Option AV
 | .tmp t=>lk t
 | .const v=>some (ofConst v)
 | .global g=>some (.DS g 0)
 | .func f=>some (.func (.func f) [] [])
theorem CR {lk:Lk} {ρ:Nat->AV} (hA:HI lk ρ) {x:Operand} {v:AV} (h:IU lk x=some v):Ag ρ x=v:=by
 cases x with
 | tmp t=>exact hA t v h
 | const u=>grind[Ag]
 | global g=>grind[Ag]
 | func f=>grind[Ag]
abbrev qI (lk:Lk):List Operand->Option (List AV)
 | []=>some []
 | x::xs=>match IU lk x,qI lk xs with
  | some a,some as=>some (a::as)
  | _,_=>none
theorem Y7 {lk:Lk} {ρ:Nat->AV} (hA:HI lk ρ):∀{xs:List Operand} {vs:List AV},qI lk xs=some vs->xs.map (Ag ρ)=vs
 | [],vs,h=>by grind
 | x::xs,vs,h=>by
  simp only[qI] at h;split at h
  .rename_i a as h1 h2
   simp at h; subst h;simp[CR hA h1,Y7 hA h2]
  grind
abbrev qJ (lk:Lk) (place:Nat->Option (Nat×Nat)):List (Nat×Operand)->Option (List (Nat×Nat×AV))
 | []=>some []
 | (i,x)::xs=>match place i,IU lk x,qJ lk place xs with
  | some (off,size),some a,some as=>some ((off,size,a)::as)
  | _,_,_=>none
def FJ (cells:List AV):List (Nat×Nat×AV)->Option (List AV)
 | []=>some cells
 | (off,size,v)::rest=>if (cellsOf v).length=size/\off+size<=cells.length/\(cellsOf v).all A9=true then FJ (setCells cells off (cellsOf v)) rest else none
theorem UK {lk:Lk} {ρ:Nat->AV} (hA:HI lk ρ) {place:Nat->Option (Nat×Nat)}:∀{parts:List (Nat×Operand)} {ps:List (Nat×Nat×AV)} {cells:List AV},qJ lk place parts=some ps ->
  LL place cells (parts.map λp=>(p.1,Ag ρ p.2))=FJ cells ps
 | [],ps,cells,h=>by
  simp[qJ] at h; subst h;rfl
 | (i,x)::parts,ps,cells,h=>by
  simp only[qJ] at h;split at h
  .rename_i off size a as h1 h2 h3
   simp at h; subst h;simp only[CH,LL,h1,CR hA h2,FJ];split
   .exact UK hA h3
   rfl
  grind
def A6 (c a b:AV) (K:AV->Prop):Prop:=match c with
 | .pv (.sc (.bool t))=>K (bif t then a else b)
 | _=>False
def CI (s:AM) (cs:List AV) (K:AV->AM->Prop):Prop:=K (.ptr s.bs.length 0) ⟨s.bs++[cs],s.ts⟩
def Bs (s:AM) (x:AV) (K:AV->AM->Prop):Prop:=(cellsOf x).all A9=true/\CI s (cellsOf x) K
def LQ (id:Nat) (t:TypeId):List AV->List AV
 | .pv (.sc (.pointer none))::r=>.bz id t (r.length+1)::r
 | z=>z
def LP (s:AM) (t:TypeId) (x:AV) (K:AV->AM->Prop):Prop:=(cellsOf x).all A9=true/\CI s (LQ s.bs.length t (cellsOf x)) K
def CU (z:List AV) (ps:List (Nat×Nat×AV)) (K:AV->Prop):Prop:=wO (FJ z ps) λcs=>K (.agg cs)
def CV (mu:Bool) (s:AM) (k:Nat) (z:List AV) (len:Nat) (ps:List (Nat×Nat×AV)) (K:AV->AM->Prop):Prop:=
 (len*k<=2 ^ 24/\z.length=k/\k≠0)/\wO (FJ (FY len z) ps) λcs=>
  bif mu&&Nat.blt 0 len then K (.ref s.bs.length 0 len k) ⟨s.bs++[cs],s.ts⟩ else wO (Cm cs) λps=>K (.AB (CB k len ps)) s
def DV (k:Option Nat) (cs:List AV) (off:Nat) (K:AV->Prop):Prop:=match k with
 | some k=>off+k<=cs.length/\K (.agg ((cs.drop off).take k))
 | none=>wO cs[off]? K
def D6 (E:Env) (s:AM) (k:Option Nat) (x:AV) (K:AV->Prop):Prop:=match x with
 | .ptr id off=>wO s.bs[id]? λcs=>DV k cs off K
 | .DS g off=>wO (E.G g) λrow=>DV k (row.map .pv) off K
 | .Cq row off=>DV k (row.map .pv) off K
 | _=>False
def CJ (L:A8) (s:AM) (k:Nat) (a x:AV) (K:AM->Prop):Prop:=match a with
 | .ptr id off=>wO s.bs[id]? λcs=>((cellsOf x).length=k/\off+(cellsOf x).length<=cs.length/\L.ro<=id/\(cellsOf x).all A9=true/\(L.n0<=id\/IG (cellsOf x)=true)/\k≠0)/\K ⟨s.bs.set id (setCells cs off (cellsOf x)),s.ts⟩
 | _=>False
def DT (s:AM) (x:AV) (K:AV->Prop):Prop:=match x with
 | .ptr id off=>alive s id=true/\K (.ptr id off)
 | .DS g off=>K (.DS g off)
 | .Cq r off=>K (.Cq r off)
 | .func (.func f) a b=>K (.func (.func f) a b)
 | _=>False
def A0 (s:AM) (x:AV) (d:Nat) (K:AV->Prop):Prop:=match x with
 | .ptr id off=>alive s id=true/\K (.ptr id (off+d))
 | .DS g off=>K (.DS g (off+d))
 | .Cq r off=>K (.Cq r (off+d))
 | _=>False
def AUV (k:Option Nat) (x:AV) (off:Nat) (K:AV->Prop):Prop:=match x with
 | .agg cs=>DV k cs off K
 | _=>False
def Bh (s:AM) (k:Nat) (x ix:AV) (K:AV->Prop):Prop:=match ix with
 | .pv (.sc (.int _ i))=>match x with
  | .ref id off len sz=>(0<=i/\i<len/\sz=k/\alive s id=true)/\K (.ptr id (off+i.toNat*k))
  | x=>wO (rowsOf x) λrows=>0<=i/\∃row,rows[i.toNat]?=some row/\row.length=k/\k≠0/\K (.Cq row 0)
 | _=>False
def DC (x:AV) (i:Nat) (K:AV->Prop):Prop:=match x with
 | .tuple vs=>wO vs[i]? K
 | _=>False
def BO (s:AM) (x:AV) (K:AV->Prop):Prop:=wO (A7 s x) λn=>K (AA n)
def Gs (x:AV) (K:AV->Prop):Prop:=match x with
 | .pv (.sc (.string b))=>K (AA b.data.toList.length)
 | _=>False
def Lv (x i:AV) (K:AV->Prop):Prop:=match x,i with
 | .pv (.sc (.string b)),.pv (.sc (.int _ n))=>0<=n/\∃c,b.data.toList[n.toNat]?=some c/\K (.pv (.sc (.int .u8 c.toNat)))
 | _,_=>False
def eu (k:IntKind) (n:Int) (K:AV->Prop):Prop:=K (.pv (.sc (.int k (k.wrap n))))
def CY (k:IntKind) (op:BinOp) (x y:AV) (K:AV->Prop):Prop:=match x,y with
 | .pv (.sc (.int k1 a)),.pv (.sc (.int k2 b))=>(k1=k/\k2=k)/\match op with
  | .add=>eu k (a+b) K
  | .sub=>eu k (a-b) K
  | .mul=>eu k (a*b) K
  | .quo=>b≠0/\eu k (a.tdiv b) K
  | .rem=>b≠0/\K (.pv (.sc (.int k (a.tmod b))))
  | .eql=>K (BB (a==b))
  | .neq=>K (BB (a != b))
  | .lss=>K (BB (a<b))
  | .leq=>K (BB (a<=b))
  | .gtr=>K (BB (a>b))
  | .geq=>K (BB (a>=b))
  | .shr=>0<=b/\K (.pv (.sc (.int k (a.fdiv (2 ^ (min b.toNat k.bits))))))
  | _=>False
 | _,_=>False
def F9 (op:BinOp) (x y:AV) (K:AV->Prop):Prop:=match x,y with
 | .pv (.sc (.string a)),.pv (.sc (.string b))=>match op with
  | .add=>a.data.toList.length+b.data.toList.length<2 ^ 63/\K (.pv (.sc (.string ⟨(a.data.toList++b.data.toList).toArray⟩)))
  | .eql=>K (BB (a.data.toList==b.data.toList))
  | .neq=>K (BB (!(a.data.toList==b.data.toList)))
  | .lss=>K (BB (Op.bytesLess a.data.toList b.data.toList))
  | .leq=>K (BB (Op.bytesLess a.data.toList b.data.toList||(a.data.toList==b.data.toList)))
  | .gtr=>K (BB (!(Op.bytesLess a.data.toList b.data.toList||(a.data.toList==b.data.toList))))
  | .geq=>K (BB (!(Op.bytesLess a.data.toList b.data.toList)))
  | _=>False
 | _,_=>False
def ABX (op:BinOp) (x y:AV) (K:AV->Prop):Prop:=match x,y with
 | .pv (.sc (.bool a)),.pv (.sc (.bool b))=>match op with
  | .eql=>K (BB (a==b))
  | .neq=>K (BB (!(a==b)))
  | _=>False
 | _,_=>False
def Dt (x:AV) (K:AV->Prop):Prop:=match x with
 | .pv (.sc (.bool b))=>K (BB (!b))
 | _=>False
def Q5:AV->Option Nat
 | .pv (.sc (.pointer none))=>some 0
 | .pv (.sc .nilFunc)=>some 2
 | .pv (.sc .nilIface)=>some 3
 | _=>none
abbrev Y8 (lk:Lk):Operand->Option Nat
 | .const v=>match v with
  | .slice none 0 0=>some 1
  | v=>Q5 (ofConst v)
 | .tmp t=>match lk t with
  | some v=>Q5 v
  | none=>none
 | _=>none
def vW (s:AM) (k:Option Nat) (n m:Option Nat) (op:BinOp) (x y:AV) (K:AV->Prop):Prop:=
 (sameKind k (D4 s x) m||sameKind k n (D4 s y))=true/\match op with
  | .eql=>K (BB false)
  | .neq=>K (BB true)
  | _=>False
def TN:AV->Bool
 | .pv (.sc (.pointer none))=>true
 | _=>false
def aZ (s:AM) (n m:Option Nat) (op:BinOp) (x y:AV) (K:AV->Prop):Prop:=match TN x&&TN y with
 | true=>match op with
  | .eql=>K (BB true)
  | .neq=>K (BB false)
  | _=>False
 | false=>vW s (some 0) n m op x y K
def Ct (mu:Bool) (L:A8) (s:AM) (e:TypeId) (k bytes:Nat) (x y:AV) (K:AV->AM->Prop):Prop:=
 wO (Cx s k y) λnew=>match new with
  | []=>match x with
   | .ref id _ _ _=>alive s id=true/\K x s
   | x=>wO (rowsOf x) λ_=>K x s
  | c::cs=>((c::cs).all A9=true)/\match x with
   | .ref id off len sz=>wO s.bs[id]? λold=>(off=0/\sz=k/\len*sz<=old.length/\alive s id=true/\(len+(c::cs).length / k)*bytes<=2 ^ 45/\len+(c::cs).length / k<=2 ^ 45/\L.ro<=id) /\
     K (.ref s.bs.length 0 (len+(c::cs).length / k) sz) ⟨s.bs.set id []++[old.take (len*sz)++(c::cs)],s.ts⟩
   | .AB rows=>((rows.length+(c::cs).length / k)*bytes<=2 ^ 45/\rows.length+(c::cs).length / k<=2 ^ 45/\(rows.all λr=>r.length==k)=true) /\
     bif mu then K (.ref s.bs.length 0 (rows.length+(c::cs).length / k) k) ⟨s.bs++[rows.flatten.map .pv++(c::cs)],s.ts⟩
     else wO (Cm (c::cs)) λps=>K (.own s.ts.length (rows++CB k ((c::cs).length / k) ps)) ⟨s.bs,s.ts++[(rows.length+(c::cs).length / k,e)]⟩
   | .own t rows=>((rows.length+(c::cs).length / k)*bytes<=2 ^ 45/\rows.length+(c::cs).length / k<=2 ^ 45/\s.ts[t]?=some (rows.length,e)/\L.rt<=t/\(rows.all λr=>r.length==k)=true) /\
     wO (Cm (c::cs)) λps=>K (.own t (rows++CB k ((c::cs).length / k) ps)) ⟨s.bs,s.ts.set t (rows.length+(c::cs).length / k,e)⟩
   | _=>False
def AQY (L:A8) (s:AM) (e:TypeId) (k bytes:Nat) (x v:AV) (K:AV->AM->Prop):Prop:=
 (cellsOf v).all A9=true/\wO (Cm (cellsOf v)) λrow=>row.length=k/\match x with
  | .AB rows=>((rows.length+1)*bytes<=2 ^ 45/\rows.length+1<=2 ^ 45/\(rows.all λr=>r.length==k)=true)/\K (.own s.ts.length (rows++[row])) ⟨s.bs,s.ts++[(rows.length+1,e)]⟩
  | .own t rows=>((rows.length+1)*bytes<=2 ^ 45/\rows.length+1<=2 ^ 45/\s.ts[t]?=some (rows.length,e)/\L.rt<=t/\(rows.all λr=>r.length==k)=true)/\K (.own t (rows++[row])) ⟨s.bs,s.ts.set t (rows.length+1,e)⟩
  | _=>False
def Xu (s:AM) (k:Nat) (x:AV) (lo hi mx:Option AV) (K:AV->Prop):Prop:=match x with
 | .ref id off len sz=>∃l h,Fa 0 lo=some l/\Fa len hi=some h/\match mx with
  | none=>(l<=h/\h<=len/\sz=k/\k≠0/\alive s id=true)/\K (if l=h then .pv (.list []) else .ref id (off+l*k) (h-l) sz)
  | some m=>(l=h/\h<=len/\HA m=some h/\hi.isSome=true/\alive s id=true)/\K (.AB [])
 | x=>wO (rowsOf x) λrows=>∃l h,Fa 0 lo=some l/\Fa rows.length hi=some h/\(l<=h/\h<=rows.length/\(rows.all λr=>r.length==k)=true)/\match mx with
  | none=>K (.pv (.list ((rows.take h).drop l)))
  | some m=>(HA m=some h/\hi.isSome=true)/\K (.AB ((rows.take h).drop l))
def MB (k:IntKind) (x:AV) (K:AV->Prop):Prop:=match x with
 | .pv (.sc (.int _ n))=>K (.pv (.sc (.int k (k.wrap n))))
 | _=>False
def U5 (E:Env) (L:A8) (lk:Lk) (s:AM) (o:Oper) (K:AV->AM->Prop):Prop:=
 ∃v s',(∀ρ,HI lk ρ->Cc E L ρ s o=some (v,s'))/\K v s'
def E3 (E:Env) (L:A8) (f:AV) (args:List AV) (s:AM) (K:AV->AM->Prop):Prop:=match f with
 | .func (.func g) first captured=>∃v s',BD E L g (first++args++captured) s v s'/\K v s'
 | _=>False
abbrev ldK (P:Program) (t:TypeId):Option (Option Nat):=match P.underlying t,P.info? t with
 | some d,some i=>match d with
  | .struct _|.array _ _=>if i.size≠0 then some (some i.size) else none
  | _=>some none
 | _,_=>none
abbrev AM4 (P:Program) (t:TypeId) (f:Nat):Option Field:=match P.underlying t with
 | some (.struct fields)=>fields[f]?
 | _=>none
abbrev AM5 (P:Program) (t:TypeId):Option (Nat->Option (Nat×Nat)):=match P.underlying t with
 | some (.struct fields)=>bif fields.all (λf=>(D3 P f.type).isSome) then some (XI P fields) else none
 | some (.array _ elem)=>match D3 P elem with
  | some k=>some λi=>some (i*k,k)
  | none=>none
 | _=>none
abbrev Wr (P:Program) (t:TypeId):Option (TypeId×TypeInfo×List AV):=match P.underlying t with
 | some (.slice e)=>match P.info? e,zeroOf P e with
  | some i,some z=>some (e,i,z)
  | _,_=>none
 | _=>none
abbrev AD6 (lk:Lk):Option Operand->Option (Option AV)
 | none=>some none
 | some x=>match IU lk x with
  | some v=>some (some v)
  | none=>none
abbrev wOp (E:Env) (L:A8) (lk:Lk) (s:AM) (o:Oper) (K:AV->AM->Prop):Prop:=
 match o.op with
 | .move x=>wO (IU lk x) λx=>K x s
 | .assign x=>wO (IU lk x) λx=>K x s
 | .pick c a b=>wO (IU lk c) λc=>wO (IU lk a) λa=>wO (IU lk b) λb=>A6 c a b λv=>K v s
 | .alloc t=>wO (zeroOf E.P t) λz=>CI s (Mt E s.bs.length t z) K
 | .box t x=>wO (IU lk x) λx=>match E.bz t with
  | true=>LP s t x K
  | false=>Bs s x K
 | .build t parts=>wO (zeroOf E.P t) λz=>wO (AM5 E.P t) λpl=>wO (qJ lk pl parts.toList) λps=>CU z ps λv=>K v s
 | .buildSlice t len parts=>wO (Wr E.P t) λe=>wO (qJ lk (λi=>some (i*e.2.1.size,e.2.1.size)) parts.toList) λps=>CV (L.mu e.1) s e.2.1.size e.2.2 len ps K
 | .load t a=>wO (IU lk a) λa=>wO (ldK E.P t) λk=>D6 E s k a λv=>K v s
 | .store t a x=>wO (IU lk a) λa=>wO (IU lk x) λx=>wO (D3 E.P t) λk=>CJ L s k a x λs=>K (.tuple []) s
 | .nilCheck x=>wO (IU lk x) λx=>DT s x λv=>K v s
 | .fieldAddr t x f=>wO (IU lk x) λx=>wO (AM4 E.P t f) λf=>wO (D3 E.P f.type) λk=>match k with
  | 0=>False
  | _+1=>A0 s x f.offset λv=>K v s
 | .field t x f=>wO (IU lk x) λx=>wO (AM4 E.P t f) λf=>wO (ldK E.P f.type) λk=>AUV k x f.offset λv=>K v s
 | .indexAddr t x i=>wO (IU lk x) λx=>wO (IU lk i) λi=>match E.P.underlying t with
  | some (.slice e)=>wO (D3 E.P e) λk=>Bh s k x i λv=>K v s
  | _=>U5 E L lk s o K
 | .extract x i=>wO (IU lk x) λx=>DC x i λv=>K v s
 | .makeFunc fn first captured=>wO (qI lk first.toList) λa=>wO (qI lk captured.toList) λb=>K (.func fn a b) s
 | .makeInterface t x=>wO (IU lk x) λx=>match E.P.underlying t with
  | some (.interface _)=>False
  | some _=>K (.iface t x) s
  | none=>False
 | .slice t x lo hi mx=>match E.P.underlying t with
  | some (.slice e)=>wO (D3 E.P e) λk=>wO (IU lk x) λx=>wO (AD6 lk lo) λlo=>wO (AD6 lk hi) λhi=>wO (AD6 lk mx) λmx=>Xu s k x lo hi mx λv=>K v s
  | _=>U5 E L lk s o K
 | .call { callee:=.builtin .len,args:=args,argTypes:=ts }=>match args.toList,ts.toList with
  | [x],[t]=>wO (IU lk x) λx=>match E.P.underlying t with
   | some .string=>Gs x λv=>K v s
   | some (.slice _)=>BO s x λv=>K v s
   | _=>U5 E L lk s o K
  | _,_=>False
 | .call { callee:=.builtin .append,args:=args,argTypes:=ts }=>match args.toList,ts.toList with
  | [x,y],t::u::_=>match E.P.underlying u with
   | some (.int _)=>False
   | some _=>wO (IU lk x) λx=>wO (IU lk y) λy=>wO (Wr E.P t) λe=>(e.2.2.length=e.2.1.size/\e.2.1.size≠0)/\Ct (L.mu e.1) L s e.1 e.2.1.size e.2.1.bytes x y K
   | none=>False
  | _,_=>False
 | .binOp op t x y _=>wO (IU lk x) λa=>wO (IU lk y) λb=>match E.P.underlying t with
  | some (.int k)=>CY k op a b λv=>K v s
  | some .string=>F9 op a b λv=>K v s
  | some .bool=>ABX op a b λv=>K v s
  | some (.interface _)=>U5 E L lk s o K
  | some (.pointer _)=>aZ s (Y8 lk x) (Y8 lk y) op a b λv=>K v s
  | _=>vW s (C5 E.P t) (Y8 lk x) (Y8 lk y) op a b λv=>K v s
 | .unOp op _ x=>match op with
  | .not=>wO (IU lk x) λx=>Dt x λv=>K v s
  | _=>U5 E L lk s o K
 | .index t x i=>match E.P.underlying t with
  | some .string=>wO (IU lk x) λx=>wO (IU lk i) λi=>Lv x i λv=>K v s
  | _=>U5 E L lk s o K
 | .convert a b x=>match E.P.underlying a,E.P.underlying b with
  | some (.int _),some (.int k)=>wO (IU lk x) λx=>MB k x λv=>K v s
  | _,_=>U5 E L lk s o K
 | _=>U5 E L lk s o K
theorem nH {P:Program} {t:TypeId} {k:Option Nat} {cs:List AV} {off:Nat} {K:AV->Prop} (hk:ldK P t=some k) (h:DV k cs off K):∃v,partOf P t cs off=some v/\K v:=by
 unfold ldK at hk;unfold partOf
 grind[DV]
theorem AIe {E:Env} {s:AM} {t:TypeId} {k:Option Nat} {x:AV} {K:AV->Prop} (hk:ldK E.P t=some k) (h:D6 E s k x K):∃v,Ru E s t x=some v/\K v:=by
 unfold D6 at h
 grind[Ru,QN,nH]
theorem Cf {P:Program} {α β:Type} {x:Sem α} {f:α->Sem β} {a:α} {b:β} (h:quick P x=some a) (k:quick P (f a)=some b):quick P (x >>= f)=some b:=by
 induction x with
 | pure a'=>simp only[quick,BG] at h; subst h; exact k
 | program g ih=>exact ih _ h
 | mark _ g ih=>exact ih h
 | _=>grind[quick]
theorem I7 {P:Program} {t:TypeId} {d:TypeDesc} (h:P.underlying t=some d):quick P (underlying t)=some d:=by
 unfold underlying;refine Cf (a:=P) rfl ?_;rw[h];rfl
theorem iq {E:Env} {L:A8} {ρ:Nat->AV} {s:AM} {o:Oper} {op:BinOp} {t:TypeId} {x y:Operand} {c:TypeId} {xv yv v:Value} (ho:o.op=.binOp op t x y c) (hx:Ag ρ x=.pv (.sc xv)) (hy:Ag ρ y=.pv (.sc yv))
  (hk:C5 E.P t=none) (hg:∀a b,quick E.P (eqGuard op t a b xv yv)=some ()) (hq:quick E.P (binOp op t xv yv)=some v) (hv:Ms v=.pv (.sc v)):Cc E L ρ s o=some (.pv (.sc v),s):=by
 obtain⟨dst,op',type,pos,after,guard⟩:=o;simp only at ho;subst ho;simp only[Cc];cases hf:Ik op (Ag ρ x) (Ag ρ y) with
 | some u=>
  have h1:=(M0 (P:=E.P) (g:=AH.bare λ_ _=>False) (w:=default) (t:=t) (by rw[hx]; exact V.J1 xv) (by rw[hy]; exact V.J1 yv) hf).1
  simp_all[VC]
 | none=>
  have hn:II E.P s ρ op t x y=none:=by simp[*,II,sameKind]
  simp only[hn]
  have hq':Cw E ρ ⟨dst,.binOp op t x y c,type,pos,after,guard⟩=some (.pv (.sc v)):=by
   unfold Cw;have hall:Eh ρ (Op.operands (.binOp op t x y c)).toList=true:=by grind[Eh,Op.operands,HJ]
   rw[if_pos hall]
   have:quick E.P (execOp (λz=>(HJ (Ag ρ z)).getD undef) ⟨dst,.binOp op t x y c,type,pos,after,guard⟩)=some (.value v):=by
    simp only[execOp,hx,hy,HJ,Ic];exact Cf (Cf (hg x y) hq) rfl
   grind
  rw[hq']
theorem qK {P:Program} {op:BinOp} {t:TypeId} {a b:Operand} {k1 k2:IntKind} {m n:Int}:quick P (eqGuard op t a b (.int k1 m) (.int k2 n))=some ():=by
 unfold eqGuard;split <;> rfl
theorem qL {P:Program} {op:BinOp} {t:TypeId} {a b:Operand} {m n:ByteArray}:quick P (eqGuard op t a b (.string m) (.string n))=some ():=by
 unfold eqGuard;split <;> rfl
theorem ir {P:Program} {op:BinOp} {t:TypeId} {a b:Operand} {m n:Bool}:quick P (eqGuard op t a b (.bool m) (.bool n))=some ():=by
 unfold eqGuard;split <;> rfl
theorem AM6 {E:Env} {L:A8} {ρ:Nat->AV} {s:AM} {o:Oper} {op:BinOp} {t:TypeId} {x y:Operand} {c:TypeId} {k:IntKind} {K:AV->Prop} (ho:o.op=.binOp op t x y c) (ht:E.P.underlying t=some (.int k))
  (h:CY k op (Ag ρ x) (Ag ρ y) K):∃v,Cc E L ρ s o=some (v,s)/\K v:=by
 unfold CY at h;split at h
 .rename_i k1 a k2 b hx hy
  obtain⟨⟨e1,e2⟩,h⟩:=h;subst e1;subst e2;have hk:C5 E.P t=none:=by simp[C5,ht]
  have go:∀v,quick E.P (binOp op t (.int k2 a) (.int k2 b))=some v->Ms v=.pv (.sc v)->K (.pv (.sc v))->∃v,Cc E L ρ s o=some (v,s)/\K v:=λv h1 h2 h3=>
   ⟨_,iq ho hx hy hk (λ_ _=>qK) h1 h2,h3⟩
  cases op <;> first
   | grind
   | exact go _ (by simp[binOp,Op.intArith]; rfl) rfl h
   | exact go _ (by simp[binOp,Op.intCmp]; rfl) rfl h
   | exact go _ (by simp[binOp,Op.intDiv,h.1]; rfl) rfl h.2
   | exact go _ (by simp[binOp,Op.shift,Int.not_lt.2 h.1]; rfl) rfl h.2
 grind
theorem AM7 {E:Env} {L:A8} {ρ:Nat->AV} {s:AM} {o:Oper} {op:BinOp} {t:TypeId} {x y:Operand} {c:TypeId} {K:AV->Prop} (ho:o.op=.binOp op t x y c) (ht:E.P.underlying t=some .string)
  (h:F9 op (Ag ρ x) (Ag ρ y) K):∃v,Cc E L ρ s o=some (v,s)/\K v:=by
 unfold F9 at h;split at h
 .rename_i a b hx hy
  have hk:C5 E.P t=none:=by simp[C5,ht]
  have go:∀v,quick E.P (Op.stringOp op a b)=some v->Ms v=.pv (.sc v)->K (.pv (.sc v))->∃v,Cc E L ρ s o=some (v,s)/\K v:=λv h1 h2 h3=>
   ⟨_,iq ho hx hy hk (λ_ _=>qL) (by simpa[binOp] using h1) h2,h3⟩
  cases op <;> first
   | grind
   | exact go _ (by simp only[Op.stringOp,Go.ByteArray.toList_eq]; rfl) rfl h
   | skip
  obtain⟨h1,h2⟩:=h;have e:(a++b)=(⟨(a.data.toList++b.data.toList).toArray⟩:ByteArray):=by rfl
  refine go (.string (a++b)) ?_ rfl (by grind)
  have hl:¬ ((a.size+b.size:Nat):Int)>IntKind.i64.max:=by
   have h3:a.size=a.data.toList.length:=(Ho (xs:=a.data)).symm;have h4:b.size=b.data.toList.length:=(Ho (xs:=b.data)).symm;have h5:IntKind.i64.max=9223372036854775807:=by rfl
   omega
  simp only[Op.stringOp,if_neg hl];rfl
 grind
theorem AD7 {E:Env} {L:A8} {ρ:Nat->AV} {s:AM} {o:Oper} {op:BinOp} {t:TypeId} {x y:Operand} {c:TypeId} {K:AV->Prop} (ho:o.op=.binOp op t x y c) (ht:E.P.underlying t=some .bool)
  (h:ABX op (Ag ρ x) (Ag ρ y) K):∃v,Cc E L ρ s o=some (v,s)/\K v:=by
 unfold ABX at h;split at h
 .rename_i a b hx hy
  have hk:C5 E.P t=none:=by simp[C5,ht]
  have hq:quick E.P (Op.equal t (.bool a) (.bool b))=some (a==b):=by
   unfold Op.equal;obtain⟨m,hm⟩:∃m,Op.maxDepth=m+1:=⟨9999,rfl⟩;rw[hm];unfold Op.equalIn;have hu:quick E.P (underlying t)=some .bool:=I7 ht;exact Cf hu rfl
  have go:∀v,quick E.P (binOp op t (.bool a) (.bool b))=some v->Ms v=.pv (.sc v)->K (.pv (.sc v))->∃v,Cc E L ρ s o=some (v,s)/\K v:=λv h1 h2 h3=>
   ⟨_,iq ho hx hy hk (λ_ _=>ir) h1 h2,h3⟩
  cases op <;> first
   | grind
   | exact go _ (Cf hq rfl) rfl h
 grind
theorem Ws {ρ:Nat->AV} {x:Operand} {k:Nat} (hx:∀a b c,x≠.const (.slice a b c)) (h:Q5 (Ag ρ x)=some k):FT ρ x=some k:=by grind[Q5,FT]
theorem iu {a:Option Addr} {b c:Nat}:Q5 (ofConst (.slice a b c))=none:=by
 show Q5 (HS (.slice a b c))=none
 unfold HS;split
 .rfl
 rfl
theorem nI {lk:Lk} {ρ:Nat->AV} (hA:HI lk ρ) {x:Operand} {k:Nat} (h:Y8 lk x=some k):FT ρ x=some k:=by
 cases x with
 | const v=>
  by_cases hz:v=.slice none 0 0
  .subst hz
   exact h
  .have h:Q5 (ofConst v)=some k:=by grind
   by_cases hs:∃a b c,v=.slice a b c
   .grind[iu]
   .exact Ws (λa b c e=>hs ⟨a,b,c,by grind⟩) h
 | tmp t=>
  grind[Ws,CR]
 | global g=>grind
 | func f=>grind
theorem ABZ {E:Env} {L:A8} {lk:Lk} {ρ:Nat->AV} (hA:HI lk ρ) {s:AM} {o:Oper} {op:BinOp} {t:TypeId} {x y:Operand} {c:TypeId} {K:AV->Prop} (ho:o.op=.binOp op t x y c)
  (h:vW s (C5 E.P t) (Y8 lk x) (Y8 lk y) op (Ag ρ x) (Ag ρ y) K):∃v,Cc E L ρ s o=some (v,s)/\K v:=by
 obtain⟨dst,op',type,pos,after,guard⟩:=o;simp only at ho;subst ho;obtain⟨h1,h2⟩:=h
 have hs:(sameKind (C5 E.P t) (D4 s (Ag ρ x)) (FT ρ y)||sameKind (C5 E.P t) (FT ρ x) (D4 s (Ag ρ y)))=true:=by
  simp only[Dk] at h1 ⊢;rcases h1 with h1|h1
  .left
   obtain⟨k,e1,e2,e3⟩:=Eo h1;rw[nI hA e3,e1,e2];simp[sameKind]
  .right
   obtain⟨k,e1,e2,e3⟩:=Eo h1;rw[nI hA e2,e1,e3];simp[sameKind]
 have hf:Ik op (Ag ρ x) (Ag ρ y)=none:=by
  simp only[Dk] at hs;rcases hs with hs|hs
  .obtain⟨k,e1,e2,e3⟩:=Eo hs
   cases hx:Ag ρ x <;> simp[hx,D4,rowsOf] at e2 ⊢ <;> try rfl
   rename_i p;cases p with
   | sc v=>simp[rowsOf] at e2
   | list rows=>rfl
  .obtain⟨k,e1,e2,e3⟩:=Eo hs
   cases hy:Ag ρ y <;> simp[hy,D4,rowsOf] at e3
   all_goals
    unfold Ik
    grind
 grind[Cc,II]
theorem Wt {v:AV} (h:TN v=true):v=.pv (.sc (.pointer none)):=by grind[TN]
theorem iw {P:Program} {t e:TypeId} {x y:Operand} (ht:P.underlying t=some (.pointer e)) :
  quick P (do eqGuard .eql t x y (.pointer none) (.pointer none); binOp .eql t (.pointer none) (.pointer none))=some (.bool true)/\quick P (do eqGuard .neq t x y (.pointer none) (.pointer none); binOp .neq t (.pointer none) (.pointer none))=some (.bool false):=by
 have he:quick P (Op.equal t (.pointer none) (.pointer none))=some true:=by
  show quick P (Op.equalIn (9999+1) t (.pointer none) (.pointer none))=some true
  unfold Op.equalIn;exact Cf (I7 ht) rfl
 constructor
 .refine Cf (a:=()) rfl ?_
  exact Cf he rfl
 .refine Cf (a:=()) rfl ?_
  exact Cf he rfl
theorem AM8 {E:Env} {L:A8} {lk:Lk} {ρ:Nat->AV} (hA:HI lk ρ) {s:AM} {o:Oper} {op:BinOp} {t e:TypeId} {x y:Operand} {c:TypeId} {K:AV->Prop} (ho:o.op=.binOp op t x y c) (ht:E.P.underlying t=some (.pointer e))
  (h:aZ s (Y8 lk x) (Y8 lk y) op (Ag ρ x) (Ag ρ y) K):∃v,Cc E L ρ s o=some (v,s)/\K v:=by
 unfold aZ at h;split at h
 .rename_i hb
  simp only[AE] at hb;have hx:=Wt hb.1;have hy:=Wt hb.2;obtain⟨q1,q2⟩:=iw (x:=x) (y:=y) ht;have hf:Ik op (Ag ρ x) (Ag ρ y)=none:=by rw[hx,hy]; rfl
  have hn:II E.P s ρ op t x y=none:=by grind[II,D4,sameKind,rowsOf]
  have h1:Eh ρ o.op.operands.toList=true:=by
   have e:o.op.operands.toList=[x,y]:=by rw[ho]; rfl
   grind[Eh,HJ]
  have key:∀(v:Bool),quick E.P (do eqGuard op t x y (.pointer none) (.pointer none); binOp op t (.pointer none) (.pointer none))=some (.bool v)->Cc E L ρ s o=some (.pv (.sc (.bool v)),s):=by
   intro v hq
   have h2:Cw E ρ o=some (.pv (.sc (.bool v))):=by
    have:quick E.P (execOp (λz=>(HJ (Ag ρ z)).getD undef) o)=some (.value (.bool v)):=by
     unfold execOp;rw[ho];simp only[hx,hy,HJ,Ic];exact Cf hq rfl
    simp only[Cw,h1,GZ,this];rfl
   grind[Cc]
  grind
 .have hk:C5 E.P t=some 0:=by grind[C5]
  rw[<-hk] at h;exact ABZ hA ho h
theorem Ml {P:Program} {t:TypeId} {e:TypeId×TypeInfo×List AV} (h:Wr P t=some e):P.underlying t=some (.slice e.1)/\P.info? e.1=some e.2.1/\zeroOf P e.1=some e.2.2:=by grind
theorem AD8 {lk:Lk} {ρ:Nat->AV} (hA:HI lk ρ) {x:Option Operand} {v:Option AV} (h:AD6 lk x=some v):x.map (Ag ρ)=v:=by grind[CR]
theorem AM9 {P:Program} {s:AM} {t e:TypeId} {k:Nat} {x:AV} {lo hi mx:Option AV} {K:AV->Prop} (ht:P.underlying t=some (.slice e)) (hk:D3 P e=some k):Xu s k x lo hi mx K ->
  ∃v,PC P s t x lo hi mx=some v/\K v:=by
 unfold PC;simp only[ht,hk];intro h;cases x with
 | ref id off len sz=>
  obtain⟨l,h',h1,h2,h3⟩:=h
  grind
 | pv p=>
  obtain⟨rows,hr,h⟩:=BN h
  grind
 | AB p=>
  obtain⟨l,h',h1,h2,h3,h4⟩:=h
  grind[rowsOf]
 | own t p=>
  obtain⟨l,h',h1,h2,h3,h4⟩:=h
  grind[rowsOf]
 | _=>exact h.elim
theorem ANA {P:Program} {L:A8} {s:AM} {t:TypeId} {e:TypeId×TypeInfo×List AV} {x y:AV} {K:AV->AM->Prop} (he:Wr P t=some e) (hz:e.2.2.length=e.2.1.size/\e.2.1.size≠0)
  (h:Ct (L.mu e.1) L s e.1 e.2.1.size e.2.1.bytes x y K):∃v s',Ij P L s t x y=some (v,s')/\K v s':=by
 obtain⟨e1,e2,e3⟩:=Ml he;unfold Ij;simp only[e1,e2,e3,MN];rw[if_pos ⟨by grind,hz.2⟩];obtain⟨new,h1,h⟩:=BN h;simp only[h1];cases new with
 | nil=>
  grind
 | cons c cs=>
  grind
theorem KD {E:Env} {L:A8} {lk:Lk} {ρ:Nat->AV} {s:AM} {o:Oper} {K:AV->AM->Prop} (hA:HI lk ρ) (h:U5 E L lk s o K):∃v s',Cc E L ρ s o=some (v,s')/\K v s':=by
 obtain⟨v,s',h1,h2⟩:=h
 grind
theorem AD9 {P:Program} {a b:TypeId} {k k1 k2:IntKind} {n:Int} (ha:P.underlying a=some (.int k1)) (hb:P.underlying b=some (.int k)):quick P (convert a b (.int k2 n))=some (.int k (k.wrap n)):=by
 unfold convert;have h1:quick P (underlying a)=some (.int k1):=I7 ha;have h2:quick P (underlying b)=some (.int k):=I7 hb;exact Cf h1 (Cf h2 rfl)
theorem Wu {E:Env} {L:A8} {lk:Lk} {ρ:Nat->AV} {s:AM} {o:Oper} {K:AV->AM->Prop} (hA:HI lk ρ) (h:wOp E L lk s o K):∃v s',Cc E L ρ s o=some (v,s')/\K v s':=by
 obtain⟨dst,op,type,pos,after,guard⟩:=o;cases op with
 | move x=>
  grind[Cc,CR]
 | assign x=>
  grind[Cc,CR]
 | pick c a b=>
  obtain⟨cv,h1,h⟩:=BN h;obtain⟨av,h2,h⟩:=BN h;obtain⟨bv,h3,h⟩:=BN h;unfold A6 at h
  grind[Cc,CR]
 | alloc t=>
  obtain⟨z,h1,h2⟩:=BN h;exact⟨_,_,by simp only[Cc,h1]; rfl,h2⟩
 | box t x=>
  obtain⟨a,h1,h⟩:=BN h;cases hb:E.bz t with
  | true=>
   rw[hb] at h;obtain⟨h2,h3⟩:=h;exact⟨_,_,by simp only[Cc,CR hA h1,if_pos h2,Mt,hb,AN]; rfl,h3⟩
  | false=>
   rw[hb] at h;obtain⟨h2,h3⟩:=h;exact⟨_,_,by simp only[Cc,CR hA h1,if_pos h2,Mt,hb,AG]; rfl,h3⟩
 | build t parts=>
  obtain⟨z,h1,h⟩:=BN h;obtain⟨pl,h2,h⟩:=BN h;obtain⟨ps,h3,h⟩:=BN h;obtain⟨cs,h4,h5⟩:=BN h
  grind[UK,Rv,Cc]
 | buildSlice t len parts=>
  obtain⟨e,h1,h⟩:=BN h;obtain⟨ps,h2,hz,h⟩:=BN h;obtain⟨cs,h3,h⟩:=BN h;obtain⟨e1,e2,e3⟩:=Ml h1;have hf:=UK hA (cells:=FY len e.2.2) h2;rw[h3] at hf
  have:∀v s',(bif L.mu e.1&&Nat.blt 0 len then some (AV.ref s.bs.length 0 len e.2.1.size,{ s with bs:=s.bs++[cs] })
     else match Cm cs with
     | some ps=>some (.AB (CB e.2.1.size len ps),s)
     | none=>none)=some (v,s')->Cc E L ρ s ⟨dst,.buildSlice t len parts,type,pos,after,guard⟩=some (v,s'):=by grind[Cc,Gj,D3]
  grind
 | load t a=>
  grind[AIe,Cc,CR]
 | store t a x=>
  obtain⟨av,h1,h⟩:=BN h;obtain⟨xv,h2,h⟩:=BN h;obtain⟨k,h3,h⟩:=BN h;obtain⟨i,h4,rfl⟩:=E8 h3;unfold CJ at h;split at h
  .obtain⟨cs,h5,h6,h7⟩:=BN h
   refine⟨_,_,?_,h7⟩;simp only[Cc,CR hA h1,CR hA h2,M8,h4,QN,h5,if_pos h6]
  grind
 | nilCheck x=>
  obtain⟨a,h1,h⟩:=BN h
  have:∃v,KE s a=some v/\K v s:=by
   unfold DT at h
   grind[KE]
  grind[Cc,CR]
 | fieldAddr t x f=>
  obtain⟨a,h1,h⟩:=BN h;obtain⟨fd,h2,h⟩:=BN h;obtain⟨k,h3,h⟩:=BN h;cases k with
  | zero=>grind
  | succ k=>
   simp only at h;have:∃v,HT E.P s t a f=some v/\K v s:=by grind[HT,A0]
   grind[Cc,CR]
 | field t x f=>
  obtain⟨a,h1,h⟩:=BN h;obtain⟨fd,h2,h⟩:=BN h;obtain⟨k,h3,h⟩:=BN h;unfold AUV at h;split at h
  .rename_i cs
   obtain⟨v,h4,h5⟩:=nH h3 h;refine⟨v,s,?_,h5⟩;unfold AM4 at h2;split at h2
   .rename_i fields hu
    simp only[Cc,CR hA h1,Rw,hu,h2,h4]
   grind
  grind
 | indexAddr t x i=>
  obtain⟨a,h1,h⟩:=BN h;obtain⟨b,h2,h⟩:=BN h;split at h
  .rename_i e ht
   obtain⟨k,h3,h⟩:=BN h
   have:∃v,HU E.P s t a b=some v/\K v s:=by
    unfold HU;unfold Bh at h
    grind[XJ,rowsOf]
   grind[Cc,CR]
  grind[KD]
 | extract x i=>
  obtain⟨a,h1,h⟩:=BN h;unfold DC at h
  grind[Cc,CR,Ld]
 | makeFunc fn first captured=>
  grind[Cc,Y7]
 | makeInterface t x=>
  grind[Cc,CR]
 | slice t x lo hi mx=>
  simp only[wOp] at h;split at h
  .rename_i e ht
   obtain⟨k,h1,h⟩:=BN h;obtain⟨a,h2,h⟩:=BN h;obtain⟨l,h3,h⟩:=BN h;obtain⟨hh,h4,h⟩:=BN h;obtain⟨m,h5,h⟩:=BN h;obtain⟨v,h6,h7⟩:=AM9 ht h1 h
   grind[Cc,CR,AD8]
  grind[KD]
 | call c=>
  obtain⟨callee,args,ts⟩:=c;cases callee with
  | builtin b=>
   cases b with
   | len=>
    simp only[wOp] at h;split at h
    .rename_i x t hx ht
     obtain⟨a,h1,h⟩:=BN h;split at h
     .rename_i hu
      unfold Gs at h
      grind[Cc,CR,MS]
     .rename_i e hu
      obtain⟨n,h2,h3⟩:=BN h;refine⟨_,s,?_,h3⟩
      have hf:MS E.P t a=none:=by
       unfold MS
       grind
      grind[Cc,CR]
     grind[KD]
    grind
   | append=>
    simp only[wOp] at h;split at h
    .rename_i x y t u us hx ht
     split at h
     .grind
     .rename_i d hne hd
      obtain⟨a,h1,h⟩:=BN h;obtain⟨b,h2,h⟩:=BN h;obtain⟨e,h3,h4,h5⟩:=BN h
      grind[ANA,Cc,CR]
     grind
    grind
   | _=>grind[KD]
  | _=>grind[KD]
 | binOp op t x y c=>
  obtain⟨a,h1,h⟩:=BN h;obtain⟨b,h2,h⟩:=BN h;have ZD:=CR hA h1;have h2':=CR hA h2;subst ZD h2';split at h
  .rename_i k ht
   obtain⟨v,h3,h4⟩:=AM6 (L:=L) (s:=s) (o:=⟨dst,.binOp op t x y c,type,pos,after,guard⟩) rfl ht h
   grind
  .rename_i ht
   obtain⟨v,h3,h4⟩:=AM7 (L:=L) (s:=s) (o:=⟨dst,.binOp op t x y c,type,pos,after,guard⟩) rfl ht h
   grind
  .rename_i ht
   obtain⟨v,h3,h4⟩:=AD7 (L:=L) (s:=s) (o:=⟨dst,.binOp op t x y c,type,pos,after,guard⟩) rfl ht h
   grind
  .grind[KD]
  .rename_i ht
   obtain⟨v,h3,h4⟩:=AM8 (L:=L) hA (o:=⟨dst,.binOp op t x y c,type,pos,after,guard⟩) rfl ht h
   grind
  .obtain⟨v,h3,h4⟩:=ABZ (L:=L) hA (o:=⟨dst,.binOp op t x y c,type,pos,after,guard⟩) rfl h
   grind
 | unOp op t x=>
  simp only[wOp] at h;split at h
  .obtain⟨a,h1,h⟩:=BN h
   unfold Dt at h
   grind[Cc,CR,XO]
  grind[KD]
 | index t x i=>
  simp only[wOp] at h;split at h
  .rename_i ht
   obtain⟨a,h1,h⟩:=BN h;obtain⟨b,h2,h⟩:=BN h;unfold Lv at h
   grind[Cc,CR,MR]
  grind[KD]
 | convert a b x=>
  simp only[wOp] at h;split at h
  .rename_i k1 k ha hb
   obtain⟨v,h1,h⟩:=BN h;unfold MB at h;split at h
   .rename_i k2 n
    refine⟨_,s,?_,h⟩
    have hq:Cw E ρ ⟨dst,.convert a b x,type,pos,after,guard⟩=some (.pv (.sc (.int k (k.wrap n)))):=by
     unfold Cw;have hall:Eh ρ (Op.operands (.convert a b x)).toList=true:=by grind[Eh,Op.operands,CR,HJ]
     rw[if_pos hall]
     have:quick E.P (execOp (λz=>(HJ (Ag ρ z)).getD undef) ⟨dst,.convert a b x,type,pos,after,guard⟩)=some (.value (.int k (k.wrap n))):=by
      simp only[execOp,CR hA h1,HJ,Ic];exact Cf (AD9 ha hb) rfl
     rw[this];rfl
    grind[Cc]
   grind
  grind[KD]
 | _=>grind[KD]
end Go.Tel
