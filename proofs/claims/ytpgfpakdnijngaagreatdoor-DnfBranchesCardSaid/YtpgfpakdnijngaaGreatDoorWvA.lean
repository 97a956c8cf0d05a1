/-
  Arguments that are not known: what a single operation needs so that it answers as wanted.
-/
import Derived.Test.YtpgfpakdnijngaaGreatDoorEvI
set_option linter.all false
namespace Go.Tel
open Option renaming some->Y,none->G
open Bool renaming true->Z,false->ϴ
open Go renaming TypeId->ϝ,Program->ϟ,Oper->ϡ,IntKind->ϥ,Operand->ϧ
abbrev Lk:=Nat->Option AV
abbrev AG (n:Int):AV:=.pv (.sc (.int .i64 n))
abbrev BB (b:Bool):AV:=.pv (.sc (.bool b))
abbrev SS (l:Ϝ):AV:=.pv (.sc (.string ⟨l.toArray⟩))
def Bk (E:Env) (L:Ba) (f:FuncId) (args:Ϭ) (s:AY) (v:AV) (b:AY):Prop:=
 ∃n,∀m,n<=m->Dk E m L f args s=Y (v,b)
def Hh (lk:Lk) (U:Nat->AV):Prop:=∀t v,lk t=Y v->U t=v
abbrev wO {α:Type} (x:Option α) (K:α->Prop):Prop:=match x with
 | some a=>K a
 | none=>False
theorem Bm {α:Type} {x:Option α} {K:α->Prop} (h:wO x K):∃a,x=Y a/\K a:=AB
abbrev I3 (lk:Lk):ϧ->Option AV
 | .tmp t=>lk t
 | .const v=>Y (ofConst v)
 | .global g=>Y (.EF g 0)
 | .func f=>Y (.func (.func f) [] [])
theorem Cj {lk:Lk} {U:Nat->AV} (hA:Hh lk U) {x:ϧ} {v:AV} (h:I3 lk x=Y v):A1 U x=v:=by
 cases x with
 | tmp t=>exact hA t v h
 | const u=>grind[A1]
 | global g=>grind[A1]
 | func f=>grind[A1]
abbrev qZ (lk:Lk):List ϧ->Option Ϭ
 | []=>Y []
 | x::b=>match I3 lk x,qZ lk b with
  | some a,Y as=>Y (a::as)
  | _,_=>G
theorem aW {lk:Lk} {U:Nat->AV} (hA:Hh lk U):∀{xs:List ϧ} {vs:Ϭ},qZ lk xs=Y vs->xs.map (A1 U)=vs
 | [],vs,h=>by grind
 | x::xs,vs,h=>by
  simp only[qZ] at h;split at h
  .rename_i a as b d
   simp at h; subst h;simp[Cj hA b,aW hA d]
  grind
abbrev qa (lk:Lk) (place:Nat->Option (Nat×Nat)):List (Nat×ϧ)->Option (List (Nat×Nat×AV))
 | []=>Y []
 | (i,x)::d=>match place i,I3 lk x,qa lk place d with
  | some (b,size),Y a,Y as=>Y ((b,size,a)::as)
  | _,_,_=>G
def Ee (cells:Ϭ):List (Nat×Nat×AV)->Option Ϭ
 | []=>Y cells
 | (b,size,v)::d=>if (cellsOf v).length=size/\b+size<=cells.length/\(cellsOf v).all BS=Z then Ee (setCells cells b (cellsOf v)) d else G
theorem Vw {lk:Lk} {U:Nat->AV} (hA:Hh lk U) {place:Nat->Option (Nat×Nat)}:∀{parts:List (Nat×ϧ)} {ps:List (Nat×Nat×AV)} {cells:Ϭ},qa lk place parts=Y ps ->
  Mf place cells (parts.map λp=>(p.1,A1 U p.2))=Ee cells ps
 | [],ps,cells,h=>by
  simp[qa] at h; subst h;rfl
 | (i,x)::parts,ps,cells,h=>by
  simp only[qa] at h;split at h
  .rename_i f size a as b d e
   simp at h; subst h;simp only[CH,Mf,b,Cj hA d,Ee];split
   .exact Vw hA e
   rfl
  grind
def Gq (c a b:AV) (K:AV->Prop):Prop:=match c with
 | .pv (.sc (.bool t))=>K (bif t then a else b)
 | _=>False
def Hr (s:AY) (cs:Ϭ) (K:Ϡ):Prop:=K (.ptr s.bs.length 0) ⟨s.bs++[cs],s.ts⟩
def MD (s:AY) (x:AV) (K:Ϡ):Prop:=(cellsOf x).all BS=Z/\Hr s (cellsOf x) K
def JL (id:Nat) (t:ϝ):Ϭ->Ϭ
 | .pv (.sc (.pointer G))::r=>.bz id t (r.length+1)::r
 | z=>z
def Ir (s:AY) (t:ϝ) (x:AV) (K:Ϡ):Prop:=(cellsOf x).all BS=Z/\Hr s (JL s.bs.length t (cellsOf x)) K
def E3 (z:Ϭ) (ps:List (Nat×Nat×AV)) (K:AV->Prop):Prop:=wO (Ee z ps) λb=>K (.agg b)
def HJ (d:Bool) (s:AY) (k:Nat) (z:Ϭ) (len:Nat) (ps:List (Nat×Nat×AV)) (K:Ϡ):Prop:=
 (len*k<=2 ^ 24/\z.length=k/\k≠0)/\wO (Ee (GC len z) ps) λb=>
  bif d&&Nat.blt 0 len then K (.ref s.bs.length 0 len k) ⟨s.bs++[b],s.ts⟩ else wO (C0 b) λps=>K (.AE (CZ k len ps)) s
def Dd (k:Option Nat) (cs:Ϭ) (off:Nat) (K:AV->Prop):Prop:=match k with
 | some k=>off+k<=cs.length/\K (.agg ((cs.drop off).take k))
 | none=>wO cs[off]? K
def EX (E:Env) (s:AY) (k:Option Nat) (x:AV) (K:AV->Prop):Prop:=match x with
 | .ptr id b=>wO s.bs[id]? λe=>Dd k e b K
 | .EF g b=>wO (E.G g) λd=>Dd k (d.map .pv) b K
 | .DF d b=>Dd k (d.map .pv) b K
 | _=>False
def Hw (L:Ba) (s:AY) (k:Nat) (a x:AV) (K:AY->Prop):Prop:=match a with
 | .ptr id b=>wO s.bs[id]? λd=>((cellsOf x).length=k/\b+(cellsOf x).length<=d.length/\L.ro<=id/\(cellsOf x).all BS=Z/\(L.n0<=id\/JB (cellsOf x)=Z)/\k≠0)/\K ⟨s.bs.set id (setCells d b (cellsOf x)),s.ts⟩
 | _=>False
def Iv (s:AY) (x:AV) (K:AV->Prop):Prop:=match x with
 | .ptr id d=>alive s id=Z/\K (.ptr id d)
 | .EF g d=>K (.EF g d)
 | .DF r d=>K (.DF r d)
 | .func (.func f) a b=>K (.func (.func f) a b)
 | _=>False
def Ex (s:AY) (x:AV) (d:Nat) (K:AV->Prop):Prop:=match x with
 | .ptr id b=>alive s id=Z/\K (.ptr id (b+d))
 | .EF g b=>K (.EF g (b+d))
 | .DF r b=>K (.DF r (b+d))
 | _=>False
def AK8 (k:Option Nat) (x:AV) (off:Nat) (K:AV->Prop):Prop:=match x with
 | .agg b=>Dd k b off K
 | _=>False
def OK (s:AY) (k:Nat) (x e:AV) (K:AV->Prop):Prop:=match e with
 | .pv (.sc (.int _ i))=>match x with
  | .ref id d len sz=>(0<=i/\i<len/\sz=k/\alive s id=Z)/\K (.ptr id (d+i.toNat*k))
  | x=>wO (rowsOf x) λrows=>0<=i/\∃b,rows[i.toNat]?=Y b/\b.length=k/\k≠0/\K (.DF b 0)
 | _=>False
def Iu (x:AV) (i:Nat) (K:AV->Prop):Prop:=match x with
 | .tuple b=>wO b[i]? K
 | _=>False
def Gl (s:AY) (x:AV) (K:AV->Prop):Prop:=wO (BG s x) λn=>K (AG n)
def Hs (x:AV) (K:AV->Prop):Prop:=match x with
 | .pv (.sc (.string b))=>K (AG b.data.toList.length)
 | _=>False
def XA (x i:AV) (K:AV->Prop):Prop:=match x,i with
 | .pv (.sc (.string b)),.pv (.sc (.int _ n))=>0<=n/\∃c,b.data.toList[n.toNat]?=Y c/\K (.pv (.sc (.int .u8 c.toNat)))
 | _,_=>False
def iu (k:ϥ) (n:Int) (K:AV->Prop):Prop:=K (.pv (.sc (.int k (k.wrap n))))
def Dh (k:ϥ) (op:BinOp) (x y:AV) (K:AV->Prop):Prop:=match x,y with
 | .pv (.sc (.int k1 a)),.pv (.sc (.int k2 b))=>(k1=k/\k2=k)/\match op with
  | .add=>iu k (a+b) K
  | .sub=>iu k (a-b) K
  | .mul=>iu k (a*b) K
  | .quo=>b≠0/\iu k (a.tdiv b) K
  | .rem=>b≠0/\K (.pv (.sc (.int k (a.tmod b))))
  | .eql=>K (BB (a==b))
  | .neq=>K (BB (a != b))
  | .lss=>K (BB (a<b))
  | .leq=>K (BB (a<=b))
  | .gtr=>K (BB (a>b))
  | .geq=>K (BB (a>=b))
  | .shr=>0<=b/\K (.pv (.sc (.int k (a.fdiv (2 ^ (min b.toNat k.bits))))))
  | _=>False
 | _,_=>False
def Jf (op:BinOp) (x y:AV) (K:AV->Prop):Prop:=match x,y with
 | .pv (.sc (.string a)),.pv (.sc (.string b))=>match op with
  | .add=>a.data.toList.length+b.data.toList.length<2 ^ 63/\K (.pv (.sc (.string ⟨(a.data.toList++b.data.toList).toArray⟩)))
  | .eql=>K (BB (a.data.toList==b.data.toList))
  | .neq=>K (BB (!(a.data.toList==b.data.toList)))
  | .lss=>K (BB (Op.bytesLess a.data.toList b.data.toList))
  | .leq=>K (BB (Op.bytesLess a.data.toList b.data.toList||(a.data.toList==b.data.toList)))
  | .gtr=>K (BB (!(Op.bytesLess a.data.toList b.data.toList||(a.data.toList==b.data.toList))))
  | .geq=>K (BB (!(Op.bytesLess a.data.toList b.data.toList)))
  | _=>False
 | _,_=>False
def fD (op:BinOp) (x y:AV) (K:AV->Prop):Prop:=match x,y with
 | .pv (.sc (.bool a)),.pv (.sc (.bool b))=>match op with
  | .eql=>K (BB (a==b))
  | .neq=>K (BB (!(a==b)))
  | _=>False
 | _,_=>False
def K9 (x:AV) (K:AV->Prop):Prop:=match x with
 | .pv (.sc (.bool b))=>K (BB (!b))
 | _=>False
def Uj:AV->Option Nat
 | .pv (.sc (.pointer G))=>Y 0
 | .pv (.sc .nilFunc)=>Y 2
 | .pv (.sc .nilIface)=>Y 3
 | _=>G
abbrev Wl (lk:Lk):ϧ->Option Nat
 | .const v=>match v with
  | .slice G 0 0=>Y 1
  | v=>Uj (ofConst v)
 | .tmp t=>match lk t with
  | some v=>Uj v
  | none=>G
 | _=>G
def uO (s:AY) (k:Option Nat) (n m:Option Nat) (op:BinOp) (x y:AV) (K:AV->Prop):Prop:=
 (sameKind k (Ec s x) m||sameKind k n (Ec s y))=Z/\match op with
  | .eql=>K (BB ϴ)
  | .neq=>K (BB Z)
  | _=>False
def Uk:AV->Bool
 | .pv (.sc (.pointer G))=>Z
 | _=>ϴ
def cr (s:AY) (n m:Option Nat) (op:BinOp) (x y:AV) (K:AV->Prop):Prop:=match Uk x&&Uk y with
 | true=>match op with
  | .eql=>K (BB Z)
  | .neq=>K (BB ϴ)
  | _=>False
 | false=>uO s (Y 0) n m op x y K
def I6 (j:Bool) (L:Ba) (s:AY) (e:ϝ) (k bytes:Nat) (x y:AV) (K:Ϡ):Prop:=
 wO (DS s k y) λf=>match f with
  | []=>match x with
   | .ref id _ _ _=>alive s id=Z/\K x s
   | x=>wO (rowsOf x) λ_=>K x s
  | c::b=>((c::b).all BS=Z)/\match x with
   | .ref id i len sz=>wO s.bs[id]? λd=>(i=0/\sz=k/\len*sz<=d.length/\alive s id=Z/\(len+(c::b).length / k)*bytes<=2 ^ 45/\len+(c::b).length / k<=2 ^ 45/\L.ro<=id) /\
     K (.ref s.bs.length 0 (len+(c::b).length / k) sz) ⟨s.bs.set id []++[d.take (len*sz)++(c::b)],s.ts⟩
   | .AE rows=>((rows.length+(c::b).length / k)*bytes<=2 ^ 45/\rows.length+(c::b).length / k<=2 ^ 45/\(rows.all λr=>r.length==k)=Z) /\
     bif j then K (.ref s.bs.length 0 (rows.length+(c::b).length / k) k) ⟨s.bs++[rows.flatten.map .pv++(c::b)],s.ts⟩
     else wO (C0 (c::b)) λps=>K (.own s.ts.length (rows++CZ k ((c::b).length / k) ps)) ⟨s.bs,s.ts++[(rows.length+(c::b).length / k,e)]⟩
   | .own t rows=>((rows.length+(c::b).length / k)*bytes<=2 ^ 45/\rows.length+(c::b).length / k<=2 ^ 45/\s.ts[t]?=Y (rows.length,e)/\L.rt<=t/\(rows.all λr=>r.length==k)=Z) /\
     wO (C0 (c::b)) λps=>K (.own t (rows++CZ k ((c::b).length / k) ps)) ⟨s.bs,s.ts.set t (rows.length+(c::b).length / k,e)⟩
   | _=>False
def ANR (L:Ba) (s:AY) (e:ϝ) (k bytes:Nat) (x v:AV) (K:Ϡ):Prop:=
 (cellsOf v).all BS=Z/\wO (C0 (cellsOf v)) λb=>b.length=k/\match x with
  | .AE rows=>((rows.length+1)*bytes<=2 ^ 45/\rows.length+1<=2 ^ 45/\(rows.all λr=>r.length==k)=Z)/\K (.own s.ts.length (rows++[b])) ⟨s.bs,s.ts++[(rows.length+1,e)]⟩
  | .own t rows=>((rows.length+1)*bytes<=2 ^ 45/\rows.length+1<=2 ^ 45/\s.ts[t]?=Y (rows.length,e)/\L.rt<=t/\(rows.all λr=>r.length==k)=Z)/\K (.own t (rows++[b])) ⟨s.bs,s.ts.set t (rows.length+1,e)⟩
  | _=>False
def o5 (s:AY) (k:Nat) (x:AV) (lo b mx:Option AV) (K:AV->Prop):Prop:=match x with
 | .ref id d len sz=>∃l h,GH 0 lo=Y l/\GH len b=Y h/\match mx with
  | none=>(l<=h/\h<=len/\sz=k/\k≠0/\alive s id=Z)/\K (if l=h then .pv (.list []) else .ref id (d+l*k) (h-l) sz)
  | some m=>(l=h/\h<=len/\Ho m=Y h/\b.isSome=Z/\alive s id=Z)/\K (.AE [])
 | x=>wO (rowsOf x) λrows=>∃l h,GH 0 lo=Y l/\GH rows.length b=Y h/\(l<=h/\h<=rows.length/\(rows.all λr=>r.length==k)=Z)/\match mx with
  | none=>K (.pv (.list ((rows.take h).drop l)))
  | some m=>(Ho m=Y h/\b.isSome=Z)/\K (.AE ((rows.take h).drop l))
def PA (k:ϥ) (x:AV) (K:AV->Prop):Prop:=match x with
 | .pv (.sc (.int _ n))=>K (.pv (.sc (.int k (k.wrap n))))
 | _=>False
def Wm (E:Env) (L:Ba) (lk:Lk) (s:AY) (o:ϡ) (K:Ϡ):Prop:=
 ∃v b,(∀U,Hh lk U->C6 E L U s o=Y (v,b))/\K v b
def G4 (E:Env) (L:Ba) (f:AV) (args:Ϭ) (s:AY) (K:Ϡ):Prop:=match f with
 | .func (.func g) first d=>∃v b,Bk E L g (first++args++d) s v b/\K v b
 | _=>False
abbrev ldK (P:ϟ) (t:ϝ):Option (Option Nat):=match P.underlying t,P.info? t with
 | some d,Y i=>match d with
  | .struct _|.array _ _=>if i.size≠0 then Y (Y i.size) else G
  | _=>Y G
 | _,_=>G
abbrev yT (P:ϟ) (t:ϝ) (f:Nat):Option Field:=match P.underlying t with
 | some (.struct fields)=>fields[f]?
 | _=>G
abbrev yU (P:ϟ) (t:ϝ):Option (Nat->Option (Nat×Nat)):=match P.underlying t with
 | some (.struct fields)=>bif fields.all (λf=>(Dy P f.type).isSome) then Y (TR P fields) else G
 | some (.array _ b)=>match Dy P b with
  | some k=>Y λi=>Y (i*k,k)
  | none=>G
 | _=>G
abbrev Oe (P:ϟ) (t:ϝ):Option (ϝ×TypeInfo×Ϭ):=match P.underlying t with
 | some (.slice e)=>match P.info? e,zeroOf P e with
  | some i,Y z=>Y (e,i,z)
  | _,_=>G
 | _=>G
abbrev ABD (lk:Lk):Option ϧ->Option (Option AV)
 | none=>Y G
 | some x=>match I3 lk x with
  | some v=>Y (Y v)
  | none=>G
abbrev yV (E:Env) (L:Ba) (lk:Lk) (s:AY) (o:ϡ) (K:Ϡ):Prop:=
 match o.op with
 | .move x=>wO (I3 lk x) λx=>K x s
 | .assign x=>wO (I3 lk x) λx=>K x s
 | .pick c a b=>wO (I3 lk c) λc=>wO (I3 lk a) λa=>wO (I3 lk b) λb=>Gq c a b λv=>K v s
 | .alloc t=>wO (zeroOf E.P t) λz=>Hr s (OS E s.bs.length t z) K
 | .box t x=>wO (I3 lk x) λx=>match E.bz t with
  | true=>Ir s t x K
  | false=>MD s x K
 | .build t parts=>wO (zeroOf E.P t) λz=>wO (yU E.P t) λpl=>wO (qa lk pl parts.toList) λps=>E3 z ps λv=>K v s
 | .buildSlice t len parts=>wO (Oe E.P t) λe=>wO (qa lk (λi=>Y (i*e.2.1.size,e.2.1.size)) parts.toList) λps=>HJ (y7 L e.1) s e.2.1.size e.2.2 len ps K
 | .load t a=>wO (I3 lk a) λa=>wO (ldK E.P t) λk=>EX E s k a λv=>K v s
 | .store t a x=>wO (I3 lk a) λa=>wO (I3 lk x) λx=>wO (Dy E.P t) λk=>Hw L s k a x λs=>K (.tuple []) s
 | .nilCheck x=>wO (I3 lk x) λx=>Iv s x λv=>K v s
 | .fieldAddr t x f=>wO (I3 lk x) λx=>wO (yT E.P t f) λf=>wO (Dy E.P f.type) λk=>match k with
  | 0=>False
  | _+1=>Ex s x f.offset λv=>K v s
 | .field t x f=>wO (I3 lk x) λx=>wO (yT E.P t f) λf=>wO (ldK E.P f.type) λk=>AK8 k x f.offset λv=>K v s
 | .indexAddr t x i=>wO (I3 lk x) λx=>wO (I3 lk i) λi=>match E.P.underlying t with
  | some (.slice e)=>wO (Dy E.P e) λk=>OK s k x i λv=>K v s
  | _=>Wm E L lk s o K
 | .extract x i=>wO (I3 lk x) λx=>Iu x i λv=>K v s
 | .makeFunc n first m=>wO (qZ lk first.toList) λa=>wO (qZ lk m.toList) λb=>K (.func n a b) s
 | .makeInterface t x=>wO (I3 lk x) λx=>match E.P.underlying t with
  | some (.interface _)=>False
  | some _=>K (.iface t x) s
  | none=>False
 | .slice t x j l mx=>match E.P.underlying t with
  | some (.slice e)=>wO (Dy E.P e) λk=>wO (I3 lk x) λx=>wO (ABD lk j) λj=>wO (ABD lk l) λl=>wO (ABD lk mx) λmx=>o5 s k x j l mx λv=>K v s
  | _=>Wm E L lk s o K
 | .call { callee:=.builtin .len,args:=d,argTypes:=ts }=>match d.toList,ts.toList with
  | [x],[t]=>wO (I3 lk x) λx=>match E.P.underlying t with
   | some .string=>Hs x λv=>K v s
   | some (.slice _)=>Gl s x λv=>K v s
   | _=>Wm E L lk s o K
  | _,_=>False
 | .call { callee:=.builtin .append,args:=d,argTypes:=ts }=>match d.toList,ts.toList with
  | [x,y],t::u::_=>match E.P.underlying u with
   | some (.int _)=>False
   | some _=>wO (I3 lk x) λx=>wO (I3 lk y) λy=>wO (Oe E.P t) λe=>(e.2.2.length=e.2.1.size/\e.2.1.size≠0)/\I6 (L.mu e.1) L s e.1 e.2.1.size e.2.1.bytes x y K
   | none=>False
  | _,_=>False
 | .binOp op t x y _=>wO (I3 lk x) λa=>wO (I3 lk y) λb=>match E.P.underlying t with
  | some (.int k)=>Dh k op a b λv=>K v s
  | some .string=>Jf op a b λv=>K v s
  | some .bool=>fD op a b λv=>K v s
  | some (.interface _)=>Wm E L lk s o K
  | some (.pointer _)=>cr s (Wl lk x) (Wl lk y) op a b λv=>K v s
  | _=>uO s (DT E.P t) (Wl lk x) (Wl lk y) op a b λv=>K v s
 | .unOp op _ x=>match op with
  | .not=>wO (I3 lk x) λx=>K9 x λv=>K v s
  | _=>Wm E L lk s o K
 | .index t x i=>match E.P.underlying t with
  | some .string=>wO (I3 lk x) λx=>wO (I3 lk i) λi=>XA x i λv=>K v s
  | _=>Wm E L lk s o K
 | .convert a b x=>match E.P.underlying a,E.P.underlying b with
  | some (.int _),Y (.int k)=>wO (I3 lk x) λx=>PA k x λv=>K v s
  | _,_=>Wm E L lk s o K
 | _=>Wm E L lk s o K
theorem oO {P:ϟ} {t:ϝ} {k:Option Nat} {cs:Ϭ} {off:Nat} {K:AV->Prop} (b:ldK P t=Y k) (h:Dd k cs off K):∃v,partOf P t cs off=Y v/\K v:=by
 unfold ldK at b;unfold partOf
 grind[Dd]
theorem AEp {E:Env} {s:AY} {t:ϝ} {k:Option Nat} {x:AV} {K:AV->Prop} (b:ldK E.P t=Y k) (h:EX E s k x K):∃v,TQ E s t x=Y v/\K v:=by
 unfold EX at h
 grind[TQ,Ro,oO]
def C9 {P:ϟ} {α β:Type} {x:Sem α} {f:α->Sem β} {a:α} {b:β} (h:quick P x=Y a) (k:quick P (f a)=Y b):quick P (x >>= f)=Y b:=by
 induction x with
 | pure e=>simp only[quick,BU] at h; subst h; exact k
 | program g d=>exact d _ h
 | mark _ g d=>exact d h
 | _=>grind[quick]
def Jr {P:ϟ} {t:ϝ} {d:TypeDesc} (h:P.underlying t=Y d):quick P (underlying t)=Y d:=by
 unfold underlying;refine C9 (a:=P) rfl ?_;rw[h];rfl
def kH {E:Env} {L:Ba} {U:Nat->AV} {s:AY} {o:ϡ} {op:BinOp} {t:ϝ} {x y:ϧ} {c:ϝ} {d e v:Value} (j:o.op=.binOp op t x y c) (hx:A1 U x=.pv (.sc d)) (k:A1 U y=.pv (.sc e))
  (A:DT E.P t=G) (n:∀a b,quick E.P (eqGuard op t a b d e)=Y ()) (p:quick E.P (binOp op t d e)=Y v) (B:OQ v=.pv (.sc v)):C6 E L U s o=Y (.pv (.sc v),s):=by
 obtain⟨dst,r,i,pos,f,guard⟩:=o;simp only at j;subst j;simp only[C6];cases hf:JW op (A1 U x) (A1 U y) with
 | some u=>
  have C:=(OY (P:=E.P) (g:=AZ.bare λ_ _=>False) (w:=default) (t:=t) (by rw[hx]; exact V.Jo d) (by rw[k]; exact V.Jo e) hf).1
  simp_all[Wt]
 | none=>
  have hn:JC E.P s U op t x y=none:=by simp[*,JC,sameKind]
  simp only[hn]
  have m:DN E U ⟨dst,.binOp op t x y c,i,pos,f,guard⟩=Y (.pv (.sc v)):=by
   unfold DN;have l:FA U (Op.operands (.binOp op t x y c)).toList=true:=by grind[FA,Op.operands,Hx]
   rw[if_pos l]
   have:quick E.P (execOp (λz=>(Hx (A1 U z)).getD undef) ⟨dst,.binOp op t x y c,i,pos,f,guard⟩)=Y (.value v):=by
    simp only[execOp,hx,k,Hx,JR];exact C9 (C9 (n x y) p) rfl
   grind
  rw[m]
def qb {P:ϟ} {op:BinOp} {t:ϝ} {a b:ϧ} {k1 k2:ϥ} {m n:Int}:quick P (eqGuard op t a b (.int k1 m) (.int k2 n))=Y ():=by
 unfold eqGuard;split <;> rfl
def qc {P:ϟ} {op:BinOp} {t:ϝ} {a b:ϧ} {m n:ByteArray}:quick P (eqGuard op t a b (.string m) (.string n))=Y ():=by
 unfold eqGuard;split <;> rfl
def kI {P:ϟ} {op:BinOp} {t:ϝ} {a b:ϧ} {m n:Bool}:quick P (eqGuard op t a b (.bool m) (.bool n))=Y ():=by
 unfold eqGuard;split <;> rfl
def AK9 {E:Env} {L:Ba} {U:Nat->AV} {s:AY} {o:ϡ} {op:BinOp} {t:ϝ} {x y:ϧ} {c:ϝ} {k:ϥ} {K:AV->Prop} (e:o.op=.binOp op t x y c) (f:E.P.underlying t=Y (.int k))
  (h:Dh k op (A1 U x) (A1 U y) K):∃v,C6 E L U s o=Y (v,s)/\K v:=by
 unfold Dh at h;split at h
 .rename_i k1 a k2 b hx i
  obtain⟨⟨j,l⟩,h⟩:=h;subst j;subst l;have m:DT E.P t=none:=by simp[DT,f]
  have d:∀v,quick E.P (binOp op t (.int k2 a) (.int k2 b))=Y v->OQ v=.pv (.sc v)->K (.pv (.sc v))->∃v,C6 E L U s o=Y (v,s)/\K v:=λv n p r=>
   ⟨_,kH e hx i m (λ_ _=>qb) n p,r⟩
  cases op <;> first
   | grind
   | exact d _ (by simp[binOp,Op.intArith]; rfl) rfl h
   | exact d _ (by simp[binOp,Op.intCmp]; rfl) rfl h
   | exact d _ (by simp[binOp,Op.intDiv,h.1]; rfl) rfl h.2
   | exact d _ (by simp[binOp,Op.shift,Int.not_lt.2 h.1]; rfl) rfl h.2
 grind
def ALA {E:Env} {L:Ba} {U:Nat->AV} {s:AY} {o:ϡ} {op:BinOp} {t:ϝ} {x y:ϧ} {c:ϝ} {K:AV->Prop} (k:o.op=.binOp op t x y c) (l:E.P.underlying t=Y .string)
  (h:Jf op (A1 U x) (A1 U y) K):∃v,C6 E L U s o=Y (v,s)/\K v:=by
 unfold Jf at h;split at h
 .rename_i a b hx m
  have n:DT E.P t=none:=by simp[DT,l]
  have d:∀v,quick E.P (Op.stringOp op a b)=Y v->OQ v=.pv (.sc v)->K (.pv (.sc v))->∃v,C6 E L U s o=Y (v,s)/\K v:=λv f i j=>
   ⟨_,kH k hx m n (λ_ _=>qc) (by simpa[binOp] using f) i,j⟩
  cases op <;> first
   | grind
   | exact d _ (by simp only[Op.stringOp,Go.ByteArray.toList_eq]; rfl) rfl h
   | skip
  obtain⟨f,i⟩:=h;have e:(a++b)=(⟨(a.data.toList++b.data.toList).toArray⟩:ByteArray):=AX;refine d (.string (a++b)) ?_ rfl AB
  have p:¬ ((a.size+b.size:Nat):Int)>IntKind.i64.max:=by
   have j:a.size=a.data.toList.length:=(IZ (xs:=a.data)).symm;have r:b.size=b.data.toList.length:=(IZ (xs:=b.data)).symm;have u:IntKind.i64.max=9223372036854775807:=AX;omega
  simp only[Op.stringOp,if_neg p];rfl
 grind
def ABE {E:Env} {L:Ba} {U:Nat->AV} {s:AY} {o:ϡ} {op:BinOp} {t:ϝ} {x y:ϧ} {c:ϝ} {K:AV->Prop} (e:o.op=.binOp op t x y c) (d:E.P.underlying t=Y .bool)
  (h:fD op (A1 U x) (A1 U y) K):∃v,C6 E L U s o=Y (v,s)/\K v:=by
 unfold fD at h;split at h
 .rename_i a b hx f
  have i:DT E.P t=none:=by simp[DT,d]
  have j:quick E.P (Op.equal t (.bool a) (.bool b))=Y (a==b):=by
   unfold Op.equal;have⟨m,hm⟩:∃m,Op.maxDepth=m+1:=⟨9999,rfl⟩;rw[hm];unfold Op.equalIn;have k:quick E.P (underlying t)=Y .bool:=Jr d;exact C9 k rfl
  have l:∀v,quick E.P (binOp op t (.bool a) (.bool b))=Y v->OQ v=.pv (.sc v)->K (.pv (.sc v))->∃v,C6 E L U s o=Y (v,s)/\K v:=λv n p r=>
   ⟨_,kH e hx f i (λ_ _=>kI) n p,r⟩
  cases op <;> first
   | grind
   | exact l _ (C9 j rfl) rfl h
 grind
theorem YV {U:Nat->AV} {x:ϧ} {k:Nat} (hx:∀a b c,x≠.const (.slice a b c)) (h:Uj (A1 U x)=Y k):F1 U x=Y k:=by grind[Uj,F1]
theorem kJ {a:Option Addr} {b c:Nat}:Uj (ofConst (.slice a b c))=none:=by
 show Uj (IC (.slice a b c))=G
 unfold IC;split
 .rfl
 rfl
def oP {lk:Lk} {U:Nat->AV} (hA:Hh lk U) {x:ϧ} {k:Nat} (h:Wl lk x=Y k):F1 U x=Y k:=by
 cases x with
 | const v=>
  by_cases d:v=.slice G 0 0
  .subst d
   exact h
  .have h:Uj (ofConst v)=Y k:=by grind
   by_cases i:∃a b c,v=.slice a b c
   .grind[kJ]
   .exact YV (λa b c e=>i ⟨a,b,c,AB⟩) h
 | tmp t=>
  grind[YV,Cj]
 | global g=>grind
 | func f=>grind
def yW {E:Env} {L:Ba} {lk:Lk} {U:Nat->AV} (hA:Hh lk U) {s:AY} {o:ϡ} {op:BinOp} {t:ϝ} {x y:ϧ} {c:ϝ} {K:AV->Prop} (e:o.op=.binOp op t x y c)
  (h:uO s (DT E.P t) (Wl lk x) (Wl lk y) op (A1 U x) (A1 U y) K):∃v,C6 E L U s o=Y (v,s)/\K v:=by
 obtain⟨dst,l,j,pos,i,guard⟩:=o;simp only at e;subst e;obtain⟨h1,m⟩:=h
 have hs:(sameKind (DT E.P t) (Ec s (A1 U x)) (F1 U y)||sameKind (DT E.P t) (F1 U x) (Ec s (A1 U y)))=true:=by
  simp only[D5] at h1 ⊢;rcases h1 with h1|h1
  .left
   have⟨k,d,b,e3⟩:=FF h1;rw[oP hA e3,d,b];simp[sameKind]
  .right
   have⟨k,d,b,e3⟩:=FF h1;rw[oP hA b,d,e3];simp[sameKind]
 have hf:JW op (A1 U x) (A1 U y)=none:=by
  simp only[D5] at hs;rcases hs with hs|hs
  .have⟨k,d,b,e3⟩:=FF hs
   cases hx:A1 U x <;> simp[hx,Ec,rowsOf] at b ⊢ <;> try rfl
   rename_i p;cases p with
   | sc v=>simp[rowsOf] at b
   | list rows=>rfl
  .have⟨k,d,b,e3⟩:=FF hs
   cases f:A1 U y <;> simp[f,Ec,rowsOf] at e3
   all_goals
    unfold JW
    grind
 grind[C6,JC]
def YW {v:AV} (h:Uk v=Z):v=.pv (.sc (.pointer G)):=by grind[Uk]
def kL {P:ϟ} {t e:ϝ} {x y:ϧ} (d:P.underlying t=Y (.pointer e)) :
  quick P (do eqGuard .eql t x y (.pointer G) (.pointer G); binOp .eql t (.pointer G) (.pointer G))=Y (.bool Z)/\quick P (do eqGuard .neq t x y (.pointer G) (.pointer G); binOp .neq t (.pointer G) (.pointer G))=Y (.bool ϴ):=by
 have b:quick P (Op.equal t (.pointer G) (.pointer G))=Y true:=by
  show quick P (Op.equalIn (9999+1) t (.pointer G) (.pointer G))=Y Z
  unfold Op.equalIn;exact C9 (Jr d) rfl
 constructor
 .refine C9 (a:=()) rfl ?_
  exact C9 b rfl
 .refine C9 (a:=()) rfl ?_
  exact C9 b rfl
def ALB {E:Env} {L:Ba} {lk:Lk} {U:Nat->AV} (hA:Hh lk U) {s:AY} {o:ϡ} {op:BinOp} {t e:ϝ} {x y:ϧ} {c:ϝ} {K:AV->Prop} (b:o.op=.binOp op t x y c) (f:E.P.underlying t=Y (.pointer e))
  (h:cr s (Wl lk x) (Wl lk y) op (A1 U x) (A1 U y) K):∃v,C6 E L U s o=Y (v,s)/\K v:=by
 unfold cr at h;split at h
 .rename_i hb
  simp only[AK] at hb;have hx:=YW hb.1;have d:=YW hb.2;have⟨q1,m⟩:=kL (x:=x) (y:=y) f;have hf:JW op (A1 U x) (A1 U y)=none:=by rw[hx,d]; rfl
  have hn:JC E.P s U op t x y=none:=by grind[JC,Ec,sameKind,rowsOf]
  have i:FA U o.op.operands.toList=true:=by
   have e:o.op.operands.toList=[x,y]:=by rw[b]; rfl
   grind[FA,Hx]
  have l:∀(v:Bool),quick E.P (do eqGuard op t x y (.pointer G) (.pointer G); binOp op t (.pointer G) (.pointer G))=Y (.bool v)->C6 E L U s o=Y (.pv (.sc (.bool v)),s):=by
   intro v j
   have n:DN E U o=Y (.pv (.sc (.bool v))):=by
    have:quick E.P (execOp (λz=>(Hx (A1 U z)).getD undef) o)=Y (.value (.bool v)):=by
     unfold execOp;rw[b];simp only[hx,d,Hx,JR];exact C9 j rfl
    simp only[DN,i,HA,this];rfl
   grind[C6]
  grind
 .have k:DT E.P t=Y 0:=by grind[DT]
  rw[<-k] at h;exact yW hA b h
def OE {P:ϟ} {t:ϝ} {e:ϝ×TypeInfo×Ϭ} (h:Oe P t=Y e):P.underlying t=Y (.slice e.1)/\P.info? e.1=Y e.2.1/\zeroOf P e.1=Y e.2.2:=AB
theorem ABF {lk:Lk} {U:Nat->AV} (hA:Hh lk U) {x:Option ϧ} {v:Option AV} (h:ABD lk x=Y v):x.map (A1 U)=v:=by grind[Cj]
def ALC {P:ϟ} {s:AY} {t e:ϝ} {k:Nat} {x:AV} {lo b mx:Option AV} {K:AV->Prop} (m:P.underlying t=Y (.slice e)) (n:Dy P e=Y k):o5 s k x lo b mx K ->
  ∃v,Qm P s t x lo b mx=Y v/\K v:=by
 unfold Qm;simp only[m,n];intro h;cases x with
 | ref id r len sz=>
  obtain⟨l,d,f,i,j⟩:=h
  grind
 | pv p=>
  have⟨rows,u,h⟩:=Bm h
  grind
 | AE p=>
  obtain⟨l,d,f,i,j,o⟩:=h
  grind[rowsOf]
 | own t p=>
  obtain⟨l,d,f,i,j,o⟩:=h
  grind[rowsOf]
 | _=>exact h.elim
theorem ALD {P:ϟ} {L:Ba} {s:AY} {t:ϝ} {e:ϝ×TypeInfo×Ϭ} {x y:AV} {K:Ϡ} (f:Oe P t=Y e) (i:e.2.2.length=e.2.1.size/\e.2.1.size≠0)
  (h:I6 (L.mu e.1) L s e.1 e.2.1.size e.2.1.bytes x y K):∃v b,JV P L s t x y=Y (v,b)/\K v b:=by
 have⟨j,k,e3⟩:=OE f;unfold JV;simp only[j,k,e3,Nl];rw[if_pos ⟨AB,i.2⟩];have⟨d,l,h⟩:=Bm h;simp only[l];cases d with
 | nil=>
  grind
 | cons c m=>
  grind
theorem LK {E:Env} {L:Ba} {lk:Lk} {U:Nat->AV} {s:AY} {o:ϡ} {K:Ϡ} (hA:Hh lk U) (h:Wm E L lk s o K):∃v b,C6 E L U s o=Y (v,b)/\K v b:=by
 obtain⟨v,b,d,e⟩:=h
 grind
def ABG {P:ϟ} {a b:ϝ} {k k1 k2:ϥ} {n:Int} (d:P.underlying a=Y (.int k1)) (hb:P.underlying b=Y (.int k)):quick P (convert a b (.int k2 n))=Y (.int k (k.wrap n)):=by
 unfold convert;have e:quick P (underlying a)=Y (.int k1):=Jr d;have f:quick P (underlying b)=Y (.int k):=Jr hb;exact C9 e (C9 f rfl)
def YX {E:Env} {L:Ba} {lk:Lk} {U:Nat->AV} {s:AY} {o:ϡ} {K:Ϡ} (hA:Hh lk U) (h:yV E L lk s o K):∃v I,C6 E L U s o=Y (v,I)/\K v I:=by
 obtain⟨dst,op,D,pos,C,guard⟩:=o;cases op with
 | move x=>
  grind[C6,Cj]
 | assign x=>
  grind[C6,Cj]
 | pick c a b=>
  have⟨cv,j,h⟩:=Bm h;have⟨α,p,h⟩:=Bm h;have⟨η,r,h⟩:=Bm h;unfold Gq at h
  grind[C6,Cj]
 | alloc t=>
  have⟨z,j,p⟩:=Bm h;exact⟨_,_,by simp only[C6,j]; rfl,p⟩
 | box t x=>
  have⟨a,j,h⟩:=Bm h;cases hb:E.bz t with
  | true=>
   rw[hb] at h;obtain⟨p,r⟩:=h;exact⟨_,_,by simp only[C6,Cj hA j,if_pos p,OS,hb,AQ]; rfl,r⟩
  | false=>
   rw[hb] at h;obtain⟨p,r⟩:=h;exact⟨_,_,by simp only[C6,Cj hA j,if_pos p,OS,hb,AL]; rfl,r⟩
 | build t parts=>
  have⟨z,j,h⟩:=Bm h;have⟨pl,p,h⟩:=Bm h;have⟨ps,r,h⟩:=Bm h;have⟨M,B,H⟩:=Bm h
  grind[Vw,TS,C6]
 | buildSlice t len parts=>
  have⟨e,j,h⟩:=Bm h;have⟨ps,p,θ,h⟩:=Bm h;have⟨M,r,h⟩:=Bm h;have⟨ι,κ,e3⟩:=OE j;have hf:=Vw hA (cells:=GC len e.2.2) p;rw[r] at hf
  have:∀v I,(bif y7 L e.1&&Nat.blt 0 len then Y (AV.ref s.bs.length 0 len e.2.1.size,{ s with bs:=s.bs++[M] })
     else match C0 M with
     | some ps=>Y (.AE (CZ e.2.1.size len ps),s)
     | none=>G)=Y (v,I)->C6 E L U s ⟨dst,.buildSlice t len parts,D,pos,C,guard⟩=Y (v,I):=by grind[C6,HN,Dy]
  grind
 | load t a=>
  grind[AEp,C6,Cj]
 | store t a x=>
  have⟨α,j,h⟩:=Bm h;have⟨μ,p,h⟩:=Bm h;have⟨k,r,h⟩:=Bm h;obtain⟨i,B,rfl⟩:=FY r;unfold Hw at h;split at h
  .have⟨M,H,O,Q⟩:=Bm h
   refine⟨_,_,?_,Q⟩;simp only[C6,Cj hA j,Cj hA p,Og,B,Ro,H,if_pos O]
  grind
 | nilCheck x=>
  have⟨a,j,h⟩:=Bm h
  have:∃v,LN s a=Y v/\K v s:=by
   unfold Iv at h
   grind[LN]
  grind[C6,Cj]
 | fieldAddr t x f=>
  have⟨a,j,h⟩:=Bm h;have⟨β,p,h⟩:=Bm h;have⟨k,r,h⟩:=Bm h;cases k with
  | zero=>grind
  | succ k=>
   simp only at h;have:∃v,ID E.P s t a f=Y v/\K v s:=by grind[ID,Ex]
   grind[C6,Cj]
 | field t x f=>
  have⟨a,j,h⟩:=Bm h;have⟨β,p,h⟩:=Bm h;have⟨k,r,h⟩:=Bm h;unfold AK8 at h;split at h
  .rename_i M
   have⟨v,B,H⟩:=oO r h;refine⟨v,s,?_,H⟩;unfold yT at p;split at p
   .rename_i fields N
    simp only[C6,Cj hA j,TT,N,p,B]
   grind
  grind
 | indexAddr t x i=>
  have⟨a,j,h⟩:=Bm h;have⟨b,p,h⟩:=Bm h;split at h
  .rename_i e A
   have⟨k,r,h⟩:=Bm h
   have:∃v,IE E.P s t a b=Y v/\K v s:=by
    unfold IE;unfold OK at h
    grind[Yr,rowsOf]
   grind[C6,Cj]
  grind[LK]
 | extract x i=>
  have⟨a,j,h⟩:=Bm h;unfold Iu at h
  grind[C6,Cj,Mr]
 | makeFunc ν first δ=>
  grind[C6,aW]
 | makeInterface t x=>
  grind[C6,Cj]
 | slice t x ξ ο mx=>
  simp only[yV] at h;split at h
  .rename_i e A
   have⟨k,j,h⟩:=Bm h;have⟨a,p,h⟩:=Bm h;have⟨l,r,h⟩:=Bm h;have⟨π,B,h⟩:=Bm h;have⟨m,H,h⟩:=Bm h;have⟨v,O,Q⟩:=ALC A j h
   grind[C6,Cj,ABF]
  grind[LK]
 | call c=>
  obtain⟨S,ε,ts⟩:=c;cases S with
  | builtin b=>
   cases b with
   | len=>
    simp only[yV] at h;split at h
    .rename_i x t hx A
     have⟨a,j,h⟩:=Bm h;split at h
     .rename_i N
      unfold Hs at h
      grind[C6,Cj,Nw]
     .rename_i e N
      have⟨n,p,r⟩:=Bm h;refine⟨_,s,?_,r⟩
      have hf:Nw E.P t a=none:=by
       unfold Nw
       grind
      grind[C6,Cj]
     grind[LK]
    grind
   | append=>
    simp only[yV] at h;split at h
    .rename_i x y t u us hx A
     split at h
     .grind
     .rename_i d ζ ρ
      have⟨a,j,h⟩:=Bm h;have⟨b,p,h⟩:=Bm h;have⟨e,r,B,H⟩:=Bm h
      grind[ALD,C6,Cj]
     grind
    grind
   | _=>grind[LK]
  | _=>grind[LK]
 | binOp op t x y c=>
  have⟨a,j,h⟩:=Bm h;have⟨b,p,h⟩:=Bm h;have W:=Cj hA j;have X:=Cj hA p;subst W X;split at h
  .rename_i k A
   have⟨v,r,B⟩:=AK9 (L:=L) (s:=s) (o:=⟨dst,.binOp op t x y c,D,pos,C,guard⟩) rfl A h
   grind
  .rename_i A
   have⟨v,r,B⟩:=ALA (L:=L) (s:=s) (o:=⟨dst,.binOp op t x y c,D,pos,C,guard⟩) rfl A h
   grind
  .rename_i A
   have⟨v,r,B⟩:=ABE (L:=L) (s:=s) (o:=⟨dst,.binOp op t x y c,D,pos,C,guard⟩) rfl A h
   grind
  .grind[LK]
  .rename_i A
   have⟨v,r,B⟩:=ALB (L:=L) hA (o:=⟨dst,.binOp op t x y c,D,pos,C,guard⟩) rfl A h
   grind
  .have⟨v,r,B⟩:=yW (L:=L) hA (o:=⟨dst,.binOp op t x y c,D,pos,C,guard⟩) rfl h
   grind
 | unOp op t x=>
  simp only[yV] at h;split at h
  .have⟨a,j,h⟩:=Bm h
   unfold K9 at h
   grind[C6,Cj,Yw]
  grind[LK]
 | index t x i=>
  simp only[yV] at h;split at h
  .rename_i A
   have⟨a,j,h⟩:=Bm h;have⟨b,p,h⟩:=Bm h;unfold XA at h
   grind[C6,Cj,Nv]
  grind[LK]
 | convert a b x=>
  simp only[yV] at h;split at h
  .rename_i k1 k γ hb
   have⟨v,j,h⟩:=Bm h;unfold PA at h;split at h
   .rename_i k2 n
    refine⟨_,s,?_,h⟩
    have ς:DN E U ⟨dst,.convert a b x,D,pos,C,guard⟩=Y (.pv (.sc (.int k (k.wrap n)))):=by
     unfold DN;have T:FA U (Op.operands (.convert a b x)).toList=true:=by grind[FA,Op.operands,Cj,Hx]
     rw[if_pos T]
     have:quick E.P (execOp (λz=>(Hx (A1 U z)).getD undef) ⟨dst,.convert a b x,D,pos,C,guard⟩)=Y (.value (.int k (k.wrap n))):=by
      simp only[execOp,Cj hA j,Hx,JR];exact C9 (ABG γ hb) rfl
     rw[this];rfl
    grind[C6]
   grind
  grind[LK]
 | _=>grind[LK]
end Go.Tel
