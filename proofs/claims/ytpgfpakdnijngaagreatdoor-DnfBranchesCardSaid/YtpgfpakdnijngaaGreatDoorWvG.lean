/-
  What a point of a function's code needs, as a text over signs that are not known: 'conv => reduce' writes it out (a proposition would be left alone).
-/
import Derived.Test.YtpgfpakdnijngaaGreatDoorWvF
set_option linter.all false
namespace Go.Tel
open Option renaming some->Y,none->G
open Bool renaming true->Z,false->ϴ
structure Alg (Ω:Type) where
 cI:Int->AV
 cB:Bool->AV
 cS:List Nat->AV
 ln:AY->Nat
 ps:AY->List AV->AY
 nv:AV->Option Nat
 no:Ω
 ye:Ω
 an:Ω->Ω->Ω
 sz:Nat->Nat->Ω
 fz:Bool->Nat->Nat->Nat->Nat->Ω
 fm:Nat->Nat->Nat->Nat->Ω
 pk:AV->AV->AV->(AV->Ω)->Ω
 nw:AY->List AV->(AV->AY->Ω)->Ω
 bx:AY->AV->(AV->AY->Ω)->Ω
 bz:AY->TypeId->AV->(AV->AY->Ω)->Ω
 bu:List AV->List (Nat×Nat×AV)->(AV->Ω)->Ω
 bs:Bool->AY->Nat->List AV->Nat->List (Nat×Nat×AV)->(AV->AY->Ω)->Ω
 ld:AY->Option Nat->AV->(AV->Ω)->Ω
 st:AY->Nat->AV->AV->(AY->Ω)->Ω
 ni:AY->AV->(AV->Ω)->Ω
 fa:AY->AV->Nat->(AV->Ω)->Ω
 fl:Option Nat->AV->Nat->(AV->Ω)->Ω
 ix:AY->Nat->AV->AV->(AV->Ω)->Ω
 ex:AV->Nat->(AV->Ω)->Ω
 sl:AY->Nat->AV->Option AV->Option AV->Option AV->(AV->Ω)->Ω
 le:AY->AV->(AV->Ω)->Ω
 sn:AV->(AV->Ω)->Ω
 si:AV->AV->(AV->Ω)->Ω
 ap:Bool->AY->TypeId->Nat->Nat->AV->AV->(AV->AY->Ω)->Ω
 ca:AV->List AV->AY->(AV->AY->Ω)->Ω
 it:IntKind->BinOp->AV->AV->(AV->Ω)->Ω
 sr:BinOp->AV->AV->(AV->Ω)->Ω
 bo:BinOp->AV->AV->(AV->Ω)->Ω
 np:AY->Option Nat->Option Nat->BinOp->AV->AV->(AV->Ω)->Ω
 nn:AY->Option Nat->Option Nat->Option Nat->BinOp->AV->AV->(AV->Ω)->Ω
 nt:AV->(AV->Ω)->Ω
 ci:IntKind->AV->(AV->Ω)->Ω
 ay:AY->En->Nat->Nat->(AV->AY->Ω)->Ω
 gk:AV->Bool->AY->((AV->AY->Ω)->Ω)->(AV->AY->Ω)->Ω
 fu:AY->TypeId->Nat->Nat->AV->AV->AV->AV->(AV->AY->Ω)->Ω
 fw:AY->Nat->Nat->AV->AV->AV->AV->(AV->AY->Ω)->Ω
 co:AV->Ω->Ω->Ω
 qr:AV->AY->Ω
 pt:Nat->En->AY->Ω
 ne:AV->AV->Ω
 eq:AV->AV->Ω
 eh:AV->AY->List AV->Ω
section
variable {Ω:Type} (a:Alg Ω) (E:Env) (f N:Nat)
abbrev rG (x:AV):AV:=match x with
 | .pv (.sc (.int .i64 n))=>a.cI n
 | .pv (.sc (.bool b))=>a.cB b
 | .pv (.sc (.string b))=>a.cS (b.data.toList.map UInt8.toNat)
 | x=>x
abbrev oG {α:Type} (x:Option α) (K:α->Ω):Ω:=match x with
 | some x=>K x
 | none=>a.no
abbrev Mq (lk:Lk):Operand->Option AV
 | .tmp t=>lk t
 | .const v=>Y (rG a (ofConst v))
 | .global g=>Y (.EF g 0)
 | .func f=>Y (.func (.func f) [] [])
noncomputable abbrev ALH (lk:Lk) (l:List Operand) (K:List AV->Ω):Ω:=
 List.rec (motive:=λ_=>(List AV->Ω)->Ω) (λK=>K []) (λx _ ih K=>oG a (Mq a lk x) λv=>ih λvs=>K (v::vs)) l K
noncomputable abbrev ALI (lk:Lk) (pl:Nat->Option (Nat×Nat)) (l:List (Nat×Operand)) (K:List (Nat×Nat×AV)->Ω):Ω:=
 List.rec (motive:=λ_=>(List (Nat×Nat×AV)->Ω)->Ω) (λK=>K []) (λx _ ih K=>oG a (pl x.1) λq=>oG a (Mq a lk x.2) λv=>ih λvs=>K ((q.1,q.2,v)::vs)) l K
abbrev ALJ (lk:Lk) (x:Option Operand) (K:Option AV->Ω):Ω:=match x with
 | none=>K G
 | some x=>oG a (Mq a lk x) λv=>K (Y v)
abbrev nlG (lk:Lk) (x:Operand):Option Nat:=match x with
 | .tmp t=>match lk t with
  | some v=>a.nv v
  | none=>G
 | x=>Wl lk x
noncomputable abbrev zG (l:List AV):List AV:=List.rec [] (λx _ ih=>rG a x::ih) l
noncomputable abbrev opG (p i:Nat) (en:En) (lk:Lk) (s:AY) (o:Oper) (K:AV->AY->Ω):Ω:=match o.op with
 | .move x=>oG a (Mq a lk x) λx=>K x s
 | .assign x=>oG a (Mq a lk x) λx=>K x s
 | .pick c x y=>oG a (Mq a lk c) λc=>oG a (Mq a lk x) λx=>oG a (Mq a lk y) λy=>a.pk c x y λv=>K v s
 | .alloc t=>oG a (zeroOf E.P t) λz=>match E.bz t with
  | true=>match z with
   | .pv (.sc (.pointer G))::r=>a.nw s (.bz (a.ln s) t (r.length+1)::zG a r) K
   | z=>a.nw s (zG a z) K
  | false=>a.nw s (zG a z) K
 | .box t x=>oG a (Mq a lk x) λx=>match E.bz t with
  | true=>a.bz s t x K
  | false=>a.bx s x K
 | .build t ps=>oG a (zeroOf E.P t) λz=>match E.P.underlying t with
  | some (.struct l)=>ALI a lk (TR E.P l) ps.toList λps=>a.bu (zG a z) ps λv=>K v s
  | _=>oG a (yU E.P t) λpl=>ALI a lk pl ps.toList λps=>a.bu (zG a z) ps λv=>K v s
 | .buildSlice t len ps=>oG a (Oe E.P t) λe=>match e with
  | (e,i,z)=>ALI a lk (λj=>Y (j*i.size,i.size)) ps.toList λps=>a.bs (E.mu f e&&!E.mu f (e+1000000)) s i.size (zG a z) len ps K
 | .load t x=>oG a (Mq a lk x) λx=>oG a (ldK E.P t) λk=>a.ld s k x λv=>K v s
 | .store t y x=>oG a (Mq a lk y) λy=>oG a (Mq a lk x) λx=>oG a (Dy E.P t) λk=>a.st s k y x λs=>K (.tuple []) s
 | .nilCheck x=>oG a (Mq a lk x) λx=>a.ni s x λv=>K v s
 | .fieldAddr t x i=>oG a (Mq a lk x) λx=>oG a (yT E.P t i) λd=>a.fa s x d.offset λv=>K v s
 | .field t x i=>oG a (Mq a lk x) λx=>oG a (yT E.P t i) λd=>oG a (ldK E.P d.type) λk=>a.fl k x d.offset λv=>K v s
 | .indexAddr t x i=>oG a (Mq a lk x) λx=>oG a (Mq a lk i) λi=>oG a (Oe E.P t) λe=>a.ix s e.2.1.size x i λv=>K v s
 | .extract x i=>oG a (Mq a lk x) λx=>a.ex x i λv=>K v s
 | .makeFunc fn x y=>ALH a lk x.toList λx=>ALH a lk y.toList λy=>K (.func fn x y) s
 | .makeInterface t x=>oG a (Mq a lk x) λx=>K (.iface t x) s
 | .slice t x lo hi mx=>match E.P.underlying t with
  | some (.slice e)=>oG a (Dy E.P e) λk=>oG a (Mq a lk x) λx=>ALJ a lk lo λlo=>ALJ a lk hi λhi=>ALJ a lk mx λmx=>a.sl s k x lo hi mx λv=>K v s
  | _=>a.ay s en p i K
 | .call c=>match c.callee with
  | .builtin .len=>match c.args.toList,c.argTypes.toList with
   | [x],[t]=>oG a (Mq a lk x) λx=>match E.P.underlying t with
    | some .string=>a.sn x λv=>K v s
    | _=>a.le s x λv=>K v s
   | _,_=>a.no
  | .builtin .append=>match c.args.toList,c.argTypes.toList with
   | [x,y],t::_=>oG a (Mq a lk x) λx=>oG a (Mq a lk y) λy=>oG a (Oe E.P t) λe=>a.an (a.sz e.2.2.length e.2.1.size) (a.ap (E.mu f e.1) s e.1 e.2.1.size e.2.1.bytes x y K)
   | _,_=>a.no
  | .builtin _=>a.ay s en p i K
  | .value g=>oG a (Mq a lk g) λg=>ALH a lk c.args.toList λl=>a.ca g l s K
  | _=>a.no
 | .binOp op t x y _=>oG a (Mq a lk x) λu=>oG a (Mq a lk y) λv=>match E.P.underlying t with
  | some (.int k)=>a.it k op u v λv=>K v s
  | some .string=>a.sr op u v λv=>K v s
  | some .bool=>a.bo op u v λv=>K v s
  | some (.interface _)=>a.ay s en p i K
  | some (.pointer _)=>a.np s (nlG a lk x) (nlG a lk y) op u v λv=>K v s
  | _=>a.nn s (DT E.P t) (nlG a lk x) (nlG a lk y) op u v λv=>K v s
 | .unOp op _ x=>match op with
  | .not=>oG a (Mq a lk x) λx=>a.nt x λv=>K v s
  | _=>a.ay s en p i K
 | .index t x j=>match E.P.underlying t with
  | some .string=>oG a (Mq a lk x) λx=>oG a (Mq a lk j) λj=>a.si x j λv=>K v s
  | _=>a.ay s en p i K
 | .convert t u x=>match E.P.underlying t,E.P.underlying u with
  | some (.int _),Y (.int k)=>oG a (Mq a lk x) λx=>a.ci k x λv=>K v s
  | _,_=>a.ay s en p i K
 | _=>a.ay s en p i K
abbrev gdG (ops:Array Oper) (lk:Lk) (s:AY) (o:Oper) (W:(AV->AY->Ω)->Ω) (K:AV->AY->Ω):Ω:=match o.guard with
 | none=>W K
 | some (_,want)=>match Mt ops o with
  | none=>K (.tuple []) s
  | some t=>oG a (lk t) λg=>a.gk g want s W K
abbrev puG (d:Option Nat) (v:AV) (en:En):En:=match d with
 | none=>en
 | some d=>(d,v)::en
noncomputable abbrev fsG (k:JX) (x:Bool) (en:En) (s:AY) (K:En->AY->Ω):Ω:=
 oG a (Oe E.P k.t) λe=>oG a (Mq a (EN en) k.x) λu=>oG a (Mq a (EN en) k.y) λy=>oG a (Mq a (EN en) k.ix) λix=>oG a (Mq a (EN en) k.v) λv=>match x&&E.mu f e.1 with
  | true=>a.an (a.fm k.te e.1 e.2.2.length e.2.1.size) (a.fw s e.2.1.size e.2.1.bytes u y ix v λr s=>K ((k.p,.Gy)::(k.d,r)::en) s)
  | false=>a.an (a.fz (E.mu f e.1) k.te e.1 e.2.2.length e.2.1.size) (a.fu s e.1 e.2.1.size e.2.1.bytes u y ix v λr s=>K ((k.p,.Gy)::(k.d,r)::en) s)
noncomputable abbrev inG (p:Nat) (ops:Array Oper) (l:List Ins):Nat->En->AY->(En->AY->Ω)->Ω:=
 List.rec (motive:=λ_=>Nat->En->AY->(En->AY->Ω)->Ω) (λ_ en s K=>K en s)
  (λ(i:Ins) _ ih n en s K=>match i with
   | .one o=>gdG a ops (EN en) s o (opG a E f p n en (EN en) s o) λv s=>ih (n+1) (puG o.dst v en) s K
   | .fus k=>fsG a E f k ϴ en s λen s=>ih (n+3) en s K) l
noncomputable abbrev qG (p i:Nat) (ops:Array Oper) (en:En) (lk:Lk) (s:AY) (o:Oper) (K:AV->Ω):Ω:=gdG a ops lk s o (opG a E f p i en lk s o) λv _=>K v
noncomputable abbrev f1G (p:Nat) (ops:Array Oper) (cls:List aa) (l:List Nat):En->AY->(En->AY->Ω)->Ω:=
 List.rec (motive:=λ_=>En->AY->(En->AY->Ω)->Ω) (λen s K=>K en s)
  (λ(i:Nat) _ ih en s K=>match ops[i]?,cls[i]? with
   | some o,Y (.q _)=>qG a E f p i ops en (EN en) s o λv=>ih (puG o.dst v en) s K
   | some o,Y (.h _)=>match o.op with
    | .alloc t=>oG a (zeroOf E.P t) λz=>ih (puG o.dst (.ptr (a.ln s) 0) en) (a.ps s (zG a z)) K
    | _=>a.no
   | _,_=>a.no) l
noncomputable abbrev rsG (p:Nat) (ops:Array Oper) (cls:List aa) (l:List Nat):En->AY->List AY->(En->AY->List AY->Ω)->Ω:=
 List.rec (motive:=λ_=>En->AY->List AY->(En->AY->List AY->Ω)->Ω) (λen s acc K=>K en s acc)
  (λ(i:Nat) _ ih en s acc K=>match ops[i]?,cls[i]? with
   | some o,Y (.q _)=>qG a E f p i ops en (EN en) s o λv=>ih (puG o.dst v en) s acc K
   | some o,Y (.w _)=>gdG a ops (EN en) s o (opG a E f p i en (EN en) s o) λv s=>ih (puG o.dst v en) s (s::acc) K
   | some o,Y (.fa _ j x)=>match ops[j]?,ops[x]? with
    | some o1,Y o2=>oG a (fused o o1 o2) λk=>fsG a E f k Z en s λen s=>ih en s (s::acc) K
    | _,_=>a.no
   | _,_=>ih en s acc K) l
noncomputable abbrev ckG (p:Nat) (ops:Array Oper) (cls:List aa) (LL:List (List Nat)) (e0 e1:En) (σ:List AY) (l:List (Nat×Nat)) (K:Ω):Ω:=
 List.rec (motive:=λ_=>Ω) K
  (λ(q:Nat×Nat) _ ih=>a.an (match ops[q.1]?,cls[q.1]?,σ[q.2]? with
   | some o,Y (.q _),Y s=>qG a E f p q.1 ops e1 (aX LL e0 e1 q.1) s o λv=>match o.dst with
    | some d=>oG a (EN e1 d) λu=>a.eq v u
    | none=>a.ye
   | some o,Y (.h _),Y s=>match o.op,o.dst with
    | .alloc t,Y d=>oG a (zeroOf E.P t) λz=>oG a (EN e1 d) λu=>a.eh u s (zG a z)
    | _,_=>a.no
   | _,_,_=>a.no) ih) l
noncomputable abbrev mrG (ops:Array Oper) (p:B3) (e0 e1:En) (r:AV) (l:List Nat) (K:Ω):Ω:=
 List.rec (motive:=λ_=>Ω) K (λ(m:Nat) _ ih=>match ops[m]?,p.cls[m]? with
  | some om,Y (.w _)=>match om.op with
   | .store _ y _=>a.an (oG a (Mq a (aX p.LL e0 e1 m) y) λx=>a.ne x r) ih
   | _=>ih
  | _,_=>ih) l
noncomputable abbrev muG (ops:Array Oper) (p:B3) (e0 e1:En) (l:List Nat) (K:Ω):Ω:=
 List.rec (motive:=λ_=>Ω) K (λ(i:Nat) _ ih=>match p.cls[i]? with
  | some (.fa _ j x)=>match Qn E (Co E f 0 0 0) ops i j x with
   | true=>match ops[i]? with
    | some o=>match o.dst with
     | some d=>oG a (EN e1 d) λr=>mrG a ops p e0 e1 r p.rest ih
     | none=>ih
    | none=>ih
   | false=>ih
  | _=>ih) l
noncomputable abbrev rgG (q:Nat) (p:B3) (ops:Array Oper) (en:En) (s:AY) (K:En->AY->Ω):Ω:=
 f1G a E f q ops p.cls p.first en s λe1 s1=>rsG a E f q ops p.cls p.rest e1 s1 [s1] λe2 s2 acc=>match oa E (Co E f 0 0 0) ops p.cls p.rest with
  | true=>ckG a E f q ops p.cls p.LL en e2 acc.reverse p.fe (K e2 s2)
  | false=>muG a E f ops p en e2 p.rest (ckG a E f q ops p.cls p.LL en e2 acc.reverse p.fe (K e2 s2))
inductive FrG where
 | seq (p:Nat) (b:Code)
 | blk (id:Nat)
 | loop (p:Nat) (b:Code)
noncomputable abbrev reG (lk:Lk) (s:AY) (rs:List ResultVar):(List AV->Ω)->Ω:=
 List.rec (motive:=λ_=>(List AV->Ω)->Ω) (λK=>K [])
  (λ(r:ResultVar) _ ih K=>match r with
   | .tmp t=>oG a (lk t) λv=>ih λvs=>K (v::vs)
   | .cell c t=>oG a (lk c) λc=>oG a (ldK E.P t) λk=>a.ld s k c λv=>ih λvs=>K (v::vs)) rs
variable (lv:Nat->List Nat) (ct:Nat->Bool) (rs:List ResultVar)
noncomputable abbrev ueG (ks:List FrG):Option Nat->En->AY->Ω:=
 List.rec (motive:=λ_=>Option Nat->En->AY->Ω)
  (λo en s=>match o with
   | none=>reG a E (EN en) s rs λvs=>a.qr (H9 vs) s
   | some _=>a.no)
  (λ(fr:FrG) _ ih o en s=>match fr with
   | .seq p b=>match o with
    | none=>match b with
     | .ret=>reG a E (EN en) s rs λvs=>a.qr (H9 vs) s
     | .skip=>ih G en s
     | .exit j=>ih (Y j) en s
     | b=>a.pt p (prune lv b en) s
    | some j=>ih (Y j) en s
   | .blk id=>match o with
    | none=>ih G en s
    | some j=>match Nat.beq j id with
     | true=>ih G en s
     | false=>ih (Y j) en s
   | .loop p b=>match o with
    | none=>a.pt p (prune lv b en) s
    | some j=>ih (Y j) en s) ks
noncomputable abbrev wpG (c:Code):Nat->List FrG->En->AY->Ω:=
 Code.rec (motive:=λ_=>Nat->List FrG->En->AY->Ω)
  (λ_ ks en s=>ueG a E lv rs ks G en s)
  (λid ops d p ks en s=>match d with
   | false=>inG a E f p ops (insts ops.toList) 0 en s λen s=>ueG a E lv rs ks G en s
   | true=>oG a (E.plan f id) λq=>rgG a E f p q ops en s λen s=>ueG a E lv rs ks G en s)
  (λx b iha ihb p ks en s=>match x with
   | .region id ops d=>match d with
    | false=>inG a E f (2*p) ops (insts ops.toList) 0 en s λen s=>match qd ct b with
     | true=>a.pt (2*p+1) (prune lv b en) s
     | false=>ihb (2*p+1) ks en s
    | true=>oG a (E.plan f id) λq=>rgG a E f (2*p) q ops en s λen s=>match qd ct b with
     | true=>a.pt (2*p+1) (prune lv b en) s
     | false=>ihb (2*p+1) ks en s
   | _=>iha (2*p) (.seq (2*p+1) b::ks) en s)
  (λc _ _ iha ihb p ks en s=>oG a (Mq a (EN en) c) λc=>a.co c (iha (2*p) ks en s) (ihb (2*p+1) ks en s))
  (λid _ ih p ks en s=>ih (2*p) (.blk id::ks) en s)
  (λb _ p ks en s=>a.pt p (prune lv b en) s)
  (λg ps x b _ _ p ks en s=>a.pt p (prune lv (.rangeFunc g ps x b) en) s)
  (λj _ ks en s=>ueG a E lv rs ks (Y j) en s)
  (λ_ _ _ _ _ _=>a.no)
  (λ_ _ _ _ _=>a.no)
  (λ_ _ _ _ _=>a.no)
  (λ_ _ en s=>reG a E (EN en) s rs λvs=>a.qr (H9 vs) s)
  (λ_ _ _ _ _=>a.no) c
end
def cF (_:Nat):Bool:=ϴ
noncomputable def pth (n:Nat):List Nat:=Nat.rec (λ_ l=>l) (λ_ h n l=>bif Nat.ble n 1 then l else h (Nat.div n 2) (Nat.mod n 2::l)) 64 n []
noncomputable def aG (l:List Nat):Code->List Frame->Code×List Frame:=List.rec (λc k=>(c,k)) (λi _ h c k=>match c with
 | .seq a b=>Nat.rec (h a (.seq b::k)) (λ_ _=>h b k) i
 | .cond _ a b=>Nat.rec (h a k) (λ_ _=>h b k) i
 | .block j b=>h b (.blk j::k)
 | .loop b=>h b (.loop b::k)
 | _=>(c,k)) l
noncomputable def aT (c:Code) (n:Nat):Code×List Frame:=aG (pth n) c []
noncomputable def aGG (l:List Nat):Nat->Code->List FrG->Nat×Code×List FrG:=List.rec (λp c k=>(p,c,k)) (λi _ h p c k=>match c with
 | .seq a b=>Nat.rec (h (2*p) a (.seq (2*p+1) b::k)) (λ_ _=>h (2*p+1) b k) i
 | .cond _ a b=>Nat.rec (h (2*p) a k) (λ_ _=>h (2*p+1) b k) i
 | .block j b=>h (2*p) b (.blk j::k)
 | .loop b=>h (2*p) b (.loop p b::k)
 | _=>(p,c,k)) l
noncomputable def ln (l:List (List Nat)):Nat->List Nat:=List.rec (λ_=>[]) (λa _ ih n=>Nat.rec a (λm _=>ih m) n) l
noncomputable abbrev ptG {Ω:Type} (a:Alg Ω) (E:Env) (f:Nat) (lv:Nat->List Nat) (ct:Nat->Bool) (rs:List ResultVar) (b:Code) (p:Nat) (en:En) (s:AY):Ω:=match aGG (pth p) 1 b [] with
 | (p,c,ks)=>match c with
  | .loop c=>wpG a E f lv ct rs c (2*p) (.loop p c::ks) en s
  | .rangeFunc _ _ _ _=>a.no
  | c=>wpG a E f lv ct rs c p ks en s
def Wf (E:Env) (f:Nat) (fn:Func) (n0 ro rt p:Nat) (en:En) (s:AY) (Q:AV->AY->Prop):Prop:=Wp E (Co E f n0 ro rt) fn.ntmps fn.results.toList (aT (fn.body.getD .skip) p).1 (aT (fn.body.getD .skip) p).2 en s Q
abbrev sN (l:List Nat):AV:=SS (l.map UInt8.ofNat)
abbrev lnS (s:AY):Nat:=s.bs.length
abbrev psS (s:AY) (z:List AV):AY:=⟨s.bs++[z],s.ts⟩
abbrev szP (a b:Nat):Prop:=a=b/\b≠0
abbrev fzP (m:Bool) (t e a b:Nat):Prop:=m=ϴ/\t=e/\a=b/\b≠0
abbrev fmP (t e a b:Nat):Prop:=t=e/\a=b/\b≠0
abbrev apP (L:Ba) (m:Bool) (s:AY) (e k b:Nat) (x y:AV) (K:AV->AY->Prop):Prop:=I6 m L s e k b x y K
abbrev ayP (E:Env) (L:Ba) (fn:Func) (s:AY) (en:En) (p i:Nat) (K:AV->AY->Prop):Prop:=lz E L s (EN en) (AYc (aT (fn.body.getD .skip) p).1 i) K
abbrev gkP (g:AV) (w:Bool) (s:AY) (W:(AV->AY->Prop)->Prop) (K:AV->AY->Prop):Prop:=Qk g w s W K
abbrev AVO (a b:AV):Prop:=D9 a b=Z
abbrev ehP (u:AV) (s:AY) (z:List AV):Prop:=wO (KY u) λid=>wO s.bs[id]? λcs=>JY cs z=Z
noncomputable abbrev AVP (E:Env) (L:Ba) (N:Nat) (lv:Nat->List Nat) (ct:Nat->Bool) (rs:List ResultVar) (Q:AV->AY->Prop) (q:Code×List Frame) (en:En) (s:AY):Prop:=match q.1 with
 | .loop c=>wpc E L N lv ct rs Q c (.loop c::q.2) en s
 | c=>wpc E L N lv ct rs Q c q.2 en s
theorem kT {E:Env} {L:Ba} {N:Nat} {lv:Nat->List Nat} {ct:Nat->Bool} {rs:List ResultVar} {Q:AV->AY->Prop} {q:Code×List Frame} {en:En} {s:AY} (h:AVP E L N lv ct rs Q q en s):Wp E L N rs q.1 q.2 en s Q:=by
 obtain⟨c,ks⟩:=q;cases c <;> first|exact qh (lv:=lv) (ct:=ct) h|exact Rn (lv:=lv) (ct:=ct) _ _ _ _ h
theorem pD {E:Env} {f n0 ro rt p:Nat} {fn:Func} {en:En} {X:∀Ω:Type,(Int->AV)->(Bool->AV)->(List Nat->AV)->(AY->Nat)->(AY->List AV->AY)->(AV->Option Nat)->Ω->Ω->(Ω->Ω->Ω)->(Nat->Nat->Ω)->(Bool->Nat->Nat->Nat->Nat->Ω)->(Nat->Nat->Nat->Nat->Ω)->(AV->AV->AV->(AV->Ω)->Ω)->(AY->List AV->(AV->AY->Ω)->Ω)->(AY->AV->(AV->AY->Ω)->Ω)->(AY->TypeId->AV->(AV->AY->Ω)->Ω)->(List AV->List (Nat×Nat×AV)->(AV->Ω)->Ω)->(Bool->AY->Nat->List AV->Nat->List (Nat×Nat×AV)->(AV->AY->Ω)->Ω)->(AY->Option Nat->AV->(AV->Ω)->Ω)->(AY->Nat->AV->AV->(AY->Ω)->Ω)->(AY->AV->(AV->Ω)->Ω)->(AY->AV->Nat->(AV->Ω)->Ω)->(Option Nat->AV->Nat->(AV->Ω)->Ω)->(AY->Nat->AV->AV->(AV->Ω)->Ω)->(AV->Nat->(AV->Ω)->Ω)->(AY->Nat->AV->Option AV->Option AV->Option AV->(AV->Ω)->Ω)->(AY->AV->(AV->Ω)->Ω)->(AV->(AV->Ω)->Ω)->(AV->AV->(AV->Ω)->Ω)->(Bool->AY->TypeId->Nat->Nat->AV->AV->(AV->AY->Ω)->Ω)->(AV->List AV->AY->(AV->AY->Ω)->Ω)->(IntKind->BinOp->AV->AV->(AV->Ω)->Ω)->(BinOp->AV->AV->(AV->Ω)->Ω)->(BinOp->AV->AV->(AV->Ω)->Ω)->(AY->Option Nat->Option Nat->BinOp->AV->AV->(AV->Ω)->Ω)->(AY->Option Nat->Option Nat->Option Nat->BinOp->AV->AV->(AV->Ω)->Ω)->(AV->(AV->Ω)->Ω)->(IntKind->AV->(AV->Ω)->Ω)->(AY->En->Nat->Nat->(AV->AY->Ω)->Ω)->(AV->Bool->AY->((AV->AY->Ω)->Ω)->(AV->AY->Ω)->Ω)->(AY->TypeId->Nat->Nat->AV->AV->AV->AV->(AV->AY->Ω)->Ω)->(AY->Nat->Nat->AV->AV->AV->AV->(AV->AY->Ω)->Ω)->(AV->Ω->Ω->Ω)->(AV->AY->Ω)->(Nat->En->AY->Ω)->(AV->AV->Ω)->(AV->AV->Ω)->(AV->AY->List AV->Ω)->AY->Ω} {A:AY->(AV->AY->Prop)->Prop} (lv:Nat->List Nat) (ct:Nat->Bool) (P:AY->(AV->AY->Prop)->Prop)
  (e0:P=Wf E f fn n0 ro rt p en:=by exact rfl)
  (e1:∀Ω f0 f1 f2 f3 f4 f5 f6 f7 f8 f9 f10 f11 f12 f13 f14 f15 f16 f17 f18 f19 f20 f21 f22 f23 f24 f25 f26 f27 f28 f29 f30 f31 f32 f33 f34 f35 f36 f37 f38 f39 f40 f41 f42 f43 f44 f45 f46 f47 s,X Ω f0 f1 f2 f3 f4 f5 f6 f7 f8 f9 f10 f11 f12 f13 f14 f15 f16 f17 f18 f19 f20 f21 f22 f23 f24 f25 f26 f27 f28 f29 f30 f31 f32 f33 f34 f35 f36 f37 f38 f39 f40 f41 f42 f43 f44 f45 f46 f47 s=ptG ⟨f0,f1,f2,f3,f4,f5,f6,f7,f8,f9,f10,f11,f12,f13,f14,f15,f16,f17,f18,f19,f20,f21,f22,f23,f24,f25,f26,f27,f28,f29,f30,f31,f32,f33,f34,f35,f36,f37,f38,f39,f40,f41,f42,f43,f44,f45,f46,f47⟩ E f lv ct fn.results.toList (fn.body.getD .skip) p en s:=by(intros; conv=>(rhs; reduce; try simp only[Int.reduceOfNat,Int.reduceNegSucc])))
  (e2:A=λs Q=>X Prop AG BB sN lnS psS Uj False True And szP fzP fmP Gq Hr MD Ir E3 HJ (EX E) (Hw (Co E f n0 ro rt)) Iv Ex AK8 OK Iu o5 Gl Hs XA (apP (Co E f n0 ro rt)) (G4 E (Co E f n0 ro rt)) Dh Jf fD cr uO K9 PA (ayP E (Co E f n0 ro rt) fn) gkP (wFu (Co E f n0 ro rt)) (ALE (Co E f n0 ro rt)) EK Q (λp en s=>Wf E f fn n0 ro rt p en s Q) ABH AVO ehP s:=by(conv=>(rhs; dsimp only[sN,lnS,psS,szP,fzP,fmP,apP,ayP,gkP,AVO,ehP,List.map,UInt8.reduceOfNat])))
  (e3:∀s Q,A s Q=AVP E (Co E f n0 ro rt) fn.ntmps lv ct fn.results.toList Q (aT (fn.body.getD .skip) p) en s:=by(intros; kernel_rfl)) ⦃s:AY⦄ ⦃Q:AV->AY->Prop⦄ (h:A s Q):P s Q:=by
 rw[e0];exact kT (e3 s Q ▸ h)
section
variable (E:(Nat->Option (List PV))->Env) (f:Nat) (fn:Func) (p:Nat)
abbrev k0 (R:Nat->Option (List PV)) (n0 ro rt:Nat):=Wf (E R) f fn n0 ro rt p []
abbrev k1 (a0:Nat) (R:Nat->Option (List PV)) (n0 ro rt:Nat) (x0:AV):=Wf (E R) f fn n0 ro rt p [(a0,x0)]
abbrev k2 (a0 a1:Nat) (R:Nat->Option (List PV)) (n0 ro rt:Nat) (x0 x1:AV):=Wf (E R) f fn n0 ro rt p [(a0,x0),(a1,x1)]
abbrev k3 (a0 a1 a2:Nat) (R:Nat->Option (List PV)) (n0 ro rt:Nat) (x0 x1 x2:AV):=Wf (E R) f fn n0 ro rt p [(a0,x0),(a1,x1),(a2,x2)]
abbrev k4 (a0 a1 a2 a3:Nat) (R:Nat->Option (List PV)) (n0 ro rt:Nat) (x0 x1 x2 x3:AV):=Wf (E R) f fn n0 ro rt p [(a0,x0),(a1,x1),(a2,x2),(a3,x3)]
abbrev k5 (a0 a1 a2 a3 a4:Nat) (R:Nat->Option (List PV)) (n0 ro rt:Nat) (x0 x1 x2 x3 x4:AV):=Wf (E R) f fn n0 ro rt p [(a0,x0),(a1,x1),(a2,x2),(a3,x3),(a4,x4)]
abbrev k6 (a0 a1 a2 a3 a4 a5:Nat) (R:Nat->Option (List PV)) (n0 ro rt:Nat) (x0 x1 x2 x3 x4 x5:AV):=Wf (E R) f fn n0 ro rt p [(a0,x0),(a1,x1),(a2,x2),(a3,x3),(a4,x4),(a5,x5)]
abbrev k7 (a0 a1 a2 a3 a4 a5 a6:Nat) (R:Nat->Option (List PV)) (n0 ro rt:Nat) (x0 x1 x2 x3 x4 x5 x6:AV):=Wf (E R) f fn n0 ro rt p [(a0,x0),(a1,x1),(a2,x2),(a3,x3),(a4,x4),(a5,x5),(a6,x6)]
abbrev k8 (a0 a1 a2 a3 a4 a5 a6 a7:Nat) (R:Nat->Option (List PV)) (n0 ro rt:Nat) (x0 x1 x2 x3 x4 x5 x6 x7:AV):=Wf (E R) f fn n0 ro rt p [(a0,x0),(a1,x1),(a2,x2),(a3,x3),(a4,x4),(a5,x5),(a6,x6),(a7,x7)]
abbrev k9 (a0 a1 a2 a3 a4 a5 a6 a7 a8:Nat) (R:Nat->Option (List PV)) (n0 ro rt:Nat) (x0 x1 x2 x3 x4 x5 x6 x7 x8:AV):=Wf (E R) f fn n0 ro rt p [(a0,x0),(a1,x1),(a2,x2),(a3,x3),(a4,x4),(a5,x5),(a6,x6),(a7,x7),(a8,x8)]
abbrev yq (a0 a1 a2 a3 a4 a5 a6 a7 a8 a9:Nat) (R:Nat->Option (List PV)) (n0 ro rt:Nat) (x0 x1 x2 x3 x4 x5 x6 x7 x8 x9:AV):=Wf (E R) f fn n0 ro rt p [(a0,x0),(a1,x1),(a2,x2),(a3,x3),(a4,x4),(a5,x5),(a6,x6),(a7,x7),(a8,x8),(a9,x9)]
abbrev qo (a0 a1 a2 a3 a4 a5 a6 a7 a8 a9 a10:Nat) (R:Nat->Option (List PV)) (n0 ro rt:Nat) (x0 x1 x2 x3 x4 x5 x6 x7 x8 x9 x10:AV):=Wf (E R) f fn n0 ro rt p [(a0,x0),(a1,x1),(a2,x2),(a3,x3),(a4,x4),(a5,x5),(a6,x6),(a7,x7),(a8,x8),(a9,x9),(a10,x10)]
abbrev yt (a0 a1 a2 a3 a4 a5 a6 a7 a8 a9 a10 a11:Nat) (R:Nat->Option (List PV)) (n0 ro rt:Nat) (x0 x1 x2 x3 x4 x5 x6 x7 x8 x9 x10 x11:AV):=Wf (E R) f fn n0 ro rt p [(a0,x0),(a1,x1),(a2,x2),(a3,x3),(a4,x4),(a5,x5),(a6,x6),(a7,x7),(a8,x8),(a9,x9),(a10,x10),(a11,x11)]
abbrev zI (a0 a1 a2 a3 a4 a5 a6 a7 a8 a9 a10 a11 a12:Nat) (R:Nat->Option (List PV)) (n0 ro rt:Nat) (x0 x1 x2 x3 x4 x5 x6 x7 x8 x9 x10 x11 x12:AV):=Wf (E R) f fn n0 ro rt p [(a0,x0),(a1,x1),(a2,x2),(a3,x3),(a4,x4),(a5,x5),(a6,x6),(a7,x7),(a8,x8),(a9,x9),(a10,x10),(a11,x11),(a12,x12)]
abbrev k14 (a0 a1 a2 a3 a4 a5 a6 a7 a8 a9 a10 a11 a12 a13:Nat) (R:Nat->Option (List PV)) (n0 ro rt:Nat) (x0 x1 x2 x3 x4 x5 x6 x7 x8 x9 x10 x11 x12 x13:AV):=Wf (E R) f fn n0 ro rt p [(a0,x0),(a1,x1),(a2,x2),(a3,x3),(a4,x4),(a5,x5),(a6,x6),(a7,x7),(a8,x8),(a9,x9),(a10,x10),(a11,x11),(a12,x12),(a13,x13)]
end
section
variable (E:Env) {f:FuncId} {fn:Func} {s:AY} {P:AV->Prop} {P2:AV->AY->Prop} {L:Ba} {l l2:List AV}
abbrev Ql (E:Env) (f:FuncId) (fn:Func) (n:Nat):Bool×Kind×Bool×Bool:=(fn.body.isSome,E.kind f,E.clone f,Nat.ble n fn.ntmps)
theorem OG {k:Kind} {n:Nat} (e:Ql E f fn n=(Z,k,ϴ,Z)):fn.body=Y (fn.body.getD .skip)/\E.kind f=k/\E.clone f=ϴ/\n<=fn.ntmps:=by
 simp only[Ql,Bg] at e;obtain⟨e1,e2,e3,e4⟩:=e;obtain⟨b,e1⟩:=Yf.1 e1;exact⟨by simp[e1],e2,e3,Fz e4⟩
theorem rdL (hf:E.P.funcs[f]?=Y fn) (e:Ql E f fn l.length=(Z,.rd,ϴ,Z)) (hc:BZ [] 0 0 l=Y l2) (h:Wf E f fn 0 0 0 1 (FP 0 l2) ⟨[],[]⟩ (QP P)):Ah E f l P:=
 have ⟨a,b,c,d⟩:=OG E e
 ABI hf a b c d hc h
theorem riL (hf:E.P.funcs[f]?=Y fn) (e:Ql E f fn l.length=(Z,.rd,ϴ,Z)) (hc:BZ [] 0 0 l=G) (h:Wf E f fn s.bs.length s.bs.length s.ts.length 1 (FP 0 l) s (QI s.bs.length s.ts.length P)):∃v,P v/\∀L,Bk E L f l s v s:=
 have ⟨a,b,c,d⟩:=OG E e
 yl hf a b c d hc h
theorem ipL (hf:E.P.funcs[f]?=Y fn) (e:Ql E f fn l.length=(Z,.im,ϴ,Z)) (hc:Da l=Z) (h:Wf E f fn 0 0 0 1 (FP 0 l) ⟨[],[]⟩ (QP P)):Ah E f l P:=
 have ⟨a,b,c,d⟩:=OG E e
 yh hf a b c d hc h
theorem imL (hf:E.P.funcs[f]?=Y fn) (e:Ql E f fn l.length=(Z,.im,ϴ,Z)) (hc:Da l=ϴ) (h:Wf E f fn 0 L.ro L.rt 1 (FP 0 l) s (QM (L.rr f) s.bs.length P2)):∃v s',P2 v s'/\Bk E L f l s v s':=
 have ⟨a,b,c,d⟩:=OG E e
 ABJ hf a b c d hc h
theorem stL (hf:E.P.funcs[f]?=Y fn) (e:Ql E f fn l.length=(Z,.st,ϴ,Z)) (h:Wf E f fn 0 L.ro L.rt 1 (FP 0 l) s (QM (L.rr f) s.bs.length P2)):∃v s',P2 v s'/\Bk E L f l s v s':=
 have ⟨a,b,c,d⟩:=OG E e
 ABK hf a b c d h
theorem esL (hf:E.P.funcs[f]?=Y fn) (e:Ql E f fn l.length=(Z,.esc,ϴ,Z)) (h:Wf E f fn L.n0 L.ro L.rt 1 (FP 0 l) s P2):∃v s',P2 v s'/\Bk E L f l s v s':=
 have ⟨a,b,c,d⟩:=OG E e
 yj hf a b c d h
end
section
variable (E:Env) {f:FuncId} {fn:Func} (hf:E.P.funcs[f]?=Y fn)
include hf
theorem rd0 (e:Ql E f fn 0=(Z,.rd,ϴ,Z):=by kernel_rfl) ⦃Post:AV->Prop⦄ (af:BZ [] 0 0 []=Y []) (h:Wf E f fn 0 0 0 1 [] ⟨[],[]⟩ (QP Post)):Ah E f [] Post:=rdL E hf e af h
theorem JO (e:Ql E f fn 1=(Z,.rd,ϴ,Z):=by kernel_rfl) ⦃t0:AV⦄ ⦃u0:AV⦄ ⦃Post:AV->Prop⦄ (af:BZ [] 0 0 [t0]=Y [u0]) (h:Wf E f fn 0 0 0 1 [(0,u0)] ⟨[],[]⟩ (QP Post)):Ah E f [t0] Post:=rdL E hf e af h
theorem OP (e:Ql E f fn 2=(Z,.rd,ϴ,Z):=by kernel_rfl) ⦃t0 t1:AV⦄ ⦃u0 u1:AV⦄ ⦃Post:AV->Prop⦄ (af:BZ [] 0 0 [t0,t1]=Y [u0,u1]) (h:Wf E f fn 0 0 0 1 [(0,u0),(1,u1)] ⟨[],[]⟩ (QP Post)):Ah E f [t0,t1] Post:=rdL E hf e af h
theorem rd3 (e:Ql E f fn 3=(Z,.rd,ϴ,Z):=by kernel_rfl) ⦃t0 t1 t2:AV⦄ ⦃u0 u1 u2:AV⦄ ⦃Post:AV->Prop⦄ (af:BZ [] 0 0 [t0,t1,t2]=Y [u0,u1,u2]) (h:Wf E f fn 0 0 0 1 [(0,u0),(1,u1),(2,u2)] ⟨[],[]⟩ (QP Post)):Ah E f [t0,t1,t2] Post:=rdL E hf e af h
theorem ri2 (e:Ql E f fn 2=(Z,.rd,ϴ,Z):=by kernel_rfl) ⦃t0 t1:AV⦄ ⦃s:AY⦄ ⦃Post:AV->Prop⦄ (af:BZ [] 0 0 [t0,t1]=G) (h:Wf E f fn s.bs.length s.bs.length s.ts.length 1 [(0,t0),(1,t1)] s (QI s.bs.length s.ts.length Post)):∃v,Post v/\∀L,Bk E L f [t0,t1] s v s:=riL E hf e af h
theorem ri3 (e:Ql E f fn 3=(Z,.rd,ϴ,Z):=by kernel_rfl) ⦃t0 t1 t2:AV⦄ ⦃s:AY⦄ ⦃Post:AV->Prop⦄ (af:BZ [] 0 0 [t0,t1,t2]=G) (h:Wf E f fn s.bs.length s.bs.length s.ts.length 1 [(0,t0),(1,t1),(2,t2)] s (QI s.bs.length s.ts.length Post)):∃v,Post v/\∀L,Bk E L f [t0,t1,t2] s v s:=riL E hf e af h
theorem ip1 (e:Ql E f fn 1=(Z,.im,ϴ,Z):=by kernel_rfl) ⦃t0:AV⦄ ⦃Post:AV->Prop⦄ (hn:Da [t0]=Z) (h:Wf E f fn 0 0 0 1 [(0,t0)] ⟨[],[]⟩ (QP Post)):Ah E f [t0] Post:=ipL E hf e hn h
theorem ip2 (e:Ql E f fn 2=(Z,.im,ϴ,Z):=by kernel_rfl) ⦃t0 t1:AV⦄ ⦃Post:AV->Prop⦄ (hn:Da [t0,t1]=Z) (h:Wf E f fn 0 0 0 1 [(0,t0),(1,t1)] ⟨[],[]⟩ (QP Post)):Ah E f [t0,t1] Post:=ipL E hf e hn h
theorem ip3 (e:Ql E f fn 3=(Z,.im,ϴ,Z):=by kernel_rfl) ⦃t0 t1 t2:AV⦄ ⦃Post:AV->Prop⦄ (hn:Da [t0,t1,t2]=Z) (h:Wf E f fn 0 0 0 1 [(0,t0),(1,t1),(2,t2)] ⟨[],[]⟩ (QP Post)):Ah E f [t0,t1,t2] Post:=ipL E hf e hn h
theorem aj (e:Ql E f fn 2=(Z,.im,ϴ,Z):=by kernel_rfl) ⦃t0 t1:AV⦄ ⦃L:Ba⦄ ⦃s:AY⦄ ⦃Post:AV->AY->Prop⦄ (hn:Da [t0,t1]=ϴ) (h:Wf E f fn 0 L.ro L.rt 1 [(0,t0),(1,t1)] s (QM (L.rr f) s.bs.length Post)):∃v s',Post v s'/\Bk E L f [t0,t1] s v s':=imL E hf e hn h
theorem im3 (e:Ql E f fn 3=(Z,.im,ϴ,Z):=by kernel_rfl) ⦃t0 t1 t2:AV⦄ ⦃L:Ba⦄ ⦃s:AY⦄ ⦃Post:AV->AY->Prop⦄ (hn:Da [t0,t1,t2]=ϴ) (h:Wf E f fn 0 L.ro L.rt 1 [(0,t0),(1,t1),(2,t2)] s (QM (L.rr f) s.bs.length Post)):∃v s',Post v s'/\Bk E L f [t0,t1,t2] s v s':=imL E hf e hn h
theorem im4 (e:Ql E f fn 4=(Z,.im,ϴ,Z):=by kernel_rfl) ⦃t0 t1 t2 t3:AV⦄ ⦃L:Ba⦄ ⦃s:AY⦄ ⦃Post:AV->AY->Prop⦄ (hn:Da [t0,t1,t2,t3]=ϴ) (h:Wf E f fn 0 L.ro L.rt 1 [(0,t0),(1,t1),(2,t2),(3,t3)] s (QM (L.rr f) s.bs.length Post)):∃v s',Post v s'/\Bk E L f [t0,t1,t2,t3] s v s':=imL E hf e hn h
theorem st0 (e:Ql E f fn 0=(Z,.st,ϴ,Z):=by kernel_rfl) ⦃L:Ba⦄ ⦃s:AY⦄ ⦃Post:AV->AY->Prop⦄ (h:Wf E f fn 0 L.ro L.rt 1 [] s (QM (L.rr f) s.bs.length Post)):∃v s',Post v s'/\Bk E L f [] s v s':=stL E hf e h
theorem GD (e:Ql E f fn 1=(Z,.st,ϴ,Z):=by kernel_rfl) ⦃t0:AV⦄ ⦃L:Ba⦄ ⦃s:AY⦄ ⦃Post:AV->AY->Prop⦄ (h:Wf E f fn 0 L.ro L.rt 1 [(0,t0)] s (QM (L.rr f) s.bs.length Post)):∃v s',Post v s'/\Bk E L f [t0] s v s':=stL E hf e h
theorem qk (e:Ql E f fn 2=(Z,.st,ϴ,Z):=by kernel_rfl) ⦃t0 t1:AV⦄ ⦃L:Ba⦄ ⦃s:AY⦄ ⦃Post:AV->AY->Prop⦄ (h:Wf E f fn 0 L.ro L.rt 1 [(0,t0),(1,t1)] s (QM (L.rr f) s.bs.length Post)):∃v s',Post v s'/\Bk E L f [t0,t1] s v s':=stL E hf e h
theorem st3 (e:Ql E f fn 3=(Z,.st,ϴ,Z):=by kernel_rfl) ⦃t0 t1 t2:AV⦄ ⦃L:Ba⦄ ⦃s:AY⦄ ⦃Post:AV->AY->Prop⦄ (h:Wf E f fn 0 L.ro L.rt 1 [(0,t0),(1,t1),(2,t2)] s (QM (L.rr f) s.bs.length Post)):∃v s',Post v s'/\Bk E L f [t0,t1,t2] s v s':=stL E hf e h
theorem st4 (e:Ql E f fn 4=(Z,.st,ϴ,Z):=by kernel_rfl) ⦃t0 t1 t2 t3:AV⦄ ⦃L:Ba⦄ ⦃s:AY⦄ ⦃Post:AV->AY->Prop⦄ (h:Wf E f fn 0 L.ro L.rt 1 [(0,t0),(1,t1),(2,t2),(3,t3)] s (QM (L.rr f) s.bs.length Post)):∃v s',Post v s'/\Bk E L f [t0,t1,t2,t3] s v s':=stL E hf e h
theorem nI (e:Ql E f fn 1=(Z,.esc,ϴ,Z):=by kernel_rfl) ⦃t0:AV⦄ ⦃L:Ba⦄ ⦃s:AY⦄ ⦃Post:AV->AY->Prop⦄ (h:Wf E f fn L.n0 L.ro L.rt 1 [(0,t0)] s Post):∃v s',Post v s'/\Bk E L f [t0] s v s':=esL E hf e h
theorem es2 (e:Ql E f fn 2=(Z,.esc,ϴ,Z):=by kernel_rfl) ⦃t0 t1:AV⦄ ⦃L:Ba⦄ ⦃s:AY⦄ ⦃Post:AV->AY->Prop⦄ (h:Wf E f fn L.n0 L.ro L.rt 1 [(0,t0),(1,t1)] s Post):∃v s',Post v s'/\Bk E L f [t0,t1] s v s':=esL E hf e h
theorem es3 (e:Ql E f fn 3=(Z,.esc,ϴ,Z):=by kernel_rfl) ⦃t0 t1 t2:AV⦄ ⦃L:Ba⦄ ⦃s:AY⦄ ⦃Post:AV->AY->Prop⦄ (h:Wf E f fn L.n0 L.ro L.rt 1 [(0,t0),(1,t1),(2,t2)] s Post):∃v s',Post v s'/\Bk E L f [t0,t1,t2] s v s':=esL E hf e h
end
end Go.Tel
