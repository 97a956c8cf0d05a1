/-
  What a piece of code needs so that it answers as wanted: definitions.
-/
import Derived.Test.YtpgfpakdnijngaaGreatDoorWvA
set_option linter.all false
namespace Go.Tel
abbrev En:=List (Nat×AV)
noncomputable abbrev Em (env:En) (t:Nat):Option AV:=
 List.rec (motive:=λ_=>Option AV) none (λ(p:Nat×AV) _ ih=>bif Nat.beq t p.1 then some p.2 else ih) env
abbrev LY (N:Nat) (d:Option Nat) (v:AV) (env:En) (K:En->Prop):Prop:=match d with
 | none=>K env
 | some d=>match Nat.blt d N with
  | true=>K ((d,v)::env)
  | false=>False
def oU (g:AV) (want:Bool) (A B:Prop):Prop:=match g with
 | .pv (.sc (.bool b))=>(b=want->A)/\(b≠want->B)
 | .tuple []=>B
 | _=>False
def I1 (g:AV) (want:Bool) (s:AL) (W:(AV->AL->Prop)->Prop) (K:AV->AL->Prop):Prop:=oU g want (W K) (K (.tuple []) s)
abbrev Ja (ops:Array Oper) (lk:Lk) (o:Oper) (s:AL) (W:(AV->AL->Prop)->Prop) (K:AV->AL->Prop):Prop:=match o.guard with
 | none=>W K
 | some (_,want)=>match OS ops o with
  | none=>K (.tuple []) s
  | some d=>wO (lk d) λg=>I1 g want s W K
abbrev ABw (E:Env) (L:A3) (lk:Lk) (s:AL) (o:Oper) (K:AV->AL->Prop):Prop:=match o.op with
 | .call c=>match c.callee with
  | .builtin _=>wOp E L lk s o K
  | .value f=>wO (G7 lk f) λf=>wO (qc lk c.args.toList) λargs=>GM E L f args s K
  | _=>False
 | _=>wOp E L lk s o K
def wFu (L:A3) (s:AL) (e:TypeId) (k bytes:Nat) (x y ix v:AV) (K:AV->AL->Prop):Prop:=
 (∃z,rowsOf y=some [z]/\z.length=k/\(z.map AV.pv).all BE=true)/\HD ix=(rowsOf x).map List.length/\AQJ L s e k bytes x v K
noncomputable abbrev ABx (E:Env) (L:A3) (N:Nat) (k:I7) (env:En) (s:AL) (K:En->AL->Prop):Prop:=
 wO (XK E.P k.t) λe=>(L.mu e.1=false/\k.te=e.1/\e.2.2.length=e.2.1.size/\e.2.1.size≠0) /\
 wO (G7 (Em env) k.x) λx=>wO (G7 (Em env) k.y) λy=>wO (G7 (Em env) k.ix) λix=>wO (G7 (Em env) k.v) λv=>
  wFu L s e.1 e.2.1.size e.2.1.bytes x y ix v λr s=>LY N (some k.d) r env λenv=>LY N (some k.p) .G2 env λenv=>K env s
def AT6 (L:A3) (s:AL) (k bytes:Nat) (x y ix v:AV) (K:AV->AL->Prop):Prop:=
 ∃id len old zs,x=.ref id 0 len k/\HD ix=some len/\C0 s k y=some zs/\s.bs[id]?=some old /\
  (zs.length=k/\zs.all BE=true/\(cellsOf v).length=k/\(cellsOf v).all BE=true/\len*k<=old.length/\alive s id=true/\(len+1)*bytes<=2 ^ 45/\len+1<=2 ^ 45/\L.ro<=id) /\
  K (.ref s.bs.length 0 (len+1) k) ⟨s.bs.set id []++[old.take (len*k)++cellsOf v],s.ts⟩
noncomputable abbrev ABy (E:Env) (L:A3) (N:Nat) (k:I7) (env:En) (s:AL) (K:En->AL->Prop):Prop:=
 wO (XK E.P k.t) λe=>match L.mu e.1 with
 | false=>(L.mu e.1=false/\k.te=e.1/\e.2.2.length=e.2.1.size/\e.2.1.size≠0) /\
  wO (G7 (Em env) k.x) λx=>wO (G7 (Em env) k.y) λy=>wO (G7 (Em env) k.ix) λix=>wO (G7 (Em env) k.v) λv=>
   wFu L s e.1 e.2.1.size e.2.1.bytes x y ix v λr s=>LY N (some k.d) r env λenv=>LY N (some k.p) .G2 env λenv=>K env s
 | true=>(k.te=e.1/\e.2.2.length=e.2.1.size/\e.2.1.size≠0) /\
  wO (G7 (Em env) k.x) λx=>wO (G7 (Em env) k.y) λy=>wO (G7 (Em env) k.ix) λix=>wO (G7 (Em env) k.v) λv=>
   AT6 L s e.2.1.size e.2.1.bytes x y ix v λr s=>LY N (some k.d) r env λenv=>LY N (some k.p) .G2 env λenv=>K env s
def AMx (a r:AV):Prop:=∀id o E9 q l z,a=.ptr id o->r=.ref E9 q l z->id≠E9
inductive Ins where
 | one (o:Oper)
 | fus (k:I7)
def insts:List Oper->List Ins
 | []=>[]
 | o::rest=>
  let one:=Ins.one o::insts rest
  match rest with
  | o1::o2::rest'=>match fused o o1 o2 with
   | some k=>.fus k::insts rest'
   | none=>one
  | _=>one
noncomputable abbrev AZS (E:Env) (L:A3) (N:Nat) (ops:Array Oper) (l:List Ins):En->AL->(En->AL->Prop)->Prop:=
 List.rec (motive:=λ_=>En->AL->(En->AL->Prop)->Prop) (λenv s K=>K env s)
  (λ(i:Ins) _ ih env s K=>match i with
   | .one o=>Ja ops (Em env) o s (ABw E L (Em env) s o) λv s=>LY N o.dst v env λenv=>ih env s K
   | .fus k=>ABx E L N k env s λenv s=>ih env s K) l
noncomputable abbrev VZ (E:Env) (L:A3) (N:Nat) (ops:Array Oper) (l:List Oper) (env:En) (s:AL) (K:En->AL->Prop):Prop:=AZS E L N ops (insts l) env s K
abbrev Ql (E:Env) (L:A3) (o:Oper):Bool:=match o.op with
 | .alloc _|.box _ _|.store _ _ _|.makeMap _ _|.mapUpdate _ _ _ _|.insert _ _ _ _=>false
 | .makeSlice _ _ _=>false
 | .call { callee:=.builtin .delete,.. }=>false
 | .buildSlice t _ _=>match E.P.underlying t with
  | some (.slice elem)=>!L.mu elem
  | _=>false
 | .call { callee:=.builtin .append,.. }=>false
 | _=>true
abbrev N4 (E:Env) (L:A3) (ops:Array Oper) (lk:Lk) (s:AL) (o:Oper) (K:AV->Prop):Prop:=
 match Ql E L o with
 | true=>Ja ops lk o s (wOp E L lk s o) λv _=>K v
 | false=>False
abbrev wH (E:Env) (lk:Lk) (o:Oper) (K:List AV->(Nat->AV)->Prop):Prop:=match o.op with
 | .alloc t=>wO (zeroOf E.P t) λz=>match E.bz t with
  | true=>False
  | false=>K z (λid=>.ptr id 0)
 | _=>∃cs mk,(∀ρ,HN lk ρ->hcells E ρ o=some (cs,mk))/\K cs mk
noncomputable abbrev Un (E:Env) (L:A3) (N:Nat) (ops:Array Oper) (cls:List eH) (l:List Nat):En->AL->(En->AL->Prop)->Prop:=
 List.rec (motive:=λ_=>En->AL->(En->AL->Prop)->Prop) (λenv s K=>K env s)
  (λ(i:Nat) _ ih env s K=>match ops[i]?,cls[i]? with
   | some o,some (.q _)=>N4 E L ops (Em env) s o λv=>LY N o.dst v env λenv=>ih env s K
   | some o,some (.h _)=>wH E (Em env) o λcs mk=>LY N o.dst (mk s.bs.length) env λenv=>ih env ⟨s.bs++[cs],s.ts⟩ K
   | _,_=>False) l
noncomputable abbrev PX (E:Env) (L:A3) (N:Nat) (ops:Array Oper) (cls:List eH) (l:List Nat):En->AL->List AL->(En->AL->List AL->Prop)->Prop:=
 List.rec (motive:=λ_=>En->AL->List AL->(En->AL->List AL->Prop)->Prop) (λenv s acc K=>K env s acc)
  (λ(i:Nat) _ ih env s acc K=>match ops[i]?,cls[i]? with
   | some o,some (.q _)=>N4 E L ops (Em env) s o λv=>LY N o.dst v env λenv=>ih env s acc K
   | some o,some (.w _)=>Ja ops (Em env) o s (ABw E L (Em env) s o) λv s=>LY N o.dst v env λenv=>ih env s (s::acc) K
   | some o,some (.fa _ j x)=>match ops[j]?,ops[x]? with
    | some o1,some o2=>match fused o o1 o2 with
     | some k=>ABy E L N k env s λenv s=>ih env s (s::acc) K
     | none=>False
    | _,_=>False
   | some _,some .fj=>ih env s acc K
   | some _,some .fx=>ih env s acc K
   | _,_=>False) l
noncomputable abbrev jM (GU:List (List Nat)) (Ex EH:En) (i t:Nat):Option AV:=bif has (HQ GU i) t then Em Ex t else Em EH t
noncomputable abbrev AMy (E:Env) (L:A3) (ops:Array Oper) (cls:List eH) (GU:List (List Nat)) (Ex EH:En) (σ:List AL) (l:List (Nat×Nat)) (K:Prop):Prop:=
 List.rec (motive:=λ_=>Prop) K
  (λ(p:Nat×Nat) _ ih=>(match ops[p.1]?,cls[p.1]?,σ[p.2]? with
   | some o,some (.q _),some s=>N4 E L ops (jM GU Ex EH p.1) s o λv=>match o.dst with
    | some d=>wO (Em EH d) λu=>Bl v u=true
    | none=>True
   | some o,some (.h _),some s=>wH E (jM GU Ex EH p.1) o λcs _=>match o.dst with
    | some d=>wO (Em EH d) λu=>wO (IL u) λid=>wO s.bs[id]? λcs'=>IM cs' cs=true
    | none=>False
   | _,_,_=>False)/\ih) l
noncomputable abbrev Va (ops:Array Oper) (p:Bd) (Ex EH:En) (r:AV) (l:List Nat) (K:Prop):Prop:=
 List.rec (motive:=λ_=>Prop) K (λ(m:Nat) _ ih=>match ops[m]?,p.cls[m]? with
  | some om,some (.w _)=>match om.op with
   | .store _ y _=>(wO (G7 (jM p.GU Ex EH m) y) λa=>AMx a r)/\ih
   | _=>ih
  | _,_=>ih) l
noncomputable abbrev Qm (E:Env) (L:A3) (ops:Array Oper) (p:Bd) (Ex EH:En) (l:List Nat) (K:Prop):Prop:=
 List.rec (motive:=λ_=>Prop) K (λ(i:Nat) _ ih=>match p.cls[i]? with
  | some (.fa _ j x)=>match RK E L ops i j x with
   | true=>match ops[i]? with
    | some o=>match o.dst with
     | some d=>wO (Em EH d) λr=>Va ops p Ex EH r p.rest ih
     | none=>ih
    | none=>ih
   | false=>ih
  | _=>ih) l
noncomputable abbrev ABz (E:Env) (L:A3) (N:Nat) (p:Bd) (ops:Array Oper) (env:En) (s:AL) (K:En->AL->Prop):Prop:=match ri E L ops p.cls p.rest with
 | true=>Un E L N ops p.cls p.first env s λJb s1=>PX E L N ops p.cls p.rest Jb s1 [s1] λGR s2 acc=>AMy E L ops p.cls p.GU env GR acc.reverse p.Xe (K GR s2)
 | false=>Un E L N ops p.cls p.first env s λJb s1=>PX E L N ops p.cls p.rest Jb s1 [s1] λGR s2 acc=>Qm E L ops p env GR p.rest (AMy E L ops p.cls p.GU env GR acc.reverse p.Xe (K GR s2))
def sub:Code->List Nat->Code
 | c,[]=>c
 | .seq a b,i::p=>match i with
  | 0=>sub a p
  | _=>sub b p
 | .cond _ a b,i::p=>match i with
  | 0=>sub a p
  | _=>sub b p
 | .block _ b,_::p=>sub b p
 | .loop b,_::p=>sub b p
 | c,_=>c
def AEC (c:Code) (i:Nat):Oper:=match c with
 | .region _ ops _=>ops[i]?.getD ⟨none,.move (.tmp 0),0,"",#[],none⟩
 | _=>⟨none,.move (.tmp 0),0,"",#[],none⟩
def Tj (E:Env) (L:A3) (s:AL) (lk:Lk) (o:Oper) (K:AV->AL->Prop):Prop:=VY E L lk s o K
def Ck (E:Env) (L:A3) (c:Code) (st:St) (o:Out) (st':St):Prop:=
 ∃n,∀m k,n<=m->n<=k->Jd E (Dl E m) k L c st=some (o,st')
inductive Frame where
 | seq (b:Code)
 | blk (id:Nat)
 | loop (b:Code)
def Rc (E:Env) (L:A3) (Q:Out->St->Prop):List Frame->Out->St->Prop
 | [],o,st=>Q o st
 | .seq b::ks,o,st=>match o with
  | .norm=>∃o st',Ck E L b st o st'/\Rc E L Q ks o st'
  | o=>Rc E L Q ks o st
 | .blk id::ks,o,st=>match o with
  | .exit j=>bif Nat.beq j id then Rc E L Q ks .norm st else Rc E L Q ks (.exit j) st
  | o=>Rc E L Q ks o st
 | .loop b::ks,o,st=>match o with
  | .norm=>∃o st',Ck E L (.loop b) st o st'/\Rc E L Q ks o st'
  | o=>Rc E L Q ks o st
def Fin (E:Env) (rs:List ResultVar) (QR:AV->AL->Prop) (o:Out) (st:St):Prop:=
 (∀id,o≠.exit id)/\∃vs,Fk E st rs=some vs/\QR (KS vs) st.s
def Wp (E:Env) (L:A3) (N:Nat) (rs:List ResultVar) (c:Code) (ks:List Frame) (env:En) (s:AL) (QR:AV->AL->Prop):Prop:=
 ∀ρ,HN (Em env) ρ->∃o st,Ck E L c ⟨N,ρ,s⟩ o st/\Rc E L (Fin E rs QR) ks o st
abbrev keyOf:Code->Option Nat
 | .region id _ _=>some id
 | .seq a b=>match keyOf a with
  | some k=>some k
  | none=>keyOf b
 | .cond _ a b=>match keyOf a with
  | some k=>some k
  | none=>keyOf b
 | .block _ b=>keyOf b
 | .loop b=>keyOf b
 | .rangeFunc _ _ a _=>keyOf a
 | _=>none
noncomputable abbrev prune (lv:Nat->List Nat) (c:Code) (env:En):En:=match keyOf c with
 | some k=>(lv k).filterMap λt=>match Em env t with
  | some v=>some (t,v)
  | none=>none
 | none=>env
noncomputable abbrev qg (E:Env) (lk:Lk) (s:AL) (rs:List ResultVar):(List AV->Prop)->Prop:=
 List.rec (motive:=λ_=>(List AV->Prop)->Prop) (λK=>K [])
  (λ(r:ResultVar) _ ih K=>match r with
   | .tmp t=>wO (lk t) λv=>ih λvs=>K (v::vs)
   | .cell a t=>wO (lk a) λa=>wO (ldK E.P t) λk=>FC E s k a λv=>ih λvs=>K (v::vs)) rs
def AO (c:AV) (A B:Prop):Prop:=match c with
 | .pv (.sc (.bool t))=>(t=true->A)/\(t=false->B)
 | _=>False
noncomputable abbrev wUE (E:Env) (L:A3) (N:Nat) (lv:Nat->List Nat) (rs:List ResultVar) (QR:AV->AL->Prop) (ks:List Frame):Option Nat->En->AL->Prop:=
 List.rec (motive:=λ_=>Option Nat->En->AL->Prop)
  (λo env s=>match o with
   | none=>qg E (Em env) s rs λvs=>QR (KS vs) s
   | some _=>False)
  (λ(fr:Frame) (ks:List Frame) ih o env s=>match fr with
   | .seq b=>match o with
    | none=>match b with
     | .ret=>qg E (Em env) s rs λvs=>QR (KS vs) s
     | .skip=>ih none env s
     | .exit j=>ih (some j) env s
     | b=>Wp E L N rs b ks (prune lv b env) s QR
    | some j=>ih (some j) env s
   | .blk id=>match o with
    | none=>ih none env s
    | some j=>match Nat.beq j id with
     | true=>ih none env s
     | false=>ih (some j) env s
   | .loop b=>match o with
    | none=>Wp E L N rs (.loop b) ks (prune lv b env) s QR
    | some j=>ih (some j) env s) ks
abbrev AEP (ct:Nat->Bool) (c:Code):Bool:=match keyOf c with
 | some k=>ct k
 | none=>false
noncomputable abbrev wpc (E:Env) (L:A3) (N:Nat) (lv:Nat->List Nat) (ct:Nat->Bool) (rs:List ResultVar) (QR:AV->AL->Prop) (c:Code):List Frame->En->AL->Prop:=
 Code.rec (motive:=λ_=>List Frame->En->AL->Prop)
  (λks env s=>wUE E L N lv rs QR ks none env s)
  (λid ops d ks env s=>match d with
   | false=>VZ E L N ops ops.toList env s λenv s=>wUE E L N lv rs QR ks none env s
   | true=>wO (L.pl id) λp=>ABz E L N p ops env s λenv s=>wUE E L N lv rs QR ks none env s)
  (λa b iha kS ks env s=>match a with
   | .region id ops d=>match d with
    | false=>VZ E L N ops ops.toList env s λenv s=>match AEP ct b with
     | true=>Wp E L N rs b ks (prune lv b env) s QR
     | false=>kS ks env s
    | true=>wO (L.pl id) λp=>ABz E L N p ops env s λenv s=>match AEP ct b with
     | true=>Wp E L N rs b ks (prune lv b env) s QR
     | false=>kS ks env s
   | _=>iha (.seq b::ks) env s)
  (λc _ _ iha kS ks env s=>wO (G7 (Em env) c) λc=>AO c (iha ks env s) (kS ks env s))
  (λid _ ih ks env s=>ih (.blk id::ks) env s)
  (λb _ ks env s=>Wp E L N rs (.loop b) ks (prune lv b env) s QR)
  (λg ps a b _ _ ks env s=>Wp E L N rs (.rangeFunc g ps a b) ks (prune lv (.rangeFunc g ps a b) env) s QR)
  (λj ks env s=>wUE E L N lv rs QR ks (some j) env s)
  (λ_ _ _ _ _=>False)
  (λ_ _ _ _=>False)
  (λ_ _ _ _=>False)
  (λ_ env s=>qg E (Em env) s rs λvs=>QR (KS vs) s)
  (λ_ _ _ _=>False) c
theorem HN.put {env:En} {ρ:Nat->AV} (h:HN (Em env) ρ) (d:Nat) (v:AV):HN (Em ((d,v)::env)) (ZX ρ d v):=by
 intro t u hu;have hu':(bif Nat.beq t d then some v else Em env t)=some u:=hu;unfold ZX;cases hb:Nat.beq t d with
 | true=>grind
 | false=>rw[hb] at hu'; exact h t u hu'
theorem Ea {N:Nat} {d:Option Nat} {v:AV} {env:En} {K:En->Prop} {ρ:Nat->AV} {s:AL} (h:LY N d v env K) (hA:HN (Em env) ρ) :
  ∃env' ρ',KO ⟨N,ρ,s⟩ d v=some ⟨N,ρ',s⟩/\HN (Em env') ρ'/\K env':=by
 cases d with
 | none=>exact⟨env,ρ,rfl,hA,h⟩
 | some d=>
  simp only[LY] at h;cases hb:Nat.blt d N with
  | false=>grind
  | true=>
   rw[hb] at h;exact⟨_,ZX ρ d v,by simp[KO,hb],hA.put d v,h⟩
theorem Jc {ops:Array Oper} {lk:Lk} {o:Oper} {s:AL} {W:(AV->AL->Prop)->Prop} {K:AV->AL->Prop} {ρ:Nat->AV} (h:Ja ops lk o s W K) (hA:HN lk ρ) :
  (E7 ops ρ o=some true/\W K)\/(E7 ops ρ o=some false/\K (.tuple []) s):=by
 unfold Ja at h;unfold E7;split at h
 .grind
 .rename_i j want hg
  rw[hg];simp only;split at h
  .grind
  .rename_i d ht
   rw[ht];obtain⟨g,h1,h⟩:=A2 h;simp only[hA d g h1];unfold I1 oU at h;split at h
   .rename_i b
    by_cases hb:b=want
    all_goals grind
   all_goals grind
theorem Uo {E:Env} {L:A3} {lk:Lk} {s:AL} {o:Oper} {K:AV->AL->Prop} {ρ:Nat->AV} (h:ABw E L lk s o K) (hA:HN lk ρ) :
  ∃v s' n,(∀m,n<=m->NT E L (Dl E m L) ρ s o=some (v,s'))/\K v s':=by
 have plain:wOp E L lk s o K->(∀cf,NT E L cf ρ s o=CS E L ρ s o)->∃v s' n,(∀m,n<=m->NT E L (Dl E m L) ρ s o=some (v,s'))/\K v s':=by
  intro h ho;obtain⟨v,s',h1,h2⟩:=XN hA h;exact⟨v,s',0,λm _=>by rw[ho,h1],h2⟩
 obtain⟨dst,op,type,pos,after,guard⟩:=o;cases op with
 | call c=>
  obtain⟨callee,args,ts⟩:=c;cases callee with
  | builtin b=>exact plain h λcf=>rfl
  | value f=>
   obtain⟨fv,h1,h⟩:=A2 h;obtain⟨as,h2,h⟩:=A2 h;unfold GM at h;split at h
   .rename_i g first captured
    obtain⟨v,s',⟨n,hn⟩,hK⟩:=h;refine⟨v,s',n,λm hm=>?_,hK⟩
    grind[NT,LC,Bw,ZM]
   grind
  | _=>grind
 | _=>exact plain h λcf=>by rfl
theorem qh {L:A3} {s:AL} {e:TypeId} {i:TypeInfo} {x y ix v:AV} {K:AV->AL->Prop} (h:wFu L s e i.size i.bytes x y ix v K) :
  ∃z n rows row r s',rowsOf y=some [z]/\z.length=i.size/\(z.map AV.pv).all BE=true/\HD ix=some n/\rowsOf x=some rows/\n=rows.length/\Co (cellsOf v)=some row/\row.length=i.size/\(cellsOf v).all BE=true /\
   KP L s e i x row=some (r,s')/\K r s':=by
 obtain⟨⟨z,h1,h2,h3⟩,h4,h5,h⟩:=h
 grind[rowsOf,KP]
theorem Up {E:Env} {L:A3} {N:Nat} {k:I7} {env:En} {s:AL} {K:En->AL->Prop} {ρ:Nat->AV} (h:ABx E L N k env s K) (hA:HN (Em env) ρ) :
  ∃v s' env' ρ',I8 E L ρ s k=some (v,s')/\J5 ⟨N,ρ,s⟩ k v s'=some ⟨N,ρ',s'⟩/\HN (Em env') ρ'/\K env' s':=by
 obtain⟨e,h1,⟨h2,h3,h4,h5⟩,h⟩:=A2 h;obtain⟨x,hx,h⟩:=A2 h;obtain⟨y,hy,h⟩:=A2 h;obtain⟨ix,SW,h⟩:=A2 h;obtain⟨v,hv,h⟩:=A2 h;obtain⟨e1,e2,e3⟩:=M0 h1;obtain⟨z,n,rows,row,r,s',k1,k2,k3,k4,k5,k6,k7,k8,k9,k10,sR⟩:=qh h;obtain⟨Jb,ρ1,p1,p2,p3⟩:=Ea (s:=s') sR hA;obtain⟨GR,ρ2,q1,q2,q3⟩:=Ea (s:=s') p3 p2
 grind[I8,Bw,J5]
theorem jN {L:A3} {s:AL} {i:TypeInfo} {x y ix v:AV} {K:AV->AL->Prop} (h:AT6 L s i.size i.bytes x y ix v K) {E:Env} {k:I7} {e:TypeId} {z:List AV} {ρ:Nat->AV}
  (e1:E.P.underlying k.t=some (.slice e)) (e2:E.P.info? e=some i) (e3:zeroOf E.P e=some z) (h2:L.mu e=true) (h3:k.te=e) (h4:z.length=i.size) (h5:i.size≠0)
  (hx:Ad ρ k.x=x) (hy:Ad ρ k.y=y) (SW:Ad ρ k.ix=ix) (hv:Ad ρ k.v=v) :
  ∃r s',KQ E L ρ s k=some (r,s')/\K r s':=by
 obtain⟨id,len,old,zs,rfl,k1,k2,k3,⟨k4,k5,k6,k7,k8,k9,k10,sR,k12⟩,k13⟩:=h;refine⟨_,_,?_,k13⟩
 have ha:I8 E L ρ s k=none:=by
  unfold I8;simp only[e1];rw[if_neg (by rw[h2]; simp)]
 rw[KQ,ha];unfold Vb;simp only[e1,e2,e3,hx,hy,SW,hv,k1,k2,k3,Ma];rw[if_pos ⟨h2,h3⟩];exact if_pos ⟨Ab,k4,k6,k7,k5,h5,by simp[h4],Ab,Ab,k8,k9,k10,sR,k12⟩
theorem dh {E:Env} {L:A3} {N:Nat} {k:I7} {env:En} {s:AL} {K:En->AL->Prop} {ρ:Nat->AV} (h:ABy E L N k env s K) (hA:HN (Em env) ρ) :
  ∃v s' env' ρ',KQ E L ρ s k=some (v,s')/\J5 ⟨N,ρ,s⟩ k v s'=some ⟨N,ρ',s'⟩/\HN (Em env') ρ'/\K env' s':=by
 obtain⟨e,h1,h⟩:=A2 h;split at h
 .obtain⟨v,s',env',ρ',a1,a2⟩:=Up (K:=K) (show ABx E L N k env s K by unfold ABx; rw[h1]; exact h) hA
  exact⟨v,s',env',ρ',by rw[KQ,a1],a2⟩
 .rename_i Xq
  obtain⟨⟨h3,h4,h5⟩,h⟩:=h;obtain⟨x,hx,h⟩:=A2 h;obtain⟨y,hy,h⟩:=A2 h;obtain⟨ix,SW,h⟩:=A2 h;obtain⟨v,hv,h⟩:=A2 h;obtain⟨e1,e2,e3⟩:=M0 h1;obtain⟨r,s',k10,sR⟩:=jN h e1 e2 e3 Xq h3 h4 h5 (Bw hA hx) (Bw hA hy) (Bw hA SW) (Bw hA hv);obtain⟨Jb,ρ1,p1,p2,p3⟩:=Ea (s:=s') sR hA;obtain⟨GR,ρ2,q1,q2,q3⟩:=Ea (s:=s') p3 p2;exact⟨r,s',GR,ρ2,k10,by simp only[J5,p1,q1],q2,q3⟩
theorem dm {E:Env} {L:A3} {cf:Cp} {ops:Array Oper} {o:Oper} {rest:List Oper} {st:St} (hf:HG o rest=true):IK E L cf ops (o::rest) st=match E7 ops st.ρ o with
   | some true=>match M9 E L cf st o with
    | some st=>IK E L cf ops rest st
    | none=>none
   | some false=>match KO st o.dst (.tuple []) with
    | some st=>IK E L cf ops rest st
    | none=>none
   | none=>none:=by
 match rest,hf with
 | [],_=>rfl
 | [o1],_=>rfl
 | o1::o2::rest',hf=>
  grind[IK,HG]
theorem qi {o:Oper} {rest:List Oper} (hf:HG o rest=true):insts (o::rest)=.one o::insts rest:=by
 match rest,hf with
 | [],_=>rfl
 | [o1],_=>rfl
 | o1::o2::rest',hf=>
  grind[insts,HG]
theorem AB0 {E:Env} {L:A3} {N:Nat} {ops:Array Oper} {o:Oper} {rest:List Oper} {env:En} {s:AL} {K:En->AL->Prop} (hf:HG o rest=true) :
  VZ E L N ops (o::rest) env s K=Ja ops (Em env) o s (ABw E L (Em env) s o) λv s=>LY N o.dst v env λenv=>VZ E L N ops rest env s K:=by simp[*,VZ,qi]
theorem AB1 {E:Env} {L:A3} {N:Nat} {ops:Array Oper} {o o1 o2:Oper} {rest:List Oper} {env:En} {s:AL} {K:En->AL->Prop} {k:I7} (hk:fused o o1 o2=some k) :
  VZ E L N ops (o::o1::o2::rest) env s K=ABx E L N k env s λenv s=>VZ E L N ops rest env s K:=by simp[*,insts,VZ]
theorem jO {E:Env} {L:A3} {N:Nat} {ops:Array Oper} {K:En->AL->Prop}:∀(b:Nat) (l:List Oper),l.length<=b->∀(env:En) (s:AL) (ρ:Nat->AV),VZ E L N ops l env s K->HN (Em env) ρ ->
  ∃env' ρ' s' n,(∀m,n<=m->IK E L (Dl E m L) ops l ⟨N,ρ,s⟩=some ⟨N,ρ',s'⟩)/\HN (Em env') ρ'/\K env' s':=by
 intro b
 induction b with
 | zero=>
  intro l hl env s ρ h hA;have:l=[]:=ja.1 (by omega);subst this;exact⟨env,ρ,s,0,λm _=>rfl,hA,h⟩
 | succ b ih=>
  intro l hl env s ρ h hA;cases l with
  | nil=>exact⟨env,ρ,s,0,λm _=>rfl,hA,h⟩
  | cons o rest=>
   have hl':rest.length<=b:=by simpa using hl
   cases hf:HG o rest with
   | true=>
    rw[AB0 hf] at h;rcases Jc h hA with ⟨hg,h⟩|⟨hg,h⟩
    .obtain⟨v,s1,n1,h1,h2⟩:=Uo h hA
     obtain⟨Jb,ρ1,p1,p2,p3⟩:=Ea (s:=s1) h2 hA;obtain⟨GR,ρ2,s2,n2,q1,q2,q3⟩:=ih rest hl' Jb s1 ρ1 p3 p2;refine⟨GR,ρ2,s2,n1+n2,λm hm=>?_,q2,q3⟩;rw[dm hf];simp only[hg,M9,h1 m (by omega),p1];exact q1 m (by omega)
    .obtain⟨Jb,ρ1,p1,p2,p3⟩:=Ea (s:=s) h hA
     obtain⟨GR,ρ2,s2,n2,q1,q2,q3⟩:=ih rest hl' Jb s ρ1 p3 p2;refine⟨GR,ρ2,s2,n2,λm hm=>?_,q2,q3⟩;rw[dm hf];simp only[hg,p1];exact q1 m hm
   | false=>
    match rest,hf,hl',h with
    | [],hf,_,_=>simp_all[HG]
    | [o1],hf,_,_=>simp[HG] at hf
    | o1::o2::rest',hf,hl',h=>
     cases hk:fused o o1 o2 with
     | none=>simp_all[HG]
     | some k=>
      rw[AB1 hk] at h;obtain⟨v,s1,Jb,ρ1,p1,p2,p3,p4⟩:=Up h hA;obtain⟨GR,ρ2,s2,n2,q1,q2,q3⟩:=ih rest' (by simp at hl'; omega) Jb s1 ρ1 p4 p3;refine⟨GR,ρ2,s2,n2,λm hm=>?_,q2,q3⟩;simp[*,IK]
theorem qj {E:Env} {L:A3} {ρ:Nat->AV} {s s':AL} {o:Oper} {v:AV} (hq:Ql E L o=true) (h:CS E L ρ s o=some (v,s')):I9 E L ρ s o=some v:=by grind[KR,ET]
theorem LZ {E:Env} {L:A3} {ops:Array Oper} {lk:Lk} {s:AL} {o:Oper} {K:AV->Prop} {ρ:Nat->AV} (h:N4 E L ops lk s o K) (hA:HN lk ρ):∃v,E8 E L ops ρ s o=some v/\K v:=by
 unfold N4 at h;cases hq:Ql E L o with
 | false=>simp_all
 | true=>
  rw[hq] at h;unfold E8;rcases Jc h hA with ⟨hg,h⟩|⟨hg,h⟩
  .obtain⟨v,s',h1,h2⟩:=XN hA h
   rw[hg];exact⟨v,qj hq h1,h2⟩
  simp[*]
theorem dn {E:Env} {lk:Lk} {o:Oper} {K:List AV->(Nat->AV)->Prop} {ρ:Nat->AV} (h:wH E lk o K) (hA:HN lk ρ):∃cs mk,hcells E ρ o=some (cs,mk)/\K cs mk:=by grind[A2,hcells]
theorem I0 {E:Env} {L:A3} {N:Nat} {ops:Array Oper} {cls:List eH} {K:En->AL->Prop}:∀(l:List Nat) (env:En) (s:AL) (ρ:Nat->AV),Un E L N ops cls l env s K->HN (Em env) ρ ->
  ∃env' ρ' s',JA E L ops cls l ⟨N,ρ,s⟩=some ⟨N,ρ',s'⟩/\HN (Em env') ρ'/\K env' s'
 | [],env,s,ρ,h,hA=>⟨env,ρ,s,rfl,hA,h⟩
 | i::rest,env,s,ρ,h,hA=>by
  change (match ops[i]?,cls[i]? with
   | some o,some (.q _)=>N4 E L ops (Em env) s o λv=>LY N o.dst v env λenv=>Un E L N ops cls rest env s K
   | some o,some (.h _)=>wH E (Em env) o λcs mk=>LY N o.dst (mk s.bs.length) env λenv=>Un E L N ops cls rest env ⟨s.bs++[cs],s.ts⟩ K
   | _,_=>False) at h
  split at h
  .rename_i o ts ho hc
   obtain⟨v,h1,h2⟩:=LZ h hA;obtain⟨Jb,ρ1,p1,p2,p3⟩:=Ea (s:=s) h2 hA;obtain⟨GR,ρ2,s2,q1,q2,q3⟩:=I0 rest Jb s ρ1 p3 p2;refine⟨GR,ρ2,s2,?_,q2,q3⟩;simp[*,JA]
  .rename_i o ts ho hc
   obtain⟨cs,mk,h1,h2⟩:=dn h hA;obtain⟨Jb,ρ1,p1,p2,p3⟩:=Ea (s:=⟨s.bs++[cs],s.ts⟩) h2 hA;obtain⟨GR,ρ2,s2,q1,q2,q3⟩:=I0 rest Jb _ ρ1 p3 p2;refine⟨GR,ρ2,s2,?_,q2,q3⟩;simp[*,JA]
  grind
theorem Fy {E:Env} {L:A3} {N:Nat} {ops:Array Oper} {cls:List eH} {K:En->AL->List AL->Prop}:∀(l:List Nat) (env:En) (s:AL) (acc:List AL) (ρ:Nat->AV),PX E L N ops cls l env s acc K->HN (Em env) ρ ->
  ∃env' ρ' s' acc' n,(∀m,n<=m->HE E L (Dl E m L) ops cls l ⟨N,ρ,s⟩ acc=some (⟨N,ρ',s'⟩,acc'))/\HN (Em env') ρ'/\K env' s' acc'
 | [],env,s,acc,ρ,h,hA=>⟨env,ρ,s,acc,0,λ_ _=>rfl,hA,h⟩
 | i::rest,env,s,acc,ρ,h,hA=>by
  change (match ops[i]?,cls[i]? with
   | some o,some (.q _)=>N4 E L ops (Em env) s o λv=>LY N o.dst v env λenv=>PX E L N ops cls rest env s acc K
   | some o,some (.w _)=>Ja ops (Em env) o s (ABw E L (Em env) s o) λv s=>LY N o.dst v env λenv=>PX E L N ops cls rest env s (s::acc) K
   | some o,some (.fa _ j x)=>match ops[j]?,ops[x]? with
    | some o1,some o2=>match fused o o1 o2 with
     | some k=>ABy E L N k env s λenv s=>PX E L N ops cls rest env s (s::acc) K
     | none=>False
    | _,_=>False
   | some _,some .fj=>PX E L N ops cls rest env s acc K
   | some _,some .fx=>PX E L N ops cls rest env s acc K
   | _,_=>False) at h
  split at h
  .rename_i o ts ho hc
   obtain⟨v,h1,h2⟩:=LZ h hA;obtain⟨Jb,ρ1,p1,p2,p3⟩:=Ea (s:=s) h2 hA;obtain⟨GR,ρ2,s2,Nv,n2,q1,q2,q3⟩:=Fy rest Jb s acc ρ1 p3 p2;refine⟨GR,ρ2,s2,Nv,n2,λm hm=>?_,q2,q3⟩;simp only[HE,ho,hc,h1,p1];exact q1 m hm
  .rename_i o r ho hc
   have:∃v s1 n1,(∀m,n1<=m->NU E L (Dl E m L) ops ρ s o=some (v,s1))/\LY N o.dst v env λenv=>PX E L N ops cls rest env s1 (s1::acc) K:=by
    rcases Jc h hA with ⟨hg,h⟩|⟨hg,h⟩
    .obtain⟨v,s1,n1,h1,h2⟩:=Uo h hA
     exact⟨v,s1,n1,λm hm=>by simp only[NU,hg,h1 m hm],h2⟩
    .exact⟨_,s,0,λm hm=>by simp only[NU,hg],h⟩
   obtain⟨v,s1,n1,h1,h2⟩:=this;obtain⟨Jb,ρ1,p1,p2,p3⟩:=Ea (s:=s1) h2 hA;obtain⟨GR,ρ2,s2,Nv,n2,q1,q2,q3⟩:=Fy rest Jb s1 _ ρ1 p3 p2;refine⟨GR,ρ2,s2,Nv,n1+n2,λm hm=>?_,q2,q3⟩;simp only[HE,ho,hc,h1 m (by omega),p1];exact q1 m (by omega)
  .rename_i o r j x ho hc
   split at h
   .rename_i o1 o2 hj hx
    split at h
    .rename_i k hk
     obtain⟨v,s1,Jb,ρ1,p1,p2,p3,p4⟩:=dh h hA;obtain⟨GR,ρ2,s2,Nv,n2,q1,q2,q3⟩:=Fy rest Jb s1 _ ρ1 p4 p3;refine⟨GR,ρ2,s2,Nv,n2,λm hm=>?_,q2,q3⟩;simp only[HE,ho,hc,hj,hx,hk,p1,p2];exact q1 m hm
    .exact h.elim
   .exact h.elim
  .rename_i o ho hc
   obtain⟨GR,ρ2,s2,Nv,n2,q1,q2,q3⟩:=Fy rest env s acc ρ h hA;refine⟨GR,ρ2,s2,Nv,n2,λm hm=>?_,q2,q3⟩;simp only[HE,ho,hc];exact q1 m hm
  .rename_i o ho hc
   obtain⟨GR,ρ2,s2,Nv,n2,q1,q2,q3⟩:=Fy rest env s acc ρ h hA;refine⟨GR,ρ2,s2,Nv,n2,λm hm=>?_,q2,q3⟩;simp only[HE,ho,hc];exact q1 m hm
  .exact h.elim
theorem HN.at_ {GU:List (List Nat)} {Ex EH:En} {ρ0 ρf:Nat->AV} (h0:HN (Em Ex) ρ0) (hf:HN (Em EH) ρf) (i:Nat):HN (jM GU Ex EH i) (Fe GU ρ0 ρf i):=by
 intro t v hv;unfold jM at hv;unfold Fe;cases hb:has (HQ GU i) t with
 | true=>rw[hb] at hv; exact h0 t v hv
 | false=>rw[hb] at hv; exact hf t v hv
theorem N5 {E:Env} {L:A3} {ops:Array Oper} {cls:List eH} {GU:List (List Nat)} {Ex EH:En} {ρ0 ρf:Nat->AV} {σ:List AL} (h0:HN (Em Ex) ρ0) (hf:HN (Em EH) ρf) {K:Prop} :
  ∀l,AMy E L ops cls GU Ex EH σ l K->eI E L ops cls GU ρ0 ρf σ l=true/\K
 | [],h=>⟨rfl,h⟩
 | (i,k)::rest,h=>by
  obtain⟨h,h'⟩:=h;obtain⟨r1,r2⟩:=N5 h0 hf rest h';refine⟨?_,r2⟩;simp only[eI,r1,Ie];split at h
  .rename_i o ts s ho hc hs
   obtain⟨v,h1,h2⟩:=LZ h (HN.at_ h0 hf i);simp only[ho,hc,hs,h1];cases hd:o.dst with
   | none=>rfl
   | some d=>
    rw[hd] at h2;obtain⟨u,h3,h4⟩:=A2 h2;simp only[hf d u h3,h4]
  .rename_i o ts s ho hc hs
   obtain⟨cs,mk,h1,h2⟩:=dn h (HN.at_ h0 hf i);simp only[ho,hc,hs,h1];cases hd:o.dst with
   | none=>simp_all
   | some d=>
    rw[hd] at h2;obtain⟨u,h3,h4⟩:=A2 h2;obtain⟨id,h5,h6⟩:=A2 h4;obtain⟨cs',h7,h8⟩:=A2 h6;simp only[hf d u h3,h5,h7,h8]
  simp[*]
theorem La {ops:Array Oper} {p:Bd} {Ex EH:En} {ρ0 ρf:Nat->AV} {E9 off len sz:Nat} (h0:HN (Em Ex) ρ0) (hf:HN (Em EH) ρf) {K:Prop} :
  ∀l,Va ops p Ex EH (.ref E9 off len sz) l K->Qo ops p ρ0 ρf E9 l=true/\K
 | [],h=>⟨rfl,h⟩
 | m::l,h=>by
  change (match ops[m]?,p.cls[m]? with
   | some om,some (.w _)=>match om.op with
    | .store _ y _=>(wO (G7 (jM p.GU Ex EH m) y) λa=>AMx a (.ref E9 off len sz))/\Va ops p Ex EH (.ref E9 off len sz) l K
    | _=>Va ops p Ex EH (.ref E9 off len sz) l K
   | _,_=>Va ops p Ex EH (.ref E9 off len sz) l K) at h
  rw[Qo];split at h
  .rename_i om r ho hc
   simp only[ho,hc];split at h
   .rename_i t y z hop
    obtain⟨h1,h2⟩:=h;obtain⟨a,h3,h4⟩:=A2 h1;obtain⟨h5,h6⟩:=La h0 hf l h2;refine⟨?_,h6⟩;simp only[hop,Bw (HN.at_ h0 hf m) h3,h5,Ie];split
    .rename_i id o
     have:=h4 id o E9 off len sz rfl rfl;exact Bb Bool.not (OH.2 λe=>this (Bx e))
    .rfl
   .obtain⟨h5,h6⟩:=La h0 hf l h
    refine⟨?_,h6⟩;rw[h5,Ie];split
    .rename_i hn _ _ _ _ hop
     exact absurd hop (hn _ _ _)
    .rfl
  .rename_i hn
   obtain⟨h5,h6⟩:=La h0 hf l h;refine⟨?_,h6⟩;rw[h5,Ie];split
   .rename_i om r ho hc
    exact absurd hc (hn _ _ ho)
   .rfl
theorem Uq {E:Env} {L:A3} {ops:Array Oper} {p:Bd} {Ex EH:En} {ρ0 ρf:Nat->AV} (h0:HN (Em Ex) ρ0) (hf:HN (Em EH) ρf) {K:Prop} :
  ∀l,Qm E L ops p Ex EH l K->SR E L ops p ρ0 ρf l=true/\K
 | [],h=>⟨rfl,h⟩
 | i::l,h=>by
  change (match p.cls[i]? with
   | some (.fa _ j x)=>match RK E L ops i j x with
    | true=>match ops[i]? with
     | some o=>match o.dst with
      | some d=>wO (Em EH d) λr=>Va ops p Ex EH r p.rest (Qm E L ops p Ex EH l K)
      | none=>Qm E L ops p Ex EH l K
     | none=>Qm E L ops p Ex EH l K
    | false=>Qm E L ops p Ex EH l K
   | _=>Qm E L ops p Ex EH l K) at h
  have qm:Qm E L ops p Ex EH l K->SR E L ops p ρ0 ρf l=true/\K:=λh=>Uq h0 hf l h
  rw[SR];split at h
  .rename_i r j x hc
   simp only[hc];split at h
   .rename_i hm
    simp only[hm,AN];split at h
    .rename_i o ho
     simp only[ho];split at h
     .rename_i d hd
      obtain⟨r,h1,h2⟩:=A2 h;simp only[hd,hf d r h1];cases r with
      | ref E9 off len sz=>
       obtain⟨h3,h4⟩:=La h0 hf _ h2;obtain⟨h5,h6⟩:=qm h4;exact⟨by simp only[h3,h5,Ie],h6⟩
      | _=>exact(by
        have:∀(r:AV) (q:List Nat),(Va ops p Ex EH r q (Qm E L ops p Ex EH l K))->Qm E L ops p Ex EH l K:=λr q=>by
         induction q with
         | nil=>exact λh=>h
         | cons m q ih=>
          intro h
          change (match ops[m]?,p.cls[m]? with
           | some om,some (.w _)=>match om.op with
            | .store _ y _=>(wO (G7 (jM p.GU Ex EH m) y) λa=>AMx a r)/\Va ops p Ex EH r q (Qm E L ops p Ex EH l K)
            | _=>Va ops p Ex EH r q (Qm E L ops p Ex EH l K)
           | _,_=>Va ops p Ex EH r q (Qm E L ops p Ex EH l K)) at h
          split at h
          .split at h
           .exact ih h.2
           .exact ih h
          .exact ih h
        obtain⟨h5,h6⟩:=qm (this _ _ h2);exact⟨by simp only[h5,Ie],h6⟩)
     .rename_i hd
      simp only[hd];simpa using qm h
    .rename_i ho
     simp only[ho];simpa using qm h
   .rename_i hm
    simp only[hm,AH];simpa using qm h
  .rename_i hn
   obtain⟨h5,h6⟩:=qm h;refine⟨?_,h6⟩;rw[h5,Ie];split
   .rename_i r j x hc
    exact absurd hc (hn _ _ _)
   .rfl
theorem jP {E:Env} {L:A3} {N:Nat} {p:Bd} {ops:Array Oper} {env:En} {s:AL} {K:En->AL->Prop} {ρ:Nat->AV} (h:ABz E L N p ops env s K) (hA:HN (Em env) ρ) :
  ∃env' ρ' s' n,(∀m,n<=m->Xl E L (Dl E m L) p ops ⟨N,ρ,s⟩=some ⟨N,ρ',s'⟩)/\HN (Em env') ρ'/\K env' s':=by
 unfold ABz at h;split at h
 .rename_i Xq
  obtain⟨Jb,ρ1,s1,a1,a2,a3⟩:=I0 _ _ _ _ h hA;obtain⟨GR,ρ2,s2,acc,n,b1,b2,b3⟩:=Fy _ _ _ _ _ a3 a2;obtain⟨c1,c2⟩:=N5 hA b2 _ b3;refine⟨GR,ρ2,s2,n,λm hm=>?_,b2,c2⟩;simp[*,Xl,Vc]
 .obtain⟨Jb,ρ1,s1,a1,a2,a3⟩:=I0 _ _ _ _ h hA
  obtain⟨GR,ρ2,s2,acc,n,b1,b2,b3⟩:=Fy _ _ _ _ _ a3 a2;obtain⟨d1,d2⟩:=Uq hA b2 _ b3;obtain⟨c1,c2⟩:=N5 hA b2 _ d2;refine⟨GR,ρ2,s2,n,λm hm=>?_,b2,c2⟩;simp only[Xl,a1,b1 m hm,c1,Vc,d1,HB,Ie,AN]
end Go.Tel
