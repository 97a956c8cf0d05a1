/-
  What a piece of code needs so that it answers as wanted: definitions.
-/
import Derived.Test.YtpgfpakdnijngaaGreatDoorWvA
set_option linter.all false
namespace Go.Tel
abbrev En:=List (Nat×AV)
noncomputable abbrev EH (env:En) (t:Nat):Option AV:=
 List.rec (motive:=λ_=>Option AV) none (λ(p:Nat×AV) _ ih=>bif Nat.beq t p.1 then some p.2 else ih) env
abbrev MG (N:Nat) (d:Option Nat) (v:AV) (env:En) (K:En->Prop):Prop:=match d with
 | none=>K env
 | some d=>match Nat.blt d N with
  | true=>K ((d,v)::env)
  | false=>False
def gY (g:AV) (want:Bool) (A B:Prop):Prop:=match g with
 | .pv (.sc (.bool b))=>(b=want->A)/\(b≠want->B)
 | .tuple []=>B
 | _=>False
def Tl (g:AV) (want:Bool) (s:AQ) (W:(AV->AQ->Prop)->Prop) (K:AV->AQ->Prop):Prop:=gY g want (W K) (K (.tuple []) s)
abbrev J6 (ops:Array Oper) (lk:Lk) (o:Oper) (s:AQ) (W:(AV->AQ->Prop)->Prop) (K:AV->AQ->Prop):Prop:=match o.guard with
 | none=>W K
 | some (_,want)=>match Mf ops o with
  | none=>K (.tuple []) s
  | some d=>wO (lk d) λg=>Tl g want s W K
abbrev zc (E:Env) (L:BL) (lk:Lk) (s:AQ) (o:Oper) (K:AV->AQ->Prop):Prop:=match o.op with
 | .call c=>match c.callee with
  | .builtin _=>za E L lk s o K
  | .value f=>wO (Iz lk f) λf=>wO (rR lk c.args.toList) λargs=>He E L f args s K
  | _=>False
 | _=>za E L lk s o K
def wFu (L:BL) (s:AQ) (e:TypeId) (k bytes:Nat) (x y ix v:AV) (K:AV->AQ->Prop):Prop:=
 (∃z,rowsOf y=some [z]/\z.length=k/\(z.map AV.pv).all BD=true)/\HS ix=(rowsOf x).map List.length/\APZ L s e k bytes x v K
noncomputable abbrev ze (E:Env) (L:BL) (N:Nat) (k:JF) (env:En) (s:AQ) (K:En->AQ->Prop):Prop:=
 wO (OC E.P k.t) λe=>(L.mu e.1=false/\k.te=e.1/\e.2.2.length=e.2.1.size/\e.2.1.size≠0) /\
 wO (Iz (EH env) k.x) λx=>wO (Iz (EH env) k.y) λy=>wO (Iz (EH env) k.ix) λix=>wO (Iz (EH env) k.v) λv=>
  wFu L s e.1 e.2.1.size e.2.1.bytes x y ix v λr s=>MG N (some k.d) r env λenv=>MG N (some k.p) .Gh env λenv=>K env s
def AMX (L:BL) (s:AQ) (k bytes:Nat) (x y ix v:AV) (K:AV->AQ->Prop):Prop:=
 ∃id len old zs,x=.ref id 0 len k/\HS ix=some len/\C6 s k y=some zs/\s.bs[id]?=some old /\
  (zs.length=k/\zs.all BD=true/\(cellsOf v).length=k/\(cellsOf v).all BD=true/\len*k<=old.length/\alive s id=true/\(len+1)*bytes<=2 ^ 45/\len+1<=2 ^ 45/\L.ro<=id) /\
  K (.ref s.bs.length 0 (len+1) k) ⟨s.bs.set id []++[old.take (len*k)++cellsOf v],s.ts⟩
noncomputable abbrev zf (E:Env) (L:BL) (N:Nat) (k:JF) (env:En) (s:AQ) (K:En->AQ->Prop):Prop:=
 wO (OC E.P k.t) λe=>match L.mu e.1 with
 | false=>(L.mu e.1=false/\k.te=e.1/\e.2.2.length=e.2.1.size/\e.2.1.size≠0) /\
  wO (Iz (EH env) k.x) λx=>wO (Iz (EH env) k.y) λy=>wO (Iz (EH env) k.ix) λix=>wO (Iz (EH env) k.v) λv=>
   wFu L s e.1 e.2.1.size e.2.1.bytes x y ix v λr s=>MG N (some k.d) r env λenv=>MG N (some k.p) .Gh env λenv=>K env s
 | true=>(k.te=e.1/\e.2.2.length=e.2.1.size/\e.2.1.size≠0) /\
  wO (Iz (EH env) k.x) λx=>wO (Iz (EH env) k.y) λy=>wO (Iz (EH env) k.ix) λix=>wO (Iz (EH env) k.v) λv=>
   AMX L s e.2.1.size e.2.1.bytes x y ix v λr s=>MG N (some k.d) r env λenv=>MG N (some k.p) .Gh env λenv=>K env s
def ACO (a r:AV):Prop:=∀id o FO q l z,a=.ptr id o->r=.ref FO q l z->id≠FO
inductive Ins where
 | one (o:Oper)
 | fus (k:JF)
def insts:List Oper->List Ins
 | []=>[]
 | o::rest=>
  let one:=Ins.one o::insts rest
  match rest with
  | o1::o2::rest'=>match fused o o1 o2 with
   | some k=>.fus k::insts rest'
   | none=>one
  | _=>one
noncomputable abbrev Aa2 (E:Env) (L:BL) (N:Nat) (ops:Array Oper) (l:List Ins):En->AQ->(En->AQ->Prop)->Prop:=
 List.rec (motive:=λ_=>En->AQ->(En->AQ->Prop)->Prop) (λenv s K=>K env s)
  (λ(i:Ins) _ ih env s K=>match i with
   | .one o=>J6 ops (EH env) o s (zc E L (EH env) s o) λv s=>MG N o.dst v env λenv=>ih env s K
   | .fus k=>ze E L N k env s λenv s=>ih env s K) l
noncomputable abbrev WZ (E:Env) (L:BL) (N:Nat) (ops:Array Oper) (l:List Oper) (env:En) (s:AQ) (K:En->AQ->Prop):Prop:=Aa2 E L N ops (insts l) env s K
abbrev RS (E:Env) (L:BL) (o:Oper):Bool:=match o.op with
 | .alloc _|.box _ _|.store _ _ _|.makeMap _ _|.mapUpdate _ _ _ _|.insert _ _ _ _=>false
 | .makeSlice _ _ _=>false
 | .call { callee:=.builtin .delete,.. }=>false
 | .buildSlice t _ _=>match E.P.underlying t with
  | some (.slice elem)=>!muL L elem
  | _=>false
 | .call { callee:=.builtin .append,.. }=>false
 | _=>true
abbrev Oo (E:Env) (L:BL) (ops:Array Oper) (lk:Lk) (s:AQ) (o:Oper) (K:AV->Prop):Prop:=
 match RS E L o with
 | true=>J6 ops lk o s (za E L lk s o) λv _=>K v
 | false=>False
abbrev wH (E:Env) (lk:Lk) (o:Oper) (K:List AV->(Nat->AV)->Prop):Prop:=match o.op with
 | .alloc t=>wO (zeroOf E.P t) λz=>match E.bz t with
  | true=>False
  | false=>K z (λid=>.ptr id 0)
 | _=>∃cs mk,(∀U,Hj lk U->hcells E U o=some (cs,mk))/\K cs mk
noncomputable abbrev Ve (E:Env) (L:BL) (N:Nat) (ops:Array Oper) (cls:List aK) (l:List Nat):En->AQ->(En->AQ->Prop)->Prop:=
 List.rec (motive:=λ_=>En->AQ->(En->AQ->Prop)->Prop) (λenv s K=>K env s)
  (λ(i:Nat) _ ih env s K=>match ops[i]?,cls[i]? with
   | some o,some (.q _)=>Oo E L ops (EH env) s o λv=>MG N o.dst v env λenv=>ih env s K
   | some o,some (.h _)=>wH E (EH env) o λcs mk=>MG N o.dst (mk s.bs.length) env λenv=>ih env ⟨s.bs++[cs],s.ts⟩ K
   | _,_=>False) l
noncomputable abbrev QN (E:Env) (L:BL) (N:Nat) (ops:Array Oper) (cls:List aK) (l:List Nat):En->AQ->List AQ->(En->AQ->List AQ->Prop)->Prop:=
 List.rec (motive:=λ_=>En->AQ->List AQ->(En->AQ->List AQ->Prop)->Prop) (λenv s acc K=>K env s acc)
  (λ(i:Nat) _ ih env s acc K=>match ops[i]?,cls[i]? with
   | some o,some (.q _)=>Oo E L ops (EH env) s o λv=>MG N o.dst v env λenv=>ih env s acc K
   | some o,some (.w _)=>J6 ops (EH env) o s (zc E L (EH env) s o) λv s=>MG N o.dst v env λenv=>ih env s (s::acc) K
   | some o,some (.fa _ j x)=>match ops[j]?,ops[x]? with
    | some o1,some o2=>match fused o o1 o2 with
     | some k=>zf E L N k env s λenv s=>ih env s (s::acc) K
     | none=>False
    | _,_=>False
   | some _,some .fj=>ih env s acc K
   | some _,some .fx=>ih env s acc K
   | _,_=>False) l
noncomputable abbrev aH (GG:List (List Nat)) (FD EW:En) (i t:Nat):Option AV:=bif has (Hr GG i) t then EH FD t else EH EW t
noncomputable abbrev AMY (E:Env) (L:BL) (ops:Array Oper) (cls:List aK) (GG:List (List Nat)) (FD EW:En) (σ:List AQ) (l:List (Nat×Nat)) (K:Prop):Prop:=
 List.rec (motive:=λ_=>Prop) K
  (λ(p:Nat×Nat) _ ih=>(match ops[p.1]?,cls[p.1]?,σ[p.2]? with
   | some o,some (.q _),some s=>Oo E L ops (aH GG FD EW p.1) s o λv=>match o.dst with
    | some d=>wO (EH EW d) λu=>Dg v u=true
    | none=>True
   | some o,some (.h _),some s=>wH E (aH GG FD EW p.1) o λcs _=>match o.dst with
    | some d=>wO (EH EW d) λu=>wO (KC u) λid=>wO s.bs[id]? λcs'=>JG cs' cs=true
    | none=>False
   | _,_,_=>False)/\ih) l
noncomputable abbrev Wa (ops:Array Oper) (p:Bl) (FD EW:En) (r:AV) (l:List Nat) (K:Prop):Prop:=
 List.rec (motive:=λ_=>Prop) K (λ(m:Nat) _ ih=>match ops[m]?,p.cls[m]? with
  | some om,some (.w _)=>match om.op with
   | .store _ y _=>(wO (Iz (aH p.GG FD EW m) y) λa=>ACO a r)/\ih
   | _=>ih
  | _,_=>ih) l
noncomputable abbrev RU (E:Env) (L:BL) (ops:Array Oper) (p:Bl) (FD EW:En) (l:List Nat) (K:Prop):Prop:=
 List.rec (motive:=λ_=>Prop) K (λ(i:Nat) _ ih=>match p.cls[i]? with
  | some (.fa _ j x)=>match QX E L ops i j x with
   | true=>match ops[i]? with
    | some o=>match o.dst with
     | some d=>wO (EH EW d) λr=>Wa ops p FD EW r p.rest ih
     | none=>ih
    | none=>ih
   | false=>ih
  | _=>ih) l
noncomputable abbrev zg (E:Env) (L:BL) (N:Nat) (p:Bl) (ops:Array Oper) (env:En) (s:AQ) (K:En->AQ->Prop):Prop:=match n7 E L ops p.cls p.rest with
 | true=>Ve E L N ops p.cls p.first env s λJ7 s1=>QN E L N ops p.cls p.rest J7 s1 [s1] λGg s2 acc=>AMY E L ops p.cls p.GG env Gg acc.reverse p.Vo (K Gg s2)
 | false=>Ve E L N ops p.cls p.first env s λJ7 s1=>QN E L N ops p.cls p.rest J7 s1 [s1] λGg s2 acc=>RU E L ops p env Gg p.rest (AMY E L ops p.cls p.GG env Gg acc.reverse p.Vo (K Gg s2))
def sub:Code->List Nat->Code
 | c,[]=>c
 | .seq a b,i::p=>match i with
  | 0=>sub a p
  | _=>sub b p
 | .cond _ a b,i::p=>match i with
  | 0=>sub a p
  | _=>sub b p
 | .block _ b,_::p=>sub b p
 | .loop b,_::p=>sub b p
 | c,_=>c
def Aa3 (c:Code) (i:Nat):Oper:=match c with
 | .region _ ops _=>ops[i]?.getD ⟨none,.move (.tmp 0),0,"",#[],none⟩
 | _=>⟨none,.move (.tmp 0),0,"",#[],none⟩
def lU (E:Env) (L:BL) (s:AQ) (lk:Lk) (o:Oper) (K:AV->AQ->Prop):Prop:=WY E L lk s o K
def C0 (E:Env) (L:BL) (c:Code) (st:St) (o:Out) (st':St):Prop:=
 ∃n,∀m k,n<=m->n<=k->MZ E (EC E m) k L c st=some (o,st')
inductive Frame where
 | seq (b:Code)
 | blk (id:Nat)
 | loop (b:Code)
def SZ (E:Env) (L:BL) (Q:Out->St->Prop):List Frame->Out->St->Prop
 | [],o,st=>Q o st
 | .seq b::ks,o,st=>match o with
  | .norm=>∃o st',C0 E L b st o st'/\SZ E L Q ks o st'
  | o=>SZ E L Q ks o st
 | .blk id::ks,o,st=>match o with
  | .exit j=>bif Nat.beq j id then SZ E L Q ks .norm st else SZ E L Q ks (.exit j) st
  | o=>SZ E L Q ks o st
 | .loop b::ks,o,st=>match o with
  | .norm=>∃o st',C0 E L (.loop b) st o st'/\SZ E L Q ks o st'
  | o=>SZ E L Q ks o st
def Fin (E:Env) (rs:List ResultVar) (QR:AV->AQ->Prop) (o:Out) (st:St):Prop:=
 (∀id,o≠.exit id)/\∃vs,Fz E st rs=some vs/\QR (I2 vs) st.s
def Wp (E:Env) (L:BL) (N:Nat) (rs:List ResultVar) (c:Code) (ks:List Frame) (env:En) (s:AQ) (QR:AV->AQ->Prop):Prop:=
 ∀U,Hj (EH env) U->∃o st,C0 E L c ⟨N,U,s⟩ o st/\SZ E L (Fin E rs QR) ks o st
abbrev keyOf:Code->Option Nat
 | .region id _ _=>some id
 | .seq a b=>match keyOf a with
  | some k=>some k
  | none=>keyOf b
 | .cond _ a b=>match keyOf a with
  | some k=>some k
  | none=>keyOf b
 | .block _ b=>keyOf b
 | .loop b=>keyOf b
 | .rangeFunc _ _ a _=>keyOf a
 | _=>none
noncomputable abbrev prune (lv:Nat->List Nat) (c:Code) (env:En):En:=match keyOf c with
 | some k=>(lv k).filterMap λt=>match EH env t with
  | some v=>some (t,v)
  | none=>none
 | none=>env
noncomputable abbrev rV (E:Env) (lk:Lk) (s:AQ) (rs:List ResultVar):(List AV->Prop)->Prop:=
 List.rec (motive:=λ_=>(List AV->Prop)->Prop) (λK=>K [])
  (λ(r:ResultVar) _ ih K=>match r with
   | .tmp t=>wO (lk t) λv=>ih λvs=>K (v::vs)
   | .cell a t=>wO (lk a) λa=>wO (ldK E.P t) λk=>D5 E s k a λv=>ih λvs=>K (v::vs)) rs
def ER (c:AV) (A B:Prop):Prop:=match c with
 | .pv (.sc (.bool t))=>(t=true->A)/\(t=false->B)
 | _=>False
noncomputable abbrev wUE (E:Env) (L:BL) (N:Nat) (lv:Nat->List Nat) (rs:List ResultVar) (QR:AV->AQ->Prop) (ks:List Frame):Option Nat->En->AQ->Prop:=
 List.rec (motive:=λ_=>Option Nat->En->AQ->Prop)
  (λo env s=>match o with
   | none=>rV E (EH env) s rs λvs=>QR (I2 vs) s
   | some _=>False)
  (λ(fr:Frame) (ks:List Frame) ih o env s=>match fr with
   | .seq b=>match o with
    | none=>match b with
     | .ret=>rV E (EH env) s rs λvs=>QR (I2 vs) s
     | .skip=>ih none env s
     | .exit j=>ih (some j) env s
     | b=>Wp E L N rs b ks (prune lv b env) s QR
    | some j=>ih (some j) env s
   | .blk id=>match o with
    | none=>ih none env s
    | some j=>match Nat.beq j id with
     | true=>ih none env s
     | false=>ih (some j) env s
   | .loop b=>match o with
    | none=>Wp E L N rs (.loop b) ks (prune lv b env) s QR
    | some j=>ih (some j) env s) ks
abbrev rW (ct:Nat->Bool) (c:Code):Bool:=match keyOf c with
 | some k=>ct k
 | none=>false
noncomputable abbrev wpc (E:Env) (L:BL) (N:Nat) (lv:Nat->List Nat) (ct:Nat->Bool) (rs:List ResultVar) (QR:AV->AQ->Prop) (c:Code):List Frame->En->AQ->Prop:=
 Code.rec (motive:=λ_=>List Frame->En->AQ->Prop)
  (λks env s=>wUE E L N lv rs QR ks none env s)
  (λid ops d ks env s=>match d with
   | false=>WZ E L N ops ops.toList env s λenv s=>wUE E L N lv rs QR ks none env s
   | true=>wO (L.pl id) λp=>zg E L N p ops env s λenv s=>wUE E L N lv rs QR ks none env s)
  (λa b jI ZQ ks env s=>match a with
   | .region id ops d=>match d with
    | false=>WZ E L N ops ops.toList env s λenv s=>match rW ct b with
     | true=>Wp E L N rs b ks (prune lv b env) s QR
     | false=>ZQ ks env s
    | true=>wO (L.pl id) λp=>zg E L N p ops env s λenv s=>match rW ct b with
     | true=>Wp E L N rs b ks (prune lv b env) s QR
     | false=>ZQ ks env s
   | _=>jI (.seq b::ks) env s)
  (λc _ _ jI ZQ ks env s=>wO (Iz (EH env) c) λc=>ER c (jI ks env s) (ZQ ks env s))
  (λid _ ih ks env s=>ih (.blk id::ks) env s)
  (λb _ ks env s=>Wp E L N rs (.loop b) ks (prune lv b env) s QR)
  (λg ps a b _ _ ks env s=>Wp E L N rs (.rangeFunc g ps a b) ks (prune lv (.rangeFunc g ps a b) env) s QR)
  (λj ks env s=>wUE E L N lv rs QR ks (some j) env s)
  (λ_ _ _ _ _=>False)
  (λ_ _ _ _=>False)
  (λ_ _ _ _=>False)
  (λ_ env s=>rV E (EH env) s rs λvs=>QR (I2 vs) s)
  (λ_ _ _ _=>False) c
theorem Hj.put {env:En} {U:Nat->AV} (h:Hj (EH env) U) (d:Nat) (v:AV):Hj (EH ((d,v)::env)) (upd U d v):=by
 intro t u hu;have hu':(bif Nat.beq t d then some v else EH env t)=some u:=hu;unfold upd;cases hb:Nat.beq t d with
 | true=>grind
 | false=>rw[hb] at hu'; exact h t u hu'
theorem Em {N:Nat} {d:Option Nat} {v:AV} {env:En} {K:En->Prop} {U:Nat->AV} {s:AQ} (h:MG N d v env K) (hA:Hj (EH env) U) :
  ∃env' U',Ky ⟨N,U,s⟩ d v=some ⟨N,U',s⟩/\Hj (EH env') U'/\K env':=by
 cases d with
 | none=>exact⟨env,U,rfl,hA,h⟩
 | some d=>
  simp only[MG] at h;cases hb:Nat.blt d N with
  | false=>grind
  | true=>
   rw[hb] at h;exact⟨_,upd U d v,by simp[Ky,hb],hA.put d v,h⟩
theorem J8 {ops:Array Oper} {lk:Lk} {o:Oper} {s:AQ} {W:(AV->AQ->Prop)->Prop} {K:AV->AQ->Prop} {U:Nat->AV} (h:J6 ops lk o s W K) (hA:Hj lk U) :
  (FM ops U o=some true/\W K)\/(FM ops U o=some false/\K (.tuple []) s):=by
 unfold J6 at h;unfold FM;split at h
 .grind
 .rename_i j want hg
  rw[hg];simp only;split at h
  .grind
  .rename_i d ht
   rw[ht];obtain⟨g,h1,h⟩:=BT h;simp only[hA d g h1];unfold Tl gY at h;split at h
   .rename_i b
    by_cases hb:b=want
    all_goals grind
   all_goals grind
theorem Vf {E:Env} {L:BL} {lk:Lk} {s:AQ} {o:Oper} {K:AV->AQ->Prop} {U:Nat->AV} (h:zc E L lk s o K) (hA:Hj lk U) :
  ∃v s' n,(∀m,n<=m->OE E L (EC E m L) U s o=some (v,s'))/\K v s':=by
 have plain:za E L lk s o K->(∀cf,OE E L cf U s o=Ci E L U s o)->∃v s' n,(∀m,n<=m->OE E L (EC E m L) U s o=some (v,s'))/\K v s':=by
  intro h ho;obtain⟨v,s',h1,h2⟩:=YI hA h;exact⟨v,s',0,λm _=>by rw[ho,h1],h2⟩
 obtain⟨dst,op,type,pos,after,guard⟩:=o;cases op with
 | call c=>
  obtain⟨callee,args,ts⟩:=c;cases callee with
  | builtin b=>exact plain h λcf=>rfl
  | value f=>
   obtain⟨fv,h1,h⟩:=BT h;obtain⟨as,h2,h⟩:=BT h;unfold He at h;split at h
   .rename_i g first captured
    obtain⟨v,s',⟨n,hn⟩,hK⟩:=h;refine⟨v,s',n,λm hm=>?_,hK⟩
    grind[OE,Lh,CV,aF]
   grind
  | _=>grind
 | _=>exact plain h λcf=>by rfl
theorem rX {L:BL} {s:AQ} {e:TypeId} {i:TypeInfo} {x y ix v:AV} {K:AV->AQ->Prop} (h:wFu L s e i.size i.bytes x y ix v K) :
  ∃z n rows row r s',rowsOf y=some [z]/\z.length=i.size/\(z.map AV.pv).all BD=true/\HS ix=some n/\rowsOf x=some rows/\n=rows.length/\Cp (cellsOf v)=some row/\row.length=i.size/\(cellsOf v).all BD=true /\
   Kz L s e i x row=some (r,s')/\K r s':=by
 obtain⟨⟨z,h1,h2,h3⟩,h4,h5,h⟩:=h
 grind[rowsOf,Kz]
theorem Vg {E:Env} {L:BL} {N:Nat} {k:JF} {env:En} {s:AQ} {K:En->AQ->Prop} {U:Nat->AV} (h:ze E L N k env s K) (hA:Hj (EH env) U) :
  ∃v s' env' U',Jg E L U s k=some (v,s')/\Ke ⟨N,U,s⟩ k v s'=some ⟨N,U',s'⟩/\Hj (EH env') U'/\K env' s':=by
 obtain⟨e,h1,⟨h2,h3,h4,h5⟩,h⟩:=BT h;obtain⟨x,hx,h⟩:=BT h;obtain⟨y,hy,h⟩:=BT h;obtain⟨ix,TN,h⟩:=BT h;obtain⟨v,hv,h⟩:=BT h;obtain⟨e1,e2,e3⟩:=Nu h1;obtain⟨z,n,rows,row,r,s',k1,k2,k3,k4,k5,k6,k7,k8,k9,zw,sF⟩:=rX h;obtain⟨J7,U1,p1,p2,p3⟩:=Em (s:=s') sF hA;obtain⟨Gg,U2,q1,q2,q3⟩:=Em (s:=s') p3 p2
 grind[Jg,CV,Ke]
theorem jv {L:BL} {s:AQ} {i:TypeInfo} {x y ix v:AV} {K:AV->AQ->Prop} (h:AMX L s i.size i.bytes x y ix v K) {E:Env} {k:JF} {e:TypeId} {z:List AV} {U:Nat->AV}
  (e1:E.P.underlying k.t=some (.slice e)) (e2:E.P.info? e=some i) (e3:zeroOf E.P e=some z) (h2:L.mu e=true) (h3:k.te=e) (h4:z.length=i.size) (h5:i.size≠0)
  (hx:Am U k.x=x) (hy:Am U k.y=y) (TN:Am U k.ix=ix) (hv:Am U k.v=v) :
  ∃r s',K0 E L U s k=some (r,s')/\K r s':=by
 obtain⟨id,len,old,zs,rfl,k1,k2,k3,⟨k4,k5,k6,k7,k8,k9,zw,sF,zx⟩,k13⟩:=h;refine⟨_,_,?_,k13⟩
 have ha:Jg E L U s k=none:=by
  unfold Jg;simp only[e1];rw[if_neg (by rw[h2]; simp)]
 rw[K0,ha];unfold We;simp only[e1,e2,e3,hx,hy,TN,hv,k1,k2,k3,NQ];rw[if_pos ⟨h2,h3⟩];exact if_pos ⟨Ap,k4,k6,k7,k5,h5,by simp[h4],Ap,Ap,k8,k9,zw,sF,zx⟩
theorem fI {E:Env} {L:BL} {N:Nat} {k:JF} {env:En} {s:AQ} {K:En->AQ->Prop} {U:Nat->AV} (h:zf E L N k env s K) (hA:Hj (EH env) U) :
  ∃v s' env' U',K0 E L U s k=some (v,s')/\Ke ⟨N,U,s⟩ k v s'=some ⟨N,U',s'⟩/\Hj (EH env') U'/\K env' s':=by
 obtain⟨e,h1,h⟩:=BT h;split at h
 .obtain⟨v,s',env',U',a1,a2⟩:=Vg (K:=K) (show ze E L N k env s K by unfold ze; rw[h1]; exact h) hA
  exact⟨v,s',env',U',by rw[K0,a1],a2⟩
 .rename_i Yl
  obtain⟨⟨h3,h4,h5⟩,h⟩:=h;obtain⟨x,hx,h⟩:=BT h;obtain⟨y,hy,h⟩:=BT h;obtain⟨ix,TN,h⟩:=BT h;obtain⟨v,hv,h⟩:=BT h;obtain⟨e1,e2,e3⟩:=Nu h1;obtain⟨r,s',zw,sF⟩:=jv h e1 e2 e3 Yl h3 h4 h5 (CV hA hx) (CV hA hy) (CV hA TN) (CV hA hv);obtain⟨J7,U1,p1,p2,p3⟩:=Em (s:=s') sF hA;obtain⟨Gg,U2,q1,q2,q3⟩:=Em (s:=s') p3 p2;exact⟨r,s',Gg,U2,zw,by simp only[Ke,p1,q1],q2,q3⟩
theorem fJ {E:Env} {L:BL} {cf:Cx} {ops:Array Oper} {o:Oper} {rest:List Oper} {st:St} (hf:HV o rest=true):Iu E L cf ops (o::rest) st=match FM ops st.U o with
   | some true=>match N1 E L cf st o with
    | some st=>Iu E L cf ops rest st
    | none=>none
   | some false=>match Ky st o.dst (.tuple []) with
    | some st=>Iu E L cf ops rest st
    | none=>none
   | none=>none:=by
 match rest,hf with
 | [],_=>rfl
 | [o1],_=>rfl
 | o1::o2::rest',hf=>
  grind[Iu,HV]
theorem rY {o:Oper} {rest:List Oper} (hf:HV o rest=true):insts (o::rest)=.one o::insts rest:=by
 match rest,hf with
 | [],_=>rfl
 | [o1],_=>rfl
 | o1::o2::rest',hf=>
  grind[insts,HV]
theorem zh {E:Env} {L:BL} {N:Nat} {ops:Array Oper} {o:Oper} {rest:List Oper} {env:En} {s:AQ} {K:En->AQ->Prop} (hf:HV o rest=true) :
  WZ E L N ops (o::rest) env s K=J6 ops (EH env) o s (zc E L (EH env) s o) λv s=>MG N o.dst v env λenv=>WZ E L N ops rest env s K:=by simp[*,WZ,rY]
theorem zi {E:Env} {L:BL} {N:Nat} {ops:Array Oper} {o o1 o2:Oper} {rest:List Oper} {env:En} {s:AQ} {K:En->AQ->Prop} {k:JF} (hk:fused o o1 o2=some k) :
  WZ E L N ops (o::o1::o2::rest) env s K=ze E L N k env s λenv s=>WZ E L N ops rest env s K:=by simp[*,insts,WZ]
theorem jx {E:Env} {L:BL} {N:Nat} {ops:Array Oper} {K:En->AQ->Prop}:∀(b:Nat) (l:List Oper),l.length<=b->∀(env:En) (s:AQ) (U:Nat->AV),WZ E L N ops l env s K->Hj (EH env) U ->
  ∃env' U' s' n,(∀m,n<=m->Iu E L (EC E m L) ops l ⟨N,U,s⟩=some ⟨N,U',s'⟩)/\Hj (EH env') U'/\K env' s':=by
 intro b
 induction b with
 | zero=>
  intro l hl env s U h hA;have:l=[]:=kH.1 AA;subst this;exact⟨env,U,s,0,λm _=>rfl,hA,h⟩
 | succ b ih=>
  intro l hl env s U h hA;cases l with
  | nil=>exact⟨env,U,s,0,λm _=>rfl,hA,h⟩
  | cons o rest=>
   have hl':rest.length<=b:=by simpa using hl
   cases hf:HV o rest with
   | true=>
    rw[zh hf] at h;rcases J8 h hA with ⟨hg,h⟩|⟨hg,h⟩
    .obtain⟨v,s1,n1,h1,h2⟩:=Vf h hA
     obtain⟨J7,U1,p1,p2,p3⟩:=Em (s:=s1) h2 hA;obtain⟨Gg,U2,s2,n2,q1,q2,q3⟩:=ih rest hl' J7 s1 U1 p3 p2;refine⟨Gg,U2,s2,n1+n2,λm hm=>?_,q2,q3⟩;rw[fJ hf];simp only[hg,N1,h1 m AA,p1];exact q1 m AA
    .obtain⟨J7,U1,p1,p2,p3⟩:=Em (s:=s) h hA
     obtain⟨Gg,U2,s2,n2,q1,q2,q3⟩:=ih rest hl' J7 s U1 p3 p2;refine⟨Gg,U2,s2,n2,λm hm=>?_,q2,q3⟩;rw[fJ hf];simp only[hg,p1];exact q1 m hm
   | false=>
    match rest,hf,hl',h with
    | [],hf,_,_=>simp_all[HV]
    | [o1],hf,_,_=>simp[HV] at hf
    | o1::o2::rest',hf,hl',h=>
     cases hk:fused o o1 o2 with
     | none=>simp_all[HV]
     | some k=>
      rw[zi hk] at h;obtain⟨v,s1,J7,U1,p1,p2,p3,p4⟩:=Vg h hA;obtain⟨Gg,U2,s2,n2,q1,q2,q3⟩:=ih rest' (by simp at hl'; omega) J7 s1 U1 p4 p3;refine⟨Gg,U2,s2,n2,λm hm=>?_,q2,q3⟩;simp[*,Iu]
theorem rZ {E:Env} {L:BL} {U:Nat->AV} {s s':AQ} {o:Oper} {v:AV} (hq:RS E L o=true) (h:Ci E L U s o=some (v,s')):Jh E L U s o=some v:=by grind[K1,Ei]
theorem MH {E:Env} {L:BL} {ops:Array Oper} {lk:Lk} {s:AQ} {o:Oper} {K:AV->Prop} {U:Nat->AV} (h:Oo E L ops lk s o K) (hA:Hj lk U):∃v,FN E L ops U s o=some v/\K v:=by
 unfold Oo at h;cases hq:RS E L o with
 | false=>simp_all
 | true=>
  rw[hq] at h;unfold FN;rcases J8 h hA with ⟨hg,h⟩|⟨hg,h⟩
  .obtain⟨v,s',h1,h2⟩:=YI hA h
   rw[hg];exact⟨v,rZ hq h1,h2⟩
  simp[*]
theorem fK {E:Env} {lk:Lk} {o:Oper} {K:List AV->(Nat->AV)->Prop} {U:Nat->AV} (h:wH E lk o K) (hA:Hj lk U):∃cs mk,hcells E U o=some (cs,mk)/\K cs mk:=by grind[BT,hcells]
theorem JW {E:Env} {L:BL} {N:Nat} {ops:Array Oper} {cls:List aK} {K:En->AQ->Prop}:∀(l:List Nat) (env:En) (s:AQ) (U:Nat->AV),Ve E L N ops cls l env s K->Hj (EH env) U ->
  ∃env' U' s',Ji E L ops cls l ⟨N,U,s⟩=some ⟨N,U',s'⟩/\Hj (EH env') U'/\K env' s'
 | [],env,s,U,h,hA=>⟨env,U,s,rfl,hA,h⟩
 | i::rest,env,s,U,h,hA=>by
  change (match ops[i]?,cls[i]? with
   | some o,some (.q _)=>Oo E L ops (EH env) s o λv=>MG N o.dst v env λenv=>Ve E L N ops cls rest env s K
   | some o,some (.h _)=>wH E (EH env) o λcs mk=>MG N o.dst (mk s.bs.length) env λenv=>Ve E L N ops cls rest env ⟨s.bs++[cs],s.ts⟩ K
   | _,_=>False) at h
  split at h
  .rename_i o ts ho hc
   obtain⟨v,h1,h2⟩:=MH h hA;obtain⟨J7,U1,p1,p2,p3⟩:=Em (s:=s) h2 hA;obtain⟨Gg,U2,s2,q1,q2,q3⟩:=JW rest J7 s U1 p3 p2;refine⟨Gg,U2,s2,?_,q2,q3⟩;simp[*,Ji]
  .rename_i o ts ho hc
   obtain⟨cs,mk,h1,h2⟩:=fK h hA;obtain⟨J7,U1,p1,p2,p3⟩:=Em (s:=⟨s.bs++[cs],s.ts⟩) h2 hA;obtain⟨Gg,U2,s2,q1,q2,q3⟩:=JW rest J7 _ U1 p3 p2;refine⟨Gg,U2,s2,?_,q2,q3⟩;simp[*,Ji]
  grind
theorem GF {E:Env} {L:BL} {N:Nat} {ops:Array Oper} {cls:List aK} {K:En->AQ->List AQ->Prop}:∀(l:List Nat) (env:En) (s:AQ) (acc:List AQ) (U:Nat->AV),QN E L N ops cls l env s acc K->Hj (EH env) U ->
  ∃env' U' s' acc' n,(∀m,n<=m->HT E L (EC E m L) ops cls l ⟨N,U,s⟩ acc=some (⟨N,U',s'⟩,acc'))/\Hj (EH env') U'/\K env' s' acc'
 | [],env,s,acc,U,h,hA=>⟨env,U,s,acc,0,λ_ _=>rfl,hA,h⟩
 | i::rest,env,s,acc,U,h,hA=>by
  change (match ops[i]?,cls[i]? with
   | some o,some (.q _)=>Oo E L ops (EH env) s o λv=>MG N o.dst v env λenv=>QN E L N ops cls rest env s acc K
   | some o,some (.w _)=>J6 ops (EH env) o s (zc E L (EH env) s o) λv s=>MG N o.dst v env λenv=>QN E L N ops cls rest env s (s::acc) K
   | some o,some (.fa _ j x)=>match ops[j]?,ops[x]? with
    | some o1,some o2=>match fused o o1 o2 with
     | some k=>zf E L N k env s λenv s=>QN E L N ops cls rest env s (s::acc) K
     | none=>False
    | _,_=>False
   | some _,some .fj=>QN E L N ops cls rest env s acc K
   | some _,some .fx=>QN E L N ops cls rest env s acc K
   | _,_=>False) at h
  split at h
  .rename_i o ts ho hc
   obtain⟨v,h1,h2⟩:=MH h hA;obtain⟨J7,U1,p1,p2,p3⟩:=Em (s:=s) h2 hA;obtain⟨Gg,U2,s2,OY,n2,q1,q2,q3⟩:=GF rest J7 s acc U1 p3 p2;refine⟨Gg,U2,s2,OY,n2,λm hm=>?_,q2,q3⟩;simp only[HT,ho,hc,h1,p1];exact q1 m hm
  .rename_i o r ho hc
   have:∃v s1 n1,(∀m,n1<=m->OG E L (EC E m L) ops U s o=some (v,s1))/\MG N o.dst v env λenv=>QN E L N ops cls rest env s1 (s1::acc) K:=by
    rcases J8 h hA with ⟨hg,h⟩|⟨hg,h⟩
    .obtain⟨v,s1,n1,h1,h2⟩:=Vf h hA
     exact⟨v,s1,n1,λm hm=>by simp only[OG,hg,h1 m hm],h2⟩
    .exact⟨_,s,0,λm hm=>by simp only[OG,hg],h⟩
   obtain⟨v,s1,n1,h1,h2⟩:=this;obtain⟨J7,U1,p1,p2,p3⟩:=Em (s:=s1) h2 hA;obtain⟨Gg,U2,s2,OY,n2,q1,q2,q3⟩:=GF rest J7 s1 _ U1 p3 p2;refine⟨Gg,U2,s2,OY,n1+n2,λm hm=>?_,q2,q3⟩;simp only[HT,ho,hc,h1 m AA,p1];exact q1 m AA
  .rename_i o r j x ho hc
   split at h
   .rename_i o1 o2 hj hx
    split at h
    .rename_i k hk
     obtain⟨v,s1,J7,U1,p1,p2,p3,p4⟩:=fI h hA;obtain⟨Gg,U2,s2,OY,n2,q1,q2,q3⟩:=GF rest J7 s1 _ U1 p4 p3;refine⟨Gg,U2,s2,OY,n2,λm hm=>?_,q2,q3⟩;simp only[HT,ho,hc,hj,hx,hk,p1,p2];exact q1 m hm
    .exact h.elim
   .exact h.elim
  .rename_i o ho hc
   obtain⟨Gg,U2,s2,OY,n2,q1,q2,q3⟩:=GF rest env s acc U h hA;refine⟨Gg,U2,s2,OY,n2,λm hm=>?_,q2,q3⟩;simp only[HT,ho,hc];exact q1 m hm
  .rename_i o ho hc
   obtain⟨Gg,U2,s2,OY,n2,q1,q2,q3⟩:=GF rest env s acc U h hA;refine⟨Gg,U2,s2,OY,n2,λm hm=>?_,q2,q3⟩;simp only[HT,ho,hc];exact q1 m hm
  .exact h.elim
theorem Hj.at_ {GG:List (List Nat)} {FD EW:En} {U0 Uf:Nat->AV} (h0:Hj (EH FD) U0) (hf:Hj (EH EW) Uf) (i:Nat):Hj (aH GG FD EW i) (Ft GG U0 Uf i):=by
 intro t v hv;unfold aH at hv;unfold Ft;cases hb:has (Hr GG i) t with
 | true=>rw[hb] at hv; exact h0 t v hv
 | false=>rw[hb] at hv; exact hf t v hv
theorem Oq {E:Env} {L:BL} {ops:Array Oper} {cls:List aK} {GG:List (List Nat)} {FD EW:En} {U0 Uf:Nat->AV} {σ:List AQ} (h0:Hj (EH FD) U0) (hf:Hj (EH EW) Uf) {K:Prop} :
  ∀l,AMY E L ops cls GG FD EW σ l K->fW E L ops cls GG U0 Uf σ l=true/\K
 | [],h=>⟨rfl,h⟩
 | (i,k)::rest,h=>by
  obtain⟨h,h'⟩:=h;obtain⟨r1,r2⟩:=Oq h0 hf rest h';refine⟨?_,r2⟩;simp only[fW,r1,JA];split at h
  .rename_i o ts s ho hc hs
   obtain⟨v,h1,h2⟩:=MH h (Hj.at_ h0 hf i);simp only[ho,hc,hs,h1];cases hd:o.dst with
   | none=>rfl
   | some d=>
    rw[hd] at h2;obtain⟨u,h3,h4⟩:=BT h2;simp only[hf d u h3,h4]
  .rename_i o ts s ho hc hs
   obtain⟨cs,mk,h1,h2⟩:=fK h (Hj.at_ h0 hf i);simp only[ho,hc,hs,h1];cases hd:o.dst with
   | none=>simp_all
   | some d=>
    rw[hd] at h2;obtain⟨u,h3,h4⟩:=BT h2;obtain⟨id,h5,h6⟩:=BT h4;obtain⟨cs',h7,h8⟩:=BT h6;simp only[hf d u h3,h5,h7,h8]
  simp[*]
theorem MI {ops:Array Oper} {p:Bl} {FD EW:En} {U0 Uf:Nat->AV} {FO off len sz:Nat} (h0:Hj (EH FD) U0) (hf:Hj (EH EW) Uf) {K:Prop} :
  ∀l,Wa ops p FD EW (.ref FO off len sz) l K->RY ops p U0 Uf FO l=true/\K
 | [],h=>⟨rfl,h⟩
 | m::l,h=>by
  change (match ops[m]?,p.cls[m]? with
   | some om,some (.w _)=>match om.op with
    | .store _ y _=>(wO (Iz (aH p.GG FD EW m) y) λa=>ACO a (.ref FO off len sz))/\Wa ops p FD EW (.ref FO off len sz) l K
    | _=>Wa ops p FD EW (.ref FO off len sz) l K
   | _,_=>Wa ops p FD EW (.ref FO off len sz) l K) at h
  rw[RY];split at h
  .rename_i om r ho hc
   simp only[ho,hc];split at h
   .rename_i t y z hop
    obtain⟨h1,h2⟩:=h;obtain⟨a,h3,h4⟩:=BT h1;obtain⟨h5,h6⟩:=MI h0 hf l h2;refine⟨?_,h6⟩;simp only[hop,CV (Hj.at_ h0 hf m) h3,h5,JA];split
    .rename_i id o
     have:=h4 id o FO off len sz rfl rfl;exact Bg Bool.not (Oz.2 λe=>this (CC e))
    .rfl
   .obtain⟨h5,h6⟩:=MI h0 hf l h
    refine⟨?_,h6⟩;rw[h5,JA];split
    .rename_i hn _ _ _ _ hop
     exact absurd hop (hn _ _ _)
    .rfl
  .rename_i hn
   obtain⟨h5,h6⟩:=MI h0 hf l h;refine⟨?_,h6⟩;rw[h5,JA];split
   .rename_i om r ho hc
    exact absurd hc (hn _ _ ho)
   .rfl
theorem Vh {E:Env} {L:BL} {ops:Array Oper} {p:Bl} {FD EW:En} {U0 Uf:Nat->AV} (h0:Hj (EH FD) U0) (hf:Hj (EH EW) Uf) {K:Prop} :
  ∀l,RU E L ops p FD EW l K->TI E L ops p U0 Uf l=true/\K
 | [],h=>⟨rfl,h⟩
 | i::l,h=>by
  change (match p.cls[i]? with
   | some (.fa _ j x)=>match QX E L ops i j x with
    | true=>match ops[i]? with
     | some o=>match o.dst with
      | some d=>wO (EH EW d) λr=>Wa ops p FD EW r p.rest (RU E L ops p FD EW l K)
      | none=>RU E L ops p FD EW l K
     | none=>RU E L ops p FD EW l K
    | false=>RU E L ops p FD EW l K
   | _=>RU E L ops p FD EW l K) at h
  have ri:RU E L ops p FD EW l K->TI E L ops p U0 Uf l=true/\K:=λh=>Vh h0 hf l h
  rw[TI];split at h
  .rename_i r j x hc
   simp only[hc];split at h
   .rename_i hm
    simp only[hm,AM];split at h
    .rename_i o ho
     simp only[ho];split at h
     .rename_i d hd
      obtain⟨r,h1,h2⟩:=BT h;simp only[hd,hf d r h1];cases r with
      | ref FO off len sz=>
       obtain⟨h3,h4⟩:=MI h0 hf _ h2;obtain⟨h5,h6⟩:=ri h4;exact⟨by simp only[h3,h5,JA],h6⟩
      | _=>exact(by
        have:∀(r:AV) (q:List Nat),(Wa ops p FD EW r q (RU E L ops p FD EW l K))->RU E L ops p FD EW l K:=λr q=>by
         induction q with
         | nil=>exact λh=>h
         | cons m q ih=>
          intro h
          change (match ops[m]?,p.cls[m]? with
           | some om,some (.w _)=>match om.op with
            | .store _ y _=>(wO (Iz (aH p.GG FD EW m) y) λa=>ACO a r)/\Wa ops p FD EW r q (RU E L ops p FD EW l K)
            | _=>Wa ops p FD EW r q (RU E L ops p FD EW l K)
           | _,_=>Wa ops p FD EW r q (RU E L ops p FD EW l K)) at h
          split at h
          .split at h
           .exact ih h.2
           .exact ih h
          .exact ih h
        obtain⟨h5,h6⟩:=ri (this _ _ h2);exact⟨by simp only[h5,JA],h6⟩)
     .rename_i hd
      simp only[hd];simpa using ri h
    .rename_i ho
     simp only[ho];simpa using ri h
   .rename_i hm
    simp only[hm,AK];simpa using ri h
  .rename_i hn
   obtain⟨h5,h6⟩:=ri h;refine⟨?_,h6⟩;rw[h5,JA];split
   .rename_i r j x hc
    exact absurd hc (hn _ _ _)
   .rfl
theorem jy {E:Env} {L:BL} {N:Nat} {p:Bl} {ops:Array Oper} {env:En} {s:AQ} {K:En->AQ->Prop} {U:Nat->AV} (h:zg E L N p ops env s K) (hA:Hj (EH env) U) :
  ∃env' U' s' n,(∀m,n<=m->Yf E L (EC E m L) p ops ⟨N,U,s⟩=some ⟨N,U',s'⟩)/\Hj (EH env') U'/\K env' s':=by
 unfold zg at h;split at h
 .rename_i Yl
  obtain⟨J7,U1,s1,a1,a2,a3⟩:=JW _ _ _ _ h hA;obtain⟨Gg,U2,s2,acc,n,b1,b2,b3⟩:=GF _ _ _ _ _ a3 a2;obtain⟨c1,c2⟩:=Oq hA b2 _ b3;refine⟨Gg,U2,s2,n,λm hm=>?_,b2,c2⟩;simp[*,Yf,Wh]
 .obtain⟨J7,U1,s1,a1,a2,a3⟩:=JW _ _ _ _ h hA
  obtain⟨Gg,U2,s2,acc,n,b1,b2,b3⟩:=GF _ _ _ _ _ a3 a2;obtain⟨d1,d2⟩:=Vh hA b2 _ b3;obtain⟨c1,c2⟩:=Oq hA b2 _ d2;refine⟨Gg,U2,s2,n,λm hm=>?_,b2,c2⟩;simp only[Yf,a1,b1 m hm,c1,Wh,d1,Dv,JA,AM]
end Go.Tel
