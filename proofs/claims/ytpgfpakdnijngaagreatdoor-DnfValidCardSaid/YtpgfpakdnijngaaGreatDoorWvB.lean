/-
  What a piece of code needs so that it answers as wanted: definitions.
-/
import Derived.Test.YtpgfpakdnijngaaGreatDoorWvA
set_option linter.all false
namespace Go.Tel
abbrev En:=List (Nat×AV)
noncomputable abbrev EH (env:En) (t:Nat):Option AV:=
 List.rec (motive:=λ_=>Option AV) none (λ(p:Nat×AV) _ ih=>bif Nat.beq t p.1 then some p.2 else ih) env
abbrev MK (N:Nat) (d:Option Nat) (v:AV) (env:En) (K:En->Prop):Prop:=match d with
 | none=>K env
 | some d=>match Nat.blt d N with
  | true=>K ((d,v)::env)
  | false=>False
def jG (g:AV) (want:Bool) (A B:Prop):Prop:=match g with
 | .pv (.sc (.bool b))=>(b=want->A)/\(b≠want->B)
 | .tuple []=>B
 | _=>False
def UI (g:AV) (want:Bool) (s:AQ) (W:(AV->AQ->Prop)->Prop) (K:AV->AQ->Prop):Prop:=jG g want (W K) (K (.tuple []) s)
abbrev KG (ops:Array Oper) (lk:Lk) (o:Oper) (s:AQ) (W:(AV->AQ->Prop)->Prop) (K:AV->AQ->Prop):Prop:=match o.guard with
 | none=>W K
 | some (_,want)=>match Mi ops o with
  | none=>K (.tuple []) s
  | some d=>wO (lk d) λg=>UI g want s W K
abbrev AAi (E:Env) (L:BI) (lk:Lk) (s:AQ) (o:Oper) (K:AV->AQ->Prop):Prop:=match o.op with
 | .call c=>match c.callee with
  | .builtin _=>wOp E L lk s o K
  | .value f=>wO (I8 lk f) λf=>wO (s7 lk c.args.toList) λargs=>D0 E L f args s K
  | _=>False
 | _=>wOp E L lk s o K
def wFu (L:BI) (s:AQ) (e:TypeId) (k bytes:Nat) (x y ix v:AV) (K:AV->AQ->Prop):Prop:=
 (∃z,rowsOf y=some [z]/\z.length=k/\(z.map AV.pv).all A7=true)/\He ix=(rowsOf x).map List.length/\AQY L s e k bytes x v K
noncomputable abbrev AAj (E:Env) (L:BI) (N:Nat) (k:JO) (env:En) (s:AQ) (K:En->AQ->Prop):Prop:=
 wO (OO E.P k.t) λe=>(L.mu e.1=false/\k.te=e.1/\e.2.2.length=e.2.1.size/\e.2.1.size≠0) /\
 wO (I8 (EH env) k.x) λx=>wO (I8 (EH env) k.y) λy=>wO (I8 (EH env) k.ix) λix=>wO (I8 (EH env) k.v) λv=>
  wFu L s e.1 e.2.1.size e.2.1.bytes x y ix v λr s=>MK N (some k.d) r env λenv=>MK N (some k.p) .Gm env λenv=>K env s
def ANa (L:BI) (s:AQ) (k bytes:Nat) (x y ix v:AV) (K:AV->AQ->Prop):Prop:=
 ∃id len old zs,x=.ref id 0 len k/\He ix=some len/\Cz s k y=some zs/\s.bs[id]?=some old /\
  (zs.length=k/\zs.all A7=true/\(cellsOf v).length=k/\(cellsOf v).all A7=true/\len*k<=old.length/\alive s id=true/\(len+1)*bytes<=2 ^ 45/\len+1<=2 ^ 45/\L.ro<=id) /\
  K (.ref s.bs.length 0 (len+1) k) ⟨s.bs.set id []++[old.take (len*k)++cellsOf v],s.ts⟩
noncomputable abbrev AAk (E:Env) (L:BI) (N:Nat) (k:JO) (env:En) (s:AQ) (K:En->AQ->Prop):Prop:=
 wO (OO E.P k.t) λe=>match L.mu e.1 with
 | false=>(L.mu e.1=false/\k.te=e.1/\e.2.2.length=e.2.1.size/\e.2.1.size≠0) /\
  wO (I8 (EH env) k.x) λx=>wO (I8 (EH env) k.y) λy=>wO (I8 (EH env) k.ix) λix=>wO (I8 (EH env) k.v) λv=>
   wFu L s e.1 e.2.1.size e.2.1.bytes x y ix v λr s=>MK N (some k.d) r env λenv=>MK N (some k.p) .Gm env λenv=>K env s
 | true=>(k.te=e.1/\e.2.2.length=e.2.1.size/\e.2.1.size≠0) /\
  wO (I8 (EH env) k.x) λx=>wO (I8 (EH env) k.y) λy=>wO (I8 (EH env) k.ix) λix=>wO (I8 (EH env) k.v) λv=>
   ANa L s e.2.1.size e.2.1.bytes x y ix v λr s=>MK N (some k.d) r env λenv=>MK N (some k.p) .Gm env λenv=>K env s
def ADI (a r:AV):Prop:=∀id o FV q l z,a=.ptr id o->r=.ref FV q l z->id≠FV
inductive Ins where
 | one (o:Oper)
 | fus (k:JO)
def insts:List Oper->List Ins
 | []=>[]
 | o::rest=>
  let one:=Ins.one o::insts rest
  match rest with
  | o1::o2::rest'=>match fused o o1 o2 with
   | some k=>.fus k::insts rest'
   | none=>one
  | _=>one
noncomputable abbrev Acs (E:Env) (L:BI) (N:Nat) (ops:Array Oper) (l:List Ins):En->AQ->(En->AQ->Prop)->Prop:=
 List.rec (motive:=λ_=>En->AQ->(En->AQ->Prop)->Prop) (λenv s K=>K env s)
  (λ(i:Ins) _ ih env s K=>match i with
   | .one o=>KG ops (EH env) o s (AAi E L (EH env) s o) λv s=>MK N o.dst v env λenv=>ih env s K
   | .fus k=>AAj E L N k env s λenv s=>ih env s K) l
noncomputable abbrev XF (E:Env) (L:BI) (N:Nat) (ops:Array Oper) (l:List Oper) (env:En) (s:AQ) (K:En->AQ->Prop):Prop:=Acs E L N ops (insts l) env s K
abbrev Rn (E:Env) (L:BI) (o:Oper):Bool:=match o.op with
 | .alloc _|.box _ _|.store _ _ _|.makeMap _ _|.mapUpdate _ _ _ _|.insert _ _ _ _=>false
 | .makeSlice _ _ _=>false
 | .call { callee:=.builtin .delete,.. }=>false
 | .buildSlice t _ _=>match E.P.underlying t with
  | some (.slice elem)=>!muL L elem
  | _=>false
 | .call { callee:=.builtin .append,.. }=>false
 | _=>true
abbrev O3 (E:Env) (L:BI) (ops:Array Oper) (lk:Lk) (s:AQ) (o:Oper) (K:AV->Prop):Prop:=
 match Rn E L o with
 | true=>KG ops lk o s (wOp E L lk s o) λv _=>K v
 | false=>False
abbrev wH (E:Env) (lk:Lk) (o:Oper) (K:List AV->(Nat->AV)->Prop):Prop:=match o.op with
 | .alloc t=>wO (zeroOf E.P t) λz=>match E.bz t with
  | true=>False
  | false=>K z (λid=>.ptr id 0)
 | _=>∃cs mk,(∀U,Hs lk U->hcells E U o=some (cs,mk))/\K cs mk
noncomputable abbrev WH (E:Env) (L:BI) (N:Nat) (ops:Array Oper) (cls:List bU) (l:List Nat):En->AQ->(En->AQ->Prop)->Prop:=
 List.rec (motive:=λ_=>En->AQ->(En->AQ->Prop)->Prop) (λenv s K=>K env s)
  (λ(i:Nat) _ ih env s K=>match ops[i]?,cls[i]? with
   | some o,some (.q _)=>O3 E L ops (EH env) s o λv=>MK N o.dst v env λenv=>ih env s K
   | some o,some (.h _)=>wH E (EH env) o λcs mk=>MK N o.dst (mk s.bs.length) env λenv=>ih env ⟨s.bs++[cs],s.ts⟩ K
   | _,_=>False) l
noncomputable abbrev Qg (E:Env) (L:BI) (N:Nat) (ops:Array Oper) (cls:List bU) (l:List Nat):En->AQ->List AQ->(En->AQ->List AQ->Prop)->Prop:=
 List.rec (motive:=λ_=>En->AQ->List AQ->(En->AQ->List AQ->Prop)->Prop) (λenv s acc K=>K env s acc)
  (λ(i:Nat) _ ih env s acc K=>match ops[i]?,cls[i]? with
   | some o,some (.q _)=>O3 E L ops (EH env) s o λv=>MK N o.dst v env λenv=>ih env s acc K
   | some o,some (.w _)=>KG ops (EH env) o s (AAi E L (EH env) s o) λv s=>MK N o.dst v env λenv=>ih env s (s::acc) K
   | some o,some (.fa _ j x)=>match ops[j]?,ops[x]? with
    | some o1,some o2=>match fused o o1 o2 with
     | some k=>AAk E L N k env s λenv s=>ih env s (s::acc) K
     | none=>False
    | _,_=>False
   | some _,some .fj=>ih env s acc K
   | some _,some .fx=>ih env s acc K
   | _,_=>False) l
noncomputable abbrev bR (GI:List (List Nat)) (FI EZ:En) (i t:Nat):Option AV:=bif has (Hx GI i) t then EH FI t else EH EZ t
noncomputable abbrev ANb (E:Env) (L:BI) (ops:Array Oper) (cls:List bU) (GI:List (List Nat)) (FI EZ:En) (σ:List AQ) (l:List (Nat×Nat)) (K:Prop):Prop:=
 List.rec (motive:=λ_=>Prop) K
  (λ(p:Nat×Nat) _ ih=>(match ops[p.1]?,cls[p.1]?,σ[p.2]? with
   | some o,some (.q _),some s=>O3 E L ops (bR GI FI EZ p.1) s o λv=>match o.dst with
    | some d=>wO (EH EZ d) λu=>C1 v u=true
    | none=>True
   | some o,some (.h _),some s=>wH E (bR GI FI EZ p.1) o λcs _=>match o.dst with
    | some d=>wO (EH EZ d) λu=>wO (KN u) λid=>wO s.bs[id]? λcs'=>Ij cs' cs=true
    | none=>False
   | _,_,_=>False)/\ih) l
noncomputable abbrev XG (ops:Array Oper) (p:Bl) (FI EZ:En) (r:AV) (l:List Nat) (K:Prop):Prop:=
 List.rec (motive:=λ_=>Prop) K (λ(m:Nat) _ ih=>match ops[m]?,p.cls[m]? with
  | some om,some (.w _)=>match om.op with
   | .store _ y _=>(wO (I8 (bR p.GI FI EZ m) y) λa=>ADI a r)/\ih
   | _=>ih
  | _,_=>ih) l
noncomputable abbrev Ro (E:Env) (L:BI) (ops:Array Oper) (p:Bl) (FI EZ:En) (l:List Nat) (K:Prop):Prop:=
 List.rec (motive:=λ_=>Prop) K (λ(i:Nat) _ ih=>match p.cls[i]? with
  | some (.fa _ j x)=>match Qm E L ops i j x with
   | true=>match ops[i]? with
    | some o=>match o.dst with
     | some d=>wO (EH EZ d) λr=>XG ops p FI EZ r p.rest ih
     | none=>ih
    | none=>ih
   | false=>ih
  | _=>ih) l
noncomputable abbrev AAl (E:Env) (L:BI) (N:Nat) (p:Bl) (ops:Array Oper) (env:En) (s:AQ) (K:En->AQ->Prop):Prop:=match pQ E L ops p.cls p.rest with
 | true=>WH E L N ops p.cls p.first env s λKH s1=>Qg E L N ops p.cls p.rest KH s1 [s1] λGl s2 acc=>ANb E L ops p.cls p.GI env Gl acc.reverse p.WV (K Gl s2)
 | false=>WH E L N ops p.cls p.first env s λKH s1=>Qg E L N ops p.cls p.rest KH s1 [s1] λGl s2 acc=>Ro E L ops p env Gl p.rest (ANb E L ops p.cls p.GI env Gl acc.reverse p.WV (K Gl s2))
def sub:Code->List Nat->Code
 | c,[]=>c
 | .seq a b,i::p=>match i with
  | 0=>sub a p
  | _=>sub b p
 | .cond _ a b,i::p=>match i with
  | 0=>sub a p
  | _=>sub b p
 | .block _ b,_::p=>sub b p
 | .loop b,_::p=>sub b p
 | c,_=>c
def Acu (c:Code) (i:Nat):Oper:=match c with
 | .region _ ops _=>ops[i]?.getD ⟨none,.move (.tmp 0),0,"",#[],none⟩
 | _=>⟨none,.move (.tmp 0),0,"",#[],none⟩
def mZ (E:Env) (L:BI) (s:AQ) (lk:Lk) (o:Oper) (K:AV->AQ->Prop):Prop:=XE E L lk s o K
def C0 (E:Env) (L:BI) (c:Code) (st:St) (o:Out) (st':St):Prop:=
 ∃n,∀m k,n<=m->n<=k->Mc E (Dw E m) k L c st=some (o,st')
inductive Frame where
 | seq (b:Code)
 | blk (id:Nat)
 | loop (b:Code)
def S0 (E:Env) (L:BI) (Q:Out->St->Prop):List Frame->Out->St->Prop
 | [],o,st=>Q o st
 | .seq b::ks,o,st=>match o with
  | .norm=>∃o st',C0 E L b st o st'/\S0 E L Q ks o st'
  | o=>S0 E L Q ks o st
 | .blk id::ks,o,st=>match o with
  | .exit j=>bif Nat.beq j id then S0 E L Q ks .norm st else S0 E L Q ks (.exit j) st
  | o=>S0 E L Q ks o st
 | .loop b::ks,o,st=>match o with
  | .norm=>∃o st',C0 E L (.loop b) st o st'/\S0 E L Q ks o st'
  | o=>S0 E L Q ks o st
def Fin (E:Env) (rs:List ResultVar) (QR:AV->AQ->Prop) (o:Out) (st:St):Prop:=
 (∀id,o≠.exit id)/\∃vs,F0 E st rs=some vs/\QR (JB vs) st.s
def Wp (E:Env) (L:BI) (N:Nat) (rs:List ResultVar) (c:Code) (ks:List Frame) (env:En) (s:AQ) (QR:AV->AQ->Prop):Prop:=
 ∀U,Hs (EH env) U->∃o st,C0 E L c ⟨N,U,s⟩ o st/\S0 E L (Fin E rs QR) ks o st
abbrev keyOf:Code->Option Nat
 | .region id _ _=>some id
 | .seq a b=>match keyOf a with
  | some k=>some k
  | none=>keyOf b
 | .cond _ a b=>match keyOf a with
  | some k=>some k
  | none=>keyOf b
 | .block _ b=>keyOf b
 | .loop b=>keyOf b
 | .rangeFunc _ _ a _=>keyOf a
 | _=>none
noncomputable abbrev prune (lv:Nat->List Nat) (c:Code) (env:En):En:=match keyOf c with
 | some k=>(lv k).filterMap λt=>match EH env t with
  | some v=>some (t,v)
  | none=>none
 | none=>env
noncomputable abbrev tB (E:Env) (lk:Lk) (s:AQ) (rs:List ResultVar):(List AV->Prop)->Prop:=
 List.rec (motive:=λ_=>(List AV->Prop)->Prop) (λK=>K [])
  (λ(r:ResultVar) _ ih K=>match r with
   | .tmp t=>wO (lk t) λv=>ih λvs=>K (v::vs)
   | .cell a t=>wO (lk a) λa=>wO (ldK E.P t) λk=>Df E s k a λv=>ih λvs=>K (v::vs)) rs
def Dc (c:AV) (A B:Prop):Prop:=match c with
 | .pv (.sc (.bool t))=>(t=true->A)/\(t=false->B)
 | _=>False
noncomputable abbrev wUE (E:Env) (L:BI) (N:Nat) (lv:Nat->List Nat) (rs:List ResultVar) (QR:AV->AQ->Prop) (ks:List Frame):Option Nat->En->AQ->Prop:=
 List.rec (motive:=λ_=>Option Nat->En->AQ->Prop)
  (λo env s=>match o with
   | none=>tB E (EH env) s rs λvs=>QR (JB vs) s
   | some _=>False)
  (λ(fr:Frame) (ks:List Frame) ih o env s=>match fr with
   | .seq b=>match o with
    | none=>match b with
     | .ret=>tB E (EH env) s rs λvs=>QR (JB vs) s
     | .skip=>ih none env s
     | .exit j=>ih (some j) env s
     | b=>Wp E L N rs b ks (prune lv b env) s QR
    | some j=>ih (some j) env s
   | .blk id=>match o with
    | none=>ih none env s
    | some j=>match Nat.beq j id with
     | true=>ih none env s
     | false=>ih (some j) env s
   | .loop b=>match o with
    | none=>Wp E L N rs (.loop b) ks (prune lv b env) s QR
    | some j=>ih (some j) env s) ks
abbrev tC (ct:Nat->Bool) (c:Code):Bool:=match keyOf c with
 | some k=>ct k
 | none=>false
noncomputable abbrev wpc (E:Env) (L:BI) (N:Nat) (lv:Nat->List Nat) (ct:Nat->Bool) (rs:List ResultVar) (QR:AV->AQ->Prop) (c:Code):List Frame->En->AQ->Prop:=
 Code.rec (motive:=λ_=>List Frame->En->AQ->Prop)
  (λks env s=>wUE E L N lv rs QR ks none env s)
  (λid ops d ks env s=>match d with
   | false=>XF E L N ops ops.toList env s λenv s=>wUE E L N lv rs QR ks none env s
   | true=>wO (L.pl id) λp=>AAl E L N p ops env s λenv s=>wUE E L N lv rs QR ks none env s)
  (λa b j4 aC ks env s=>match a with
   | .region id ops d=>match d with
    | false=>XF E L N ops ops.toList env s λenv s=>match tC ct b with
     | true=>Wp E L N rs b ks (prune lv b env) s QR
     | false=>aC ks env s
    | true=>wO (L.pl id) λp=>AAl E L N p ops env s λenv s=>match tC ct b with
     | true=>Wp E L N rs b ks (prune lv b env) s QR
     | false=>aC ks env s
   | _=>j4 (.seq b::ks) env s)
  (λc _ _ j4 aC ks env s=>wO (I8 (EH env) c) λc=>Dc c (j4 ks env s) (aC ks env s))
  (λid _ ih ks env s=>ih (.blk id::ks) env s)
  (λb _ ks env s=>Wp E L N rs (.loop b) ks (prune lv b env) s QR)
  (λg ps a b _ _ ks env s=>Wp E L N rs (.rangeFunc g ps a b) ks (prune lv (.rangeFunc g ps a b) env) s QR)
  (λj ks env s=>wUE E L N lv rs QR ks (some j) env s)
  (λ_ _ _ _ _=>False)
  (λ_ _ _ _=>False)
  (λ_ _ _ _=>False)
  (λ_ env s=>tB E (EH env) s rs λvs=>QR (JB vs) s)
  (λ_ _ _ _=>False) c
theorem Hs.put {env:En} {U:Nat->AV} (h:Hs (EH env) U) (d:Nat) (v:AV):Hs (EH ((d,v)::env)) (upd U d v):=by
 intro t u hu;have hu':(bif Nat.beq t d then some v else EH env t)=some u:=hu;unfold upd;cases hb:Nat.beq t d with
 | true=>grind
 | false=>rw[hb] at hu'; exact h t u hu'
theorem Ev {N:Nat} {d:Option Nat} {v:AV} {env:En} {K:En->Prop} {U:Nat->AV} {s:AQ} (h:MK N d v env K) (hA:Hs (EH env) U) :
  ∃env' U',K7 ⟨N,U,s⟩ d v=some ⟨N,U',s⟩/\Hs (EH env') U'/\K env':=by
 cases d with
 | none=>exact⟨env,U,rfl,hA,h⟩
 | some d=>
  simp only[MK] at h;cases hb:Nat.blt d N with
  | false=>grind
  | true=>
   rw[hb] at h;exact⟨_,upd U d v,by simp[K7,hb],hA.put d v,h⟩
theorem KI {ops:Array Oper} {lk:Lk} {o:Oper} {s:AQ} {W:(AV->AQ->Prop)->Prop} {K:AV->AQ->Prop} {U:Nat->AV} (h:KG ops lk o s W K) (hA:Hs lk U) :
  (FT ops U o=some true/\W K)\/(FT ops U o=some false/\K (.tuple []) s):=by
 unfold KG at h;unfold FT;split at h
 .grind
 .rename_i j want hg
  rw[hg];simp only;split at h
  .grind
  .rename_i d ht
   rw[ht];obtain⟨g,h1,h⟩:=BW h;simp only[hA d g h1];unfold UI jG at h;split at h
   .rename_i b
    by_cases hb:b=want
    all_goals grind
   all_goals grind
theorem WI {E:Env} {L:BI} {lk:Lk} {s:AQ} {o:Oper} {K:AV->AQ->Prop} {U:Nat->AV} (h:AAi E L lk s o K) (hA:Hs lk U) :
  ∃v s' n,(∀m,n<=m->OQ E L (Dw E m L) U s o=some (v,s'))/\K v s':=by
 have plain:wOp E L lk s o K->(∀cf,OQ E L cf U s o=Cl E L U s o)->∃v s' n,(∀m,n<=m->OQ E L (Dw E m L) U s o=some (v,s'))/\K v s':=by
  intro h ho;obtain⟨v,s',h1,h2⟩:=Y1 hA h;exact⟨v,s',0,λm _=>by rw[ho,h1],h2⟩
 obtain⟨dst,op,type,pos,after,guard⟩:=o;cases op with
 | call c=>
  obtain⟨callee,args,ts⟩:=c;cases callee with
  | builtin b=>exact plain h λcf=>rfl
  | value f=>
   obtain⟨fv,h1,h⟩:=BW h;obtain⟨as,h2,h⟩:=BW h;unfold D0 at h;split at h
   .rename_i g first captured
    obtain⟨v,s',⟨n,hn⟩,hK⟩:=h;refine⟨v,s',n,λm hm=>?_,hK⟩
    grind[OQ,Lr,CW,bQ]
   grind
  | _=>grind
 | _=>exact plain h λcf=>by rfl
theorem tD {L:BI} {s:AQ} {e:TypeId} {i:TypeInfo} {x y ix v:AV} {K:AV->AQ->Prop} (h:wFu L s e i.size i.bytes x y ix v K) :
  ∃z n rows row r s',rowsOf y=some [z]/\z.length=i.size/\(z.map AV.pv).all A7=true/\He ix=some n/\rowsOf x=some rows/\n=rows.length/\CD (cellsOf v)=some row/\row.length=i.size/\(cellsOf v).all A7=true /\
   K8 L s e i x row=some (r,s')/\K r s':=by
 obtain⟨⟨z,h1,h2,h3⟩,h4,h5,h⟩:=h
 grind[rowsOf,K8]
theorem WJ {E:Env} {L:BI} {N:Nat} {k:JO} {env:En} {s:AQ} {K:En->AQ->Prop} {U:Nat->AV} (h:AAj E L N k env s K) (hA:Hs (EH env) U) :
  ∃v s' env' U',Jl E L U s k=some (v,s')/\Ks ⟨N,U,s⟩ k v s'=some ⟨N,U',s'⟩/\Hs (EH env') U'/\K env' s':=by
 obtain⟨e,h1,⟨h2,h3,h4,h5⟩,h⟩:=BW h;obtain⟨x,hx,h⟩:=BW h;obtain⟨y,hy,h⟩:=BW h;obtain⟨ix,Tp,h⟩:=BW h;obtain⟨v,hv,h⟩:=BW h;obtain⟨e1,e2,e3⟩:=N1 h1;obtain⟨z,n,rows,row,r,s',k1,k2,k3,k4,k5,k6,k7,k8,k9,k10,tT⟩:=tD h;obtain⟨KH,U1,p1,p2,p3⟩:=Ev (s:=s') tT hA;obtain⟨Gl,U2,q1,q2,q3⟩:=Ev (s:=s') p3 p2
 grind[Jl,CW,Ks]
theorem lD {L:BI} {s:AQ} {i:TypeInfo} {x y ix v:AV} {K:AV->AQ->Prop} (h:ANa L s i.size i.bytes x y ix v K) {E:Env} {k:JO} {e:TypeId} {z:List AV} {U:Nat->AV}
  (e1:E.P.underlying k.t=some (.slice e)) (e2:E.P.info? e=some i) (e3:zeroOf E.P e=some z) (h2:L.mu e=true) (h3:k.te=e) (h4:z.length=i.size) (h5:i.size≠0)
  (hx:Am U k.x=x) (hy:Am U k.y=y) (Tp:Am U k.ix=ix) (hv:Am U k.v=v) :
  ∃r s',K9 E L U s k=some (r,s')/\K r s':=by
 obtain⟨id,len,old,zs,rfl,k1,k2,k3,⟨k4,k5,k6,k7,k8,k9,k10,tT,k12⟩,k13⟩:=h;refine⟨_,_,?_,k13⟩
 have ha:Jl E L U s k=none:=by
  unfold Jl;simp only[e1];rw[if_neg (by rw[h2]; simp)]
 rw[K9,ha];unfold XK;simp only[e1,e2,e3,hx,hy,Tp,hv,k1,k2,k3,Na];rw[if_pos ⟨h2,h3⟩];exact if_pos ⟨Ai,k4,k6,k7,k5,h5,by simp[h4],Ai,Ai,k8,k9,k10,tT,k12⟩
theorem hY {E:Env} {L:BI} {N:Nat} {k:JO} {env:En} {s:AQ} {K:En->AQ->Prop} {U:Nat->AV} (h:AAk E L N k env s K) (hA:Hs (EH env) U) :
  ∃v s' env' U',K9 E L U s k=some (v,s')/\Ks ⟨N,U,s⟩ k v s'=some ⟨N,U',s'⟩/\Hs (EH env') U'/\K env' s':=by
 obtain⟨e,h1,h⟩:=BW h;split at h
 .obtain⟨v,s',env',U',a1,a2⟩:=WJ (K:=K) (show AAj E L N k env s K by unfold AAj; rw[h1]; exact h) hA
  exact⟨v,s',env',U',by rw[K9,a1],a2⟩
 .rename_i ZX
  obtain⟨⟨h3,h4,h5⟩,h⟩:=h;obtain⟨x,hx,h⟩:=BW h;obtain⟨y,hy,h⟩:=BW h;obtain⟨ix,Tp,h⟩:=BW h;obtain⟨v,hv,h⟩:=BW h;obtain⟨e1,e2,e3⟩:=N1 h1;obtain⟨r,s',k10,tT⟩:=lD h e1 e2 e3 ZX h3 h4 h5 (CW hA hx) (CW hA hy) (CW hA Tp) (CW hA hv);obtain⟨KH,U1,p1,p2,p3⟩:=Ev (s:=s') tT hA;obtain⟨Gl,U2,q1,q2,q3⟩:=Ev (s:=s') p3 p2;exact⟨r,s',Gl,U2,k10,by simp only[Ks,p1,q1],q2,q3⟩
theorem iA {E:Env} {L:BI} {cf:Cu} {ops:Array Oper} {o:Oper} {rest:List Oper} {st:St} (hf:Hh o rest=true):I4 E L cf ops (o::rest) st=match FT ops st.U o with
   | some true=>match N8 E L cf st o with
    | some st=>I4 E L cf ops rest st
    | none=>none
   | some false=>match K7 st o.dst (.tuple []) with
    | some st=>I4 E L cf ops rest st
    | none=>none
   | none=>none:=by
 match rest,hf with
 | [],_=>rfl
 | [o1],_=>rfl
 | o1::o2::rest',hf=>
  grind[I4,Hh]
theorem tE {o:Oper} {rest:List Oper} (hf:Hh o rest=true):insts (o::rest)=.one o::insts rest:=by
 match rest,hf with
 | [],_=>rfl
 | [o1],_=>rfl
 | o1::o2::rest',hf=>
  grind[insts,Hh]
theorem AAm {E:Env} {L:BI} {N:Nat} {ops:Array Oper} {o:Oper} {rest:List Oper} {env:En} {s:AQ} {K:En->AQ->Prop} (hf:Hh o rest=true) :
  XF E L N ops (o::rest) env s K=KG ops (EH env) o s (AAi E L (EH env) s o) λv s=>MK N o.dst v env λenv=>XF E L N ops rest env s K:=by simp[*,XF,tE]
theorem AAn {E:Env} {L:BI} {N:Nat} {ops:Array Oper} {o o1 o2:Oper} {rest:List Oper} {env:En} {s:AQ} {K:En->AQ->Prop} {k:JO} (hk:fused o o1 o2=some k) :
  XF E L N ops (o::o1::o2::rest) env s K=AAj E L N k env s λenv s=>XF E L N ops rest env s K:=by simp[*,insts,XF]
theorem lF {E:Env} {L:BI} {N:Nat} {ops:Array Oper} {K:En->AQ->Prop}:∀(b:Nat) (l:List Oper),l.length<=b->∀(env:En) (s:AQ) (U:Nat->AV),XF E L N ops l env s K->Hs (EH env) U ->
  ∃env' U' s' n,(∀m,n<=m->I4 E L (Dw E m L) ops l ⟨N,U,s⟩=some ⟨N,U',s'⟩)/\Hs (EH env') U'/\K env' s':=by
 intro b
 induction b with
 | zero=>
  intro l hl env s U h hA;have:l=[]:=ZJ.1 AA;subst this;exact⟨env,U,s,0,λm _=>rfl,hA,h⟩
 | succ b ih=>
  intro l hl env s U h hA;cases l with
  | nil=>exact⟨env,U,s,0,λm _=>rfl,hA,h⟩
  | cons o rest=>
   have hl':rest.length<=b:=by simpa using hl
   cases hf:Hh o rest with
   | true=>
    rw[AAm hf] at h;rcases KI h hA with ⟨hg,h⟩|⟨hg,h⟩
    .obtain⟨v,s1,n1,h1,h2⟩:=WI h hA
     obtain⟨KH,U1,p1,p2,p3⟩:=Ev (s:=s1) h2 hA;obtain⟨Gl,U2,s2,n2,q1,q2,q3⟩:=ih rest hl' KH s1 U1 p3 p2;refine⟨Gl,U2,s2,n1+n2,λm hm=>?_,q2,q3⟩;rw[iA hf];simp only[hg,N8,h1 m AA,p1];exact q1 m AA
    .obtain⟨KH,U1,p1,p2,p3⟩:=Ev (s:=s) h hA
     obtain⟨Gl,U2,s2,n2,q1,q2,q3⟩:=ih rest hl' KH s U1 p3 p2;refine⟨Gl,U2,s2,n2,λm hm=>?_,q2,q3⟩;rw[iA hf];simp only[hg,p1];exact q1 m hm
   | false=>
    match rest,hf,hl',h with
    | [],hf,_,_=>simp_all[Hh]
    | [o1],hf,_,_=>simp[Hh] at hf
    | o1::o2::rest',hf,hl',h=>
     cases hk:fused o o1 o2 with
     | none=>simp_all[Hh]
     | some k=>
      rw[AAn hk] at h;obtain⟨v,s1,KH,U1,p1,p2,p3,p4⟩:=WJ h hA;obtain⟨Gl,U2,s2,n2,q1,q2,q3⟩:=ih rest' (by simp at hl'; omega) KH s1 U1 p4 p3;refine⟨Gl,U2,s2,n2,λm hm=>?_,q2,q3⟩;simp[*,I4]
theorem tF {E:Env} {L:BI} {U:Nat->AV} {s s':AQ} {o:Oper} {v:AV} (hq:Rn E L o=true) (h:Cl E L U s o=some (v,s')):Jm E L U s o=some v:=by grind[LA,Em]
theorem ML {E:Env} {L:BI} {ops:Array Oper} {lk:Lk} {s:AQ} {o:Oper} {K:AV->Prop} {U:Nat->AV} (h:O3 E L ops lk s o K) (hA:Hs lk U):∃v,FU E L ops U s o=some v/\K v:=by
 unfold O3 at h;cases hq:Rn E L o with
 | false=>simp_all
 | true=>
  rw[hq] at h;unfold FU;rcases KI h hA with ⟨hg,h⟩|⟨hg,h⟩
  .obtain⟨v,s',h1,h2⟩:=Y1 hA h
   rw[hg];exact⟨v,tF hq h1,h2⟩
  simp[*]
theorem iB {E:Env} {lk:Lk} {o:Oper} {K:List AV->(Nat->AV)->Prop} {U:Nat->AV} (h:wH E lk o K) (hA:Hs lk U):∃cs mk,hcells E U o=some (cs,mk)/\K cs mk:=by grind[BW,hcells]
theorem Jc {E:Env} {L:BI} {N:Nat} {ops:Array Oper} {cls:List bU} {K:En->AQ->Prop}:∀(l:List Nat) (env:En) (s:AQ) (U:Nat->AV),WH E L N ops cls l env s K->Hs (EH env) U ->
  ∃env' U' s',Jn E L ops cls l ⟨N,U,s⟩=some ⟨N,U',s'⟩/\Hs (EH env') U'/\K env' s'
 | [],env,s,U,h,hA=>⟨env,U,s,rfl,hA,h⟩
 | i::rest,env,s,U,h,hA=>by
  change (match ops[i]?,cls[i]? with
   | some o,some (.q _)=>O3 E L ops (EH env) s o λv=>MK N o.dst v env λenv=>WH E L N ops cls rest env s K
   | some o,some (.h _)=>wH E (EH env) o λcs mk=>MK N o.dst (mk s.bs.length) env λenv=>WH E L N ops cls rest env ⟨s.bs++[cs],s.ts⟩ K
   | _,_=>False) at h
  split at h
  .rename_i o ts ho hc
   obtain⟨v,h1,h2⟩:=ML h hA;obtain⟨KH,U1,p1,p2,p3⟩:=Ev (s:=s) h2 hA;obtain⟨Gl,U2,s2,q1,q2,q3⟩:=Jc rest KH s U1 p3 p2;refine⟨Gl,U2,s2,?_,q2,q3⟩;simp[*,Jn]
  .rename_i o ts ho hc
   obtain⟨cs,mk,h1,h2⟩:=iB h hA;obtain⟨KH,U1,p1,p2,p3⟩:=Ev (s:=⟨s.bs++[cs],s.ts⟩) h2 hA;obtain⟨Gl,U2,s2,q1,q2,q3⟩:=Jc rest KH _ U1 p3 p2;refine⟨Gl,U2,s2,?_,q2,q3⟩;simp[*,Jn]
  grind
theorem GH {E:Env} {L:BI} {N:Nat} {ops:Array Oper} {cls:List bU} {K:En->AQ->List AQ->Prop}:∀(l:List Nat) (env:En) (s:AQ) (acc:List AQ) (U:Nat->AV),Qg E L N ops cls l env s acc K->Hs (EH env) U ->
  ∃env' U' s' acc' n,(∀m,n<=m->Hf E L (Dw E m L) ops cls l ⟨N,U,s⟩ acc=some (⟨N,U',s'⟩,acc'))/\Hs (EH env') U'/\K env' s' acc'
 | [],env,s,acc,U,h,hA=>⟨env,U,s,acc,0,λ_ _=>rfl,hA,h⟩
 | i::rest,env,s,acc,U,h,hA=>by
  change (match ops[i]?,cls[i]? with
   | some o,some (.q _)=>O3 E L ops (EH env) s o λv=>MK N o.dst v env λenv=>Qg E L N ops cls rest env s acc K
   | some o,some (.w _)=>KG ops (EH env) o s (AAi E L (EH env) s o) λv s=>MK N o.dst v env λenv=>Qg E L N ops cls rest env s (s::acc) K
   | some o,some (.fa _ j x)=>match ops[j]?,ops[x]? with
    | some o1,some o2=>match fused o o1 o2 with
     | some k=>AAk E L N k env s λenv s=>Qg E L N ops cls rest env s (s::acc) K
     | none=>False
    | _,_=>False
   | some _,some .fj=>Qg E L N ops cls rest env s acc K
   | some _,some .fx=>Qg E L N ops cls rest env s acc K
   | _,_=>False) at h
  split at h
  .rename_i o ts ho hc
   obtain⟨v,h1,h2⟩:=ML h hA;obtain⟨KH,U1,p1,p2,p3⟩:=Ev (s:=s) h2 hA;obtain⟨Gl,U2,s2,Om,n2,q1,q2,q3⟩:=GH rest KH s acc U1 p3 p2;refine⟨Gl,U2,s2,Om,n2,λm hm=>?_,q2,q3⟩;simp only[Hf,ho,hc,h1,p1];exact q1 m hm
  .rename_i o r ho hc
   have:∃v s1 n1,(∀m,n1<=m->OS E L (Dw E m L) ops U s o=some (v,s1))/\MK N o.dst v env λenv=>Qg E L N ops cls rest env s1 (s1::acc) K:=by
    rcases KI h hA with ⟨hg,h⟩|⟨hg,h⟩
    .obtain⟨v,s1,n1,h1,h2⟩:=WI h hA
     exact⟨v,s1,n1,λm hm=>by simp only[OS,hg,h1 m hm],h2⟩
    .exact⟨_,s,0,λm hm=>by simp only[OS,hg],h⟩
   obtain⟨v,s1,n1,h1,h2⟩:=this;obtain⟨KH,U1,p1,p2,p3⟩:=Ev (s:=s1) h2 hA;obtain⟨Gl,U2,s2,Om,n2,q1,q2,q3⟩:=GH rest KH s1 _ U1 p3 p2;refine⟨Gl,U2,s2,Om,n1+n2,λm hm=>?_,q2,q3⟩;simp only[Hf,ho,hc,h1 m AA,p1];exact q1 m AA
  .rename_i o r j x ho hc
   split at h
   .rename_i o1 o2 hj hx
    split at h
    .rename_i k hk
     obtain⟨v,s1,KH,U1,p1,p2,p3,p4⟩:=hY h hA;obtain⟨Gl,U2,s2,Om,n2,q1,q2,q3⟩:=GH rest KH s1 _ U1 p4 p3;refine⟨Gl,U2,s2,Om,n2,λm hm=>?_,q2,q3⟩;simp only[Hf,ho,hc,hj,hx,hk,p1,p2];exact q1 m hm
    .exact h.elim
   .exact h.elim
  .rename_i o ho hc
   obtain⟨Gl,U2,s2,Om,n2,q1,q2,q3⟩:=GH rest env s acc U h hA;refine⟨Gl,U2,s2,Om,n2,λm hm=>?_,q2,q3⟩;simp only[Hf,ho,hc];exact q1 m hm
  .rename_i o ho hc
   obtain⟨Gl,U2,s2,Om,n2,q1,q2,q3⟩:=GH rest env s acc U h hA;refine⟨Gl,U2,s2,Om,n2,λm hm=>?_,q2,q3⟩;simp only[Hf,ho,hc];exact q1 m hm
  .exact h.elim
theorem Hs.at_ {GI:List (List Nat)} {FI EZ:En} {U0 Uf:Nat->AV} (h0:Hs (EH FI) U0) (hf:Hs (EH EZ) Uf) (i:Nat):Hs (bR GI FI EZ i) (Fw GI U0 Uf i):=by
 intro t v hv;unfold bR at hv;unfold Fw;cases hb:has (Hx GI i) t with
 | true=>rw[hb] at hv; exact h0 t v hv
 | false=>rw[hb] at hv; exact hf t v hv
theorem O4 {E:Env} {L:BI} {ops:Array Oper} {cls:List bU} {GI:List (List Nat)} {FI EZ:En} {U0 Uf:Nat->AV} {σ:List AQ} (h0:Hs (EH FI) U0) (hf:Hs (EH EZ) Uf) {K:Prop} :
  ∀l,ANb E L ops cls GI FI EZ σ l K->iL E L ops cls GI U0 Uf σ l=true/\K
 | [],h=>⟨rfl,h⟩
 | (i,k)::rest,h=>by
  obtain⟨h,h'⟩:=h;obtain⟨r1,r2⟩:=O4 h0 hf rest h';refine⟨?_,r2⟩;simp only[iL,r1,JJ];split at h
  .rename_i o ts s ho hc hs
   obtain⟨v,h1,h2⟩:=ML h (Hs.at_ h0 hf i);simp only[ho,hc,hs,h1];cases hd:o.dst with
   | none=>rfl
   | some d=>
    rw[hd] at h2;obtain⟨u,h3,h4⟩:=BW h2;simp only[hf d u h3,h4]
  .rename_i o ts s ho hc hs
   obtain⟨cs,mk,h1,h2⟩:=iB h (Hs.at_ h0 hf i);simp only[ho,hc,hs,h1];cases hd:o.dst with
   | none=>simp_all
   | some d=>
    rw[hd] at h2;obtain⟨u,h3,h4⟩:=BW h2;obtain⟨id,h5,h6⟩:=BW h4;obtain⟨cs',h7,h8⟩:=BW h6;simp only[hf d u h3,h5,h7,h8]
  simp[*]
theorem MM {ops:Array Oper} {p:Bl} {FI EZ:En} {U0 Uf:Nat->AV} {FV off len sz:Nat} (h0:Hs (EH FI) U0) (hf:Hs (EH EZ) Uf) {K:Prop} :
  ∀l,XG ops p FI EZ (.ref FV off len sz) l K->Rq ops p U0 Uf FV l=true/\K
 | [],h=>⟨rfl,h⟩
 | m::l,h=>by
  change (match ops[m]?,p.cls[m]? with
   | some om,some (.w _)=>match om.op with
    | .store _ y _=>(wO (I8 (bR p.GI FI EZ m) y) λa=>ADI a (.ref FV off len sz))/\XG ops p FI EZ (.ref FV off len sz) l K
    | _=>XG ops p FI EZ (.ref FV off len sz) l K
   | _,_=>XG ops p FI EZ (.ref FV off len sz) l K) at h
  rw[Rq];split at h
  .rename_i om r ho hc
   simp only[ho,hc];split at h
   .rename_i t y z hop
    obtain⟨h1,h2⟩:=h;obtain⟨a,h3,h4⟩:=BW h1;obtain⟨h5,h6⟩:=MM h0 hf l h2;refine⟨?_,h6⟩;simp only[hop,CW (Hs.at_ h0 hf m) h3,h5,JJ];split
    .rename_i id o
     have:=h4 id o FV off len sz rfl rfl;exact Bi Bool.not (PD.2 λe=>this (B9 e))
    .rfl
   .obtain⟨h5,h6⟩:=MM h0 hf l h
    refine⟨?_,h6⟩;rw[h5,JJ];split
    .rename_i hn _ _ _ _ hop
     exact absurd hop (hn _ _ _)
    .rfl
  .rename_i hn
   obtain⟨h5,h6⟩:=MM h0 hf l h;refine⟨?_,h6⟩;rw[h5,JJ];split
   .rename_i om r ho hc
    exact absurd hc (hn _ _ ho)
   .rfl
theorem WL {E:Env} {L:BI} {ops:Array Oper} {p:Bl} {FI EZ:En} {U0 Uf:Nat->AV} (h0:Hs (EH FI) U0) (hf:Hs (EH EZ) Uf) {K:Prop} :
  ∀l,Ro E L ops p FI EZ l K->Tj E L ops p U0 Uf l=true/\K
 | [],h=>⟨rfl,h⟩
 | i::l,h=>by
  change (match p.cls[i]? with
   | some (.fa _ j x)=>match Qm E L ops i j x with
    | true=>match ops[i]? with
     | some o=>match o.dst with
      | some d=>wO (EH EZ d) λr=>XG ops p FI EZ r p.rest (Ro E L ops p FI EZ l K)
      | none=>Ro E L ops p FI EZ l K
     | none=>Ro E L ops p FI EZ l K
    | false=>Ro E L ops p FI EZ l K
   | _=>Ro E L ops p FI EZ l K) at h
  have tG:Ro E L ops p FI EZ l K->Tj E L ops p U0 Uf l=true/\K:=λh=>WL h0 hf l h
  rw[Tj];split at h
  .rename_i r j x hc
   simp only[hc];split at h
   .rename_i hm
    simp only[hm,AN];split at h
    .rename_i o ho
     simp only[ho];split at h
     .rename_i d hd
      obtain⟨r,h1,h2⟩:=BW h;simp only[hd,hf d r h1];cases r with
      | ref FV off len sz=>
       obtain⟨h3,h4⟩:=MM h0 hf _ h2;obtain⟨h5,h6⟩:=tG h4;exact⟨by simp only[h3,h5,JJ],h6⟩
      | _=>exact(by
        have:∀(r:AV) (q:List Nat),(XG ops p FI EZ r q (Ro E L ops p FI EZ l K))->Ro E L ops p FI EZ l K:=λr q=>by
         induction q with
         | nil=>exact λh=>h
         | cons m q ih=>
          intro h
          change (match ops[m]?,p.cls[m]? with
           | some om,some (.w _)=>match om.op with
            | .store _ y _=>(wO (I8 (bR p.GI FI EZ m) y) λa=>ADI a r)/\XG ops p FI EZ r q (Ro E L ops p FI EZ l K)
            | _=>XG ops p FI EZ r q (Ro E L ops p FI EZ l K)
           | _,_=>XG ops p FI EZ r q (Ro E L ops p FI EZ l K)) at h
          split at h
          .split at h
           .exact ih h.2
           .exact ih h
          .exact ih h
        obtain⟨h5,h6⟩:=tG (this _ _ h2);exact⟨by simp only[h5,JJ],h6⟩)
     .rename_i hd
      simp only[hd];simpa using tG h
    .rename_i ho
     simp only[ho];simpa using tG h
   .rename_i hm
    simp only[hm,AL];simpa using tG h
  .rename_i hn
   obtain⟨h5,h6⟩:=tG h;refine⟨?_,h6⟩;rw[h5,JJ];split
   .rename_i r j x hc
    exact absurd hc (hn _ _ _)
   .rfl
theorem lG {E:Env} {L:BI} {N:Nat} {p:Bl} {ops:Array Oper} {env:En} {s:AQ} {K:En->AQ->Prop} {U:Nat->AV} (h:AAl E L N p ops env s K) (hA:Hs (EH env) U) :
  ∃env' U' s' n,(∀m,n<=m->ZQ E L (Dw E m L) p ops ⟨N,U,s⟩=some ⟨N,U',s'⟩)/\Hs (EH env') U'/\K env' s':=by
 unfold AAl at h;split at h
 .rename_i ZX
  obtain⟨KH,U1,s1,a1,a2,a3⟩:=Jc _ _ _ _ h hA;obtain⟨Gl,U2,s2,acc,n,b1,b2,b3⟩:=GH _ _ _ _ _ a3 a2;obtain⟨c1,c2⟩:=O4 hA b2 _ b3;refine⟨Gl,U2,s2,n,λm hm=>?_,b2,c2⟩;simp[*,ZQ,XL]
 .obtain⟨KH,U1,s1,a1,a2,a3⟩:=Jc _ _ _ _ h hA
  obtain⟨Gl,U2,s2,acc,n,b1,b2,b3⟩:=GH _ _ _ _ _ a3 a2;obtain⟨d1,d2⟩:=WL hA b2 _ b3;obtain⟨c1,c2⟩:=O4 hA b2 _ d2;refine⟨Gl,U2,s2,n,λm hm=>?_,b2,c2⟩;simp only[ZQ,a1,b1 m hm,c1,XL,d1,Du,JJ,AN]
end Go.Tel
