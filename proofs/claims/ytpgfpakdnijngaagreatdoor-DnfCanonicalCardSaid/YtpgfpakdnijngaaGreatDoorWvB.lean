/-
  What a piece of code needs so that it answers as wanted: definitions.
-/
import Derived.Test.YtpgfpakdnijngaaGreatDoorWvA
set_option linter.all false
namespace Go.Tel
abbrev En:=List (Nat×AV)
noncomputable abbrev EC (env:En) (t:Nat):Option AV:=
 List.rec (motive:=λ_=>Option AV) none (λ(p:Nat×AV) _ ih=>bif Nat.beq t p.1 then some p.2 else ih) env
abbrev LW (N:Nat) (d:Option Nat) (v:AV) (env:En) (K:En->Prop):Prop:=match d with
 | none=>K env
 | some d=>match Nat.blt d N with
  | true=>K ((d,v)::env)
  | false=>False
def jo (g:AV) (want:Bool) (A B:Prop):Prop:=match g with
 | .pv (.sc (.bool b))=>(b=want->A)/\(b≠want->B)
 | .tuple []=>B
 | _=>False
def Hs (g:AV) (want:Bool) (s:AM) (W:(AV->AM->Prop)->Prop) (K:AV->AM->Prop):Prop:=jo g want (W K) (K (.tuple []) s)
abbrev JY (ops:Array Oper) (lk:Lk) (o:Oper) (s:AM) (W:(AV->AM->Prop)->Prop) (K:AV->AM->Prop):Prop:=match o.guard with
 | none=>W K
 | some (_,want)=>match OJ ops o with
  | none=>K (.tuple []) s
  | some d=>wO (lk d) λg=>Hs g want s W K
abbrev AAr (E:Env) (L:A3) (lk:Lk) (s:AM) (o:Oper) (K:AV->AM->Prop):Prop:=match o.op with
 | .call c=>match c.callee with
  | .builtin _=>wOp E L lk s o K
  | .value f=>wO (IE lk f) λf=>wO (qE lk c.args.toList) λargs=>EK E L f args s K
  | _=>False
 | _=>wOp E L lk s o K
def wFu (L:A3) (s:AM) (e:TypeId) (k bytes:Nat) (x y ix v:AV) (K:AV->AM->Prop):Prop:=
 (∃z,rowsOf y=some [z]/\z.length=k/\(z.map AV.pv).all A1=true)/\HA ix=(rowsOf x).map List.length/\AOw L s e k bytes x v K
noncomputable abbrev AAs (E:Env) (L:A3) (N:Nat) (k:I8) (env:En) (s:AM) (K:En->AM->Prop):Prop:=
 wO (W9 E.P k.t) λe=>(L.mu e.1=false/\k.te=e.1/\e.2.2.length=e.2.1.size/\e.2.1.size≠0) /\
 wO (IE (EC env) k.x) λx=>wO (IE (EC env) k.y) λy=>wO (IE (EC env) k.ix) λix=>wO (IE (EC env) k.v) λv=>
  wFu L s e.1 e.2.1.size e.2.1.bytes x y ix v λr s=>LW N (some k.d) r env λenv=>LW N (some k.p) .Gz env λenv=>K env s
def ASl (L:A3) (s:AM) (k bytes:Nat) (x y ix v:AV) (K:AV->AM->Prop):Prop:=
 ∃id len old zs,x=.ref id 0 len k/\HA ix=some len/\DN s k y=some zs/\s.bs[id]?=some old /\
  (zs.length=k/\zs.all A1=true/\(cellsOf v).length=k/\(cellsOf v).all A1=true/\len*k<=old.length/\alive s id=true/\(len+1)*bytes<=2 ^ 45/\len+1<=2 ^ 45/\L.ro<=id) /\
  K (.ref s.bs.length 0 (len+1) k) ⟨s.bs.set id []++[old.take (len*k)++cellsOf v],s.ts⟩
noncomputable abbrev AAt (E:Env) (L:A3) (N:Nat) (k:I8) (env:En) (s:AM) (K:En->AM->Prop):Prop:=
 wO (W9 E.P k.t) λe=>match L.mu e.1 with
 | false=>(L.mu e.1=false/\k.te=e.1/\e.2.2.length=e.2.1.size/\e.2.1.size≠0) /\
  wO (IE (EC env) k.x) λx=>wO (IE (EC env) k.y) λy=>wO (IE (EC env) k.ix) λix=>wO (IE (EC env) k.v) λv=>
   wFu L s e.1 e.2.1.size e.2.1.bytes x y ix v λr s=>LW N (some k.d) r env λenv=>LW N (some k.p) .Gz env λenv=>K env s
 | true=>(k.te=e.1/\e.2.2.length=e.2.1.size/\e.2.1.size≠0) /\
  wO (IE (EC env) k.x) λx=>wO (IE (EC env) k.y) λy=>wO (IE (EC env) k.ix) λix=>wO (IE (EC env) k.v) λv=>
   ASl L s e.2.1.size e.2.1.bytes x y ix v λr s=>LW N (some k.d) r env λenv=>LW N (some k.p) .Gz env λenv=>K env s
def ALO (a r:AV):Prop:=∀id o E3 q l z,a=.ptr id o->r=.ref E3 q l z->id≠E3
inductive Ins where
 | one (o:Oper)
 | fus (k:I8)
def insts:List Oper->List Ins
 | []=>[]
 | o::rest=>
  let one:=Ins.one o::insts rest
  match rest with
  | o1::o2::rest'=>match fused o o1 o2 with
   | some k=>.fus k::insts rest'
   | none=>one
  | _=>one
noncomputable abbrev AX9 (E:Env) (L:A3) (N:Nat) (ops:Array Oper) (l:List Ins):En->AM->(En->AM->Prop)->Prop:=
 List.rec (motive:=λ_=>En->AM->(En->AM->Prop)->Prop) (λenv s K=>K env s)
  (λ(i:Ins) _ ih env s K=>match i with
   | .one o=>JY ops (EC env) o s (AAr E L (EC env) s o) λv s=>LW N o.dst v env λenv=>ih env s K
   | .fus k=>AAs E L N k env s λenv s=>ih env s K) l
noncomputable abbrev UW (E:Env) (L:A3) (N:Nat) (ops:Array Oper) (l:List Oper) (env:En) (s:AM) (K:En->AM->Prop):Prop:=AX9 E L N ops (insts l) env s K
abbrev Qe (E:Env) (L:A3) (o:Oper):Bool:=match o.op with
 | .alloc _|.box _ _|.store _ _ _|.makeMap _ _|.mapUpdate _ _ _ _|.insert _ _ _ _=>false
 | .makeSlice _ _ _=>false
 | .call { callee:=.builtin .delete,.. }=>false
 | .buildSlice t _ _=>match E.P.underlying t with
  | some (.slice elem)=>!L.mu elem
  | _=>false
 | .call { callee:=.builtin .append,.. }=>false
 | _=>true
abbrev N0 (E:Env) (L:A3) (ops:Array Oper) (lk:Lk) (s:AM) (o:Oper) (K:AV->Prop):Prop:=
 match Qe E L o with
 | true=>JY ops lk o s (wOp E L lk s o) λv _=>K v
 | false=>False
abbrev wH (E:Env) (lk:Lk) (o:Oper) (K:List AV->(Nat->AV)->Prop):Prop:=match o.op with
 | .alloc t=>wO (zeroOf E.P t) λz=>match E.bz t with
  | true=>False
  | false=>K z (λid=>.ptr id 0)
 | _=>∃cs mk,(∀ρ,G5 lk ρ->hcells E ρ o=some (cs,mk))/\K cs mk
noncomputable abbrev UZ (E:Env) (L:A3) (N:Nat) (ops:Array Oper) (cls:List eJ) (l:List Nat):En->AM->(En->AM->Prop)->Prop:=
 List.rec (motive:=λ_=>En->AM->(En->AM->Prop)->Prop) (λenv s K=>K env s)
  (λ(i:Nat) _ ih env s K=>match ops[i]?,cls[i]? with
   | some o,some (.q _)=>N0 E L ops (EC env) s o λv=>LW N o.dst v env λenv=>ih env s K
   | some o,some (.h _)=>wH E (EC env) o λcs mk=>LW N o.dst (mk s.bs.length) env λenv=>ih env ⟨s.bs++[cs],s.ts⟩ K
   | _,_=>False) l
noncomputable abbrev PS (E:Env) (L:A3) (N:Nat) (ops:Array Oper) (cls:List eJ) (l:List Nat):En->AM->List AM->(En->AM->List AM->Prop)->Prop:=
 List.rec (motive:=λ_=>En->AM->List AM->(En->AM->List AM->Prop)->Prop) (λenv s acc K=>K env s acc)
  (λ(i:Nat) _ ih env s acc K=>match ops[i]?,cls[i]? with
   | some o,some (.q _)=>N0 E L ops (EC env) s o λv=>LW N o.dst v env λenv=>ih env s acc K
   | some o,some (.w _)=>JY ops (EC env) o s (AAr E L (EC env) s o) λv s=>LW N o.dst v env λenv=>ih env s (s::acc) K
   | some o,some (.fa _ j x)=>match ops[j]?,ops[x]? with
    | some o1,some o2=>match fused o o1 o2 with
     | some k=>AAt E L N k env s λenv s=>ih env s (s::acc) K
     | none=>False
    | _,_=>False
   | some _,some .fj=>ih env s acc K
   | some _,some .fx=>ih env s acc K
   | _,_=>False) l
noncomputable abbrev jH (GI:List (List Nat)) (Em D8:En) (i t:Nat):Option AV:=bif has (HO GI i) t then EC Em t else EC D8 t
noncomputable abbrev ALP (E:Env) (L:A3) (ops:Array Oper) (cls:List eJ) (GI:List (List Nat)) (Em D8:En) (σ:List AM) (l:List (Nat×Nat)) (K:Prop):Prop:=
 List.rec (motive:=λ_=>Prop) K
  (λ(p:Nat×Nat) _ ih=>(match ops[p.1]?,cls[p.1]?,σ[p.2]? with
   | some o,some (.q _),some s=>N0 E L ops (jH GI Em D8 p.1) s o λv=>match o.dst with
    | some d=>wO (EC D8 d) λu=>CQ v u=true
    | none=>True
   | some o,some (.h _),some s=>wH E (jH GI Em D8 p.1) o λcs _=>match o.dst with
    | some d=>wO (EC D8 d) λu=>wO (KJ u) λid=>wO s.bs[id]? λcs'=>Kz cs' cs=true
    | none=>False
   | _,_,_=>False)/\ih) l
noncomputable abbrev VQ (ops:Array Oper) (p:BS) (Em D8:En) (r:AV) (l:List Nat) (K:Prop):Prop:=
 List.rec (motive:=λ_=>Prop) K (λ(m:Nat) _ ih=>match ops[m]?,p.cls[m]? with
  | some om,some (.w _)=>match om.op with
   | .store _ y _=>(wO (IE (jH p.GI Em D8 m) y) λa=>ALO a r)/\ih
   | _=>ih
  | _,_=>ih) l
noncomputable abbrev Qf (E:Env) (L:A3) (ops:Array Oper) (p:BS) (Em D8:En) (l:List Nat) (K:Prop):Prop:=
 List.rec (motive:=λ_=>Prop) K (λ(i:Nat) _ ih=>match p.cls[i]? with
  | some (.fa _ j x)=>match RH E L ops i j x with
   | true=>match ops[i]? with
    | some o=>match o.dst with
     | some d=>wO (EC D8 d) λr=>VQ ops p Em D8 r p.rest ih
     | none=>ih
    | none=>ih
   | false=>ih
  | _=>ih) l
noncomputable abbrev qD (E:Env) (L:A3) (N:Nat) (p:BS) (ops:Array Oper) (env:En) (s:AM) (K:En->AM->Prop):Prop:=match sI E L ops p.cls p.rest with
 | true=>UZ E L N ops p.cls p.first env s λEl s1=>PS E L N ops p.cls p.rest El s1 [s1] λFT s2 acc=>ALP E L ops p.cls p.GI env FT acc.reverse p.XZ (K FT s2)
 | false=>UZ E L N ops p.cls p.first env s λEl s1=>PS E L N ops p.cls p.rest El s1 [s1] λFT s2 acc=>Qf E L ops p env FT p.rest (ALP E L ops p.cls p.GI env FT acc.reverse p.XZ (K FT s2))
def sub:Code->List Nat->Code
 | c,[]=>c
 | .seq a b,i::p=>match i with
  | 0=>sub a p
  | _=>sub b p
 | .cond _ a b,i::p=>match i with
  | 0=>sub a p
  | _=>sub b p
 | .block _ b,_::p=>sub b p
 | .loop b,_::p=>sub b p
 | c,_=>c
def ADA (c:Code) (i:Nat):Oper:=match c with
 | .region _ ops _=>ops[i]?.getD ⟨none,.move (.tmp 0),0,"",#[],none⟩
 | _=>⟨none,.move (.tmp 0),0,"",#[],none⟩
def TW (E:Env) (L:A3) (s:AM) (lk:Lk) (o:Oper) (K:AV->AM->Prop):Prop:=VO E L lk s o K
def CP (E:Env) (L:A3) (c:Code) (st:St) (o:Out) (st':St):Prop:=
 ∃n,∀m k,n<=m->n<=k->IL E (DG E m) k L c st=some (o,st')
inductive Frame where
 | seq (b:Code)
 | blk (id:Nat)
 | loop (b:Code)
def RG (E:Env) (L:A3) (Q:Out->St->Prop):List Frame->Out->St->Prop
 | [],o,st=>Q o st
 | .seq b::ks,o,st=>match o with
  | .norm=>∃o st',CP E L b st o st'/\RG E L Q ks o st'
  | o=>RG E L Q ks o st
 | .blk id::ks,o,st=>match o with
  | .exit j=>bif Nat.beq j id then RG E L Q ks .norm st else RG E L Q ks (.exit j) st
  | o=>RG E L Q ks o st
 | .loop b::ks,o,st=>match o with
  | .norm=>∃o st',CP E L (.loop b) st o st'/\RG E L Q ks o st'
  | o=>RG E L Q ks o st
def Fin (E:Env) (rs:List ResultVar) (QR:AV->AM->Prop) (o:Out) (st:St):Prop:=
 (∀id,o≠.exit id)/\∃vs,FY E st rs=some vs/\QR (JC vs) st.s
def Wp (E:Env) (L:A3) (N:Nat) (rs:List ResultVar) (c:Code) (ks:List Frame) (env:En) (s:AM) (QR:AV->AM->Prop):Prop:=
 ∀ρ,G5 (EC env) ρ->∃o st,CP E L c ⟨N,ρ,s⟩ o st/\RG E L (Fin E rs QR) ks o st
abbrev keyOf:Code->Option Nat
 | .region id _ _=>some id
 | .seq a b=>match keyOf a with
  | some k=>some k
  | none=>keyOf b
 | .cond _ a b=>match keyOf a with
  | some k=>some k
  | none=>keyOf b
 | .block _ b=>keyOf b
 | .loop b=>keyOf b
 | .rangeFunc _ _ a _=>keyOf a
 | _=>none
noncomputable abbrev prune (lv:Nat->List Nat) (c:Code) (env:En):En:=match keyOf c with
 | some k=>(lv k).filterMap λt=>match EC env t with
  | some v=>some (t,v)
  | none=>none
 | none=>env
noncomputable abbrev dm (E:Env) (lk:Lk) (s:AM) (rs:List ResultVar):(List AV->Prop)->Prop:=
 List.rec (motive:=λ_=>(List AV->Prop)->Prop) (λK=>K [])
  (λ(r:ResultVar) _ ih K=>match r with
   | .tmp t=>wO (lk t) λv=>ih λvs=>K (v::vs)
   | .cell a t=>wO (lk a) λa=>wO (ldK E.P t) λk=>EG E s k a λv=>ih λvs=>K (v::vs)) rs
def AO (c:AV) (A B:Prop):Prop:=match c with
 | .pv (.sc (.bool t))=>(t=true->A)/\(t=false->B)
 | _=>False
noncomputable abbrev wUE (E:Env) (L:A3) (N:Nat) (lv:Nat->List Nat) (rs:List ResultVar) (QR:AV->AM->Prop) (ks:List Frame):Option Nat->En->AM->Prop:=
 List.rec (motive:=λ_=>Option Nat->En->AM->Prop)
  (λo env s=>match o with
   | none=>dm E (EC env) s rs λvs=>QR (JC vs) s
   | some _=>False)
  (λ(fr:Frame) (ks:List Frame) ih o env s=>match fr with
   | .seq b=>match o with
    | none=>match b with
     | .ret=>dm E (EC env) s rs λvs=>QR (JC vs) s
     | .skip=>ih none env s
     | .exit j=>ih (some j) env s
     | b=>Wp E L N rs b ks (prune lv b env) s QR
    | some j=>ih (some j) env s
   | .blk id=>match o with
    | none=>ih none env s
    | some j=>match Nat.beq j id with
     | true=>ih none env s
     | false=>ih (some j) env s
   | .loop b=>match o with
    | none=>Wp E L N rs (.loop b) ks (prune lv b env) s QR
    | some j=>ih (some j) env s) ks
abbrev ADP (ct:Nat->Bool) (c:Code):Bool:=match keyOf c with
 | some k=>ct k
 | none=>false
noncomputable abbrev wpc (E:Env) (L:A3) (N:Nat) (lv:Nat->List Nat) (ct:Nat->Bool) (rs:List ResultVar) (QR:AV->AM->Prop) (c:Code):List Frame->En->AM->Prop:=
 Code.rec (motive:=λ_=>List Frame->En->AM->Prop)
  (λks env s=>wUE E L N lv rs QR ks none env s)
  (λid ops d ks env s=>match d with
   | false=>UW E L N ops ops.toList env s λenv s=>wUE E L N lv rs QR ks none env s
   | true=>wO (L.pl id) λp=>qD E L N p ops env s λenv s=>wUE E L N lv rs QR ks none env s)
  (λa b Y2 Uh ks env s=>match a with
   | .region id ops d=>match d with
    | false=>UW E L N ops ops.toList env s λenv s=>match ADP ct b with
     | true=>Wp E L N rs b ks (prune lv b env) s QR
     | false=>Uh ks env s
    | true=>wO (L.pl id) λp=>qD E L N p ops env s λenv s=>match ADP ct b with
     | true=>Wp E L N rs b ks (prune lv b env) s QR
     | false=>Uh ks env s
   | _=>Y2 (.seq b::ks) env s)
  (λc _ _ Y2 Uh ks env s=>wO (IE (EC env) c) λc=>AO c (Y2 ks env s) (Uh ks env s))
  (λid _ ih ks env s=>ih (.blk id::ks) env s)
  (λb _ ks env s=>Wp E L N rs (.loop b) ks (prune lv b env) s QR)
  (λg ps a b _ _ ks env s=>Wp E L N rs (.rangeFunc g ps a b) ks (prune lv (.rangeFunc g ps a b) env) s QR)
  (λj ks env s=>wUE E L N lv rs QR ks (some j) env s)
  (λ_ _ _ _ _=>False)
  (λ_ _ _ _=>False)
  (λ_ _ _ _=>False)
  (λ_ env s=>dm E (EC env) s rs λvs=>QR (JC vs) s)
  (λ_ _ _ _=>False) c
theorem G5.put {env:En} {ρ:Nat->AV} (h:G5 (EC env) ρ) (d:Nat) (v:AV):G5 (EC ((d,v)::env)) (Xa ρ d v):=by
 intro t u hu;have hu':(bif Nat.beq t d then some v else EC env t)=some u:=hu;unfold Xa;cases hb:Nat.beq t d with
 | true=>grind
 | false=>rw[hb] at hu'; exact h t u hu'
theorem EU {N:Nat} {d:Option Nat} {v:AV} {env:En} {K:En->Prop} {ρ:Nat->AV} {s:AM} (h:LW N d v env K) (hA:G5 (EC env) ρ) :
  ∃env' ρ',KG ⟨N,ρ,s⟩ d v=some ⟨N,ρ',s⟩/\G5 (EC env') ρ'/\K env':=by
 cases d with
 | none=>exact⟨env,ρ,rfl,hA,h⟩
 | some d=>
  simp only[LW] at h;cases hb:Nat.blt d N with
  | false=>grind
  | true=>
   rw[hb] at h;exact⟨_,Xa ρ d v,by simp[KG,hb],hA.put d v,h⟩
theorem JZ {ops:Array Oper} {lk:Lk} {o:Oper} {s:AM} {W:(AV->AM->Prop)->Prop} {K:AV->AM->Prop} {ρ:Nat->AV} (h:JY ops lk o s W K) (hA:G5 lk ρ) :
  (E1 ops ρ o=some true/\W K)\/(E1 ops ρ o=some false/\K (.tuple []) s):=by
 unfold JY at h;unfold E1;split at h
 .grind
 .rename_i j want hg
  rw[hg];simp only;split at h
  .grind
  .rename_i d ht
   rw[ht];obtain⟨g,h1,h⟩:=BC h;simp only[hA d g h1];unfold Hs jo at h;split at h
   .rename_i b
    by_cases hb:b=want
    all_goals grind
   all_goals grind
theorem Ua {E:Env} {L:A3} {lk:Lk} {s:AM} {o:Oper} {K:AV->AM->Prop} {ρ:Nat->AV} (h:AAr E L lk s o K) (hA:G5 lk ρ) :
  ∃v s' n,(∀m,n<=m->NW E L (DG E m L) ρ s o=some (v,s'))/\K v s':=by
 have plain:wOp E L lk s o K->(∀cf,NW E L cf ρ s o=Ca E L ρ s o)->∃v s' n,(∀m,n<=m->NW E L (DG E m L) ρ s o=some (v,s'))/\K v s':=by
  intro h ho;obtain⟨v,s',h1,h2⟩:=XC hA h;exact⟨v,s',0,λm _=>by rw[ho,h1],h2⟩
 obtain⟨dst,op,type,pos,after,guard⟩:=o;cases op with
 | call c=>
  obtain⟨callee,args,ts⟩:=c;cases callee with
  | builtin b=>exact plain h λcf=>rfl
  | value f=>
   obtain⟨fv,h1,h⟩:=BC h;obtain⟨as,h2,h⟩:=BC h;unfold EK at h;split at h
   .rename_i g first captured
    obtain⟨v,s',⟨n,hn⟩,hK⟩:=h;refine⟨v,s',n,λm hm=>?_,hK⟩
    grind[NW,Ky,CA,ZS]
   grind
  | _=>grind
 | _=>exact plain h λcf=>by rfl
theorem qJ {L:A3} {s:AM} {e:TypeId} {i:TypeInfo} {x y ix v:AV} {K:AV->AM->Prop} (h:wFu L s e i.size i.bytes x y ix v K) :
  ∃z n rows row r s',rowsOf y=some [z]/\z.length=i.size/\(z.map AV.pv).all A1=true/\HA ix=some n/\rowsOf x=some rows/\n=rows.length/\Cm (cellsOf v)=some row/\row.length=i.size/\(cellsOf v).all A1=true /\
   KH L s e i x row=some (r,s')/\K r s':=by
 obtain⟨⟨z,h1,h2,h3⟩,h4,h5,h⟩:=h
 grind[rowsOf,KH]
theorem Ub {E:Env} {L:A3} {N:Nat} {k:I8} {env:En} {s:AM} {K:En->AM->Prop} {ρ:Nat->AV} (h:AAs E L N k env s K) (hA:G5 (EC env) ρ) :
  ∃v s' env' ρ',I9 E L ρ s k=some (v,s')/\Jv ⟨N,ρ,s⟩ k v s'=some ⟨N,ρ',s'⟩/\G5 (EC env') ρ'/\K env' s':=by
 obtain⟨e,h1,⟨h2,h3,h4,h5⟩,h⟩:=BC h;obtain⟨x,hx,h⟩:=BC h;obtain⟨y,hy,h⟩:=BC h;obtain⟨ix,SQ,h⟩:=BC h;obtain⟨v,hv,h⟩:=BC h;obtain⟨e1,e2,e3⟩:=My h1;obtain⟨z,n,rows,row,r,s',k1,k2,k3,k4,k5,k6,k7,k8,k9,k10,sx⟩:=qJ h;obtain⟨El,ρ1,p1,p2,p3⟩:=EU (s:=s') sx hA;obtain⟨FT,ρ2,q1,q2,q3⟩:=EU (s:=s') p3 p2
 grind[I9,CA,Jv]
theorem jI {L:A3} {s:AM} {i:TypeInfo} {x y ix v:AV} {K:AV->AM->Prop} (h:ASl L s i.size i.bytes x y ix v K) {E:Env} {k:I8} {e:TypeId} {z:List AV} {ρ:Nat->AV}
  (e1:E.P.underlying k.t=some (.slice e)) (e2:E.P.info? e=some i) (e3:zeroOf E.P e=some z) (h2:L.mu e=true) (h3:k.te=e) (h4:z.length=i.size) (h5:i.size≠0)
  (hx:AX ρ k.x=x) (hy:AX ρ k.y=y) (SQ:AX ρ k.ix=ix) (hv:AX ρ k.v=v) :
  ∃r s',KI E L ρ s k=some (r,s')/\K r s':=by
 obtain⟨id,len,old,zs,rfl,k1,k2,k3,⟨k4,k5,k6,k7,k8,k9,k10,sx,k12⟩,k13⟩:=h;refine⟨_,_,?_,k13⟩
 have ha:I9 E L ρ s k=none:=by
  unfold I9;simp only[e1];rw[if_neg (by rw[h2]; simp)]
 rw[KI,ha];unfold VT;simp only[e1,e2,e3,hx,hy,SQ,hv,k1,k2,k3,MY];rw[if_pos ⟨h2,h3⟩];exact if_pos ⟨AZ,k4,k6,k7,k5,h5,by simp[h4],AZ,AZ,k8,k9,k10,sx,k12⟩
theorem dn {E:Env} {L:A3} {N:Nat} {k:I8} {env:En} {s:AM} {K:En->AM->Prop} {ρ:Nat->AV} (h:AAt E L N k env s K) (hA:G5 (EC env) ρ) :
  ∃v s' env' ρ',KI E L ρ s k=some (v,s')/\Jv ⟨N,ρ,s⟩ k v s'=some ⟨N,ρ',s'⟩/\G5 (EC env') ρ'/\K env' s':=by
 obtain⟨e,h1,h⟩:=BC h;split at h
 .obtain⟨v,s',env',ρ',a1,a2⟩:=Ub (K:=K) (show AAs E L N k env s K by unfold AAs; rw[h1]; exact h) hA
  exact⟨v,s',env',ρ',by rw[KI,a1],a2⟩
 .rename_i Xo
  obtain⟨⟨h3,h4,h5⟩,h⟩:=h;obtain⟨x,hx,h⟩:=BC h;obtain⟨y,hy,h⟩:=BC h;obtain⟨ix,SQ,h⟩:=BC h;obtain⟨v,hv,h⟩:=BC h;obtain⟨e1,e2,e3⟩:=My h1;obtain⟨r,s',k10,sx⟩:=jI h e1 e2 e3 Xo h3 h4 h5 (CA hA hx) (CA hA hy) (CA hA SQ) (CA hA hv);obtain⟨El,ρ1,p1,p2,p3⟩:=EU (s:=s') sx hA;obtain⟨FT,ρ2,q1,q2,q3⟩:=EU (s:=s') p3 p2;exact⟨r,s',FT,ρ2,k10,by simp only[Jv,p1,q1],q2,q3⟩
theorem dw {E:Env} {L:A3} {cf:Cn} {ops:Array Oper} {o:Oper} {rest:List Oper} {st:St} (hf:HC o rest=true):IQ E L cf ops (o::rest) st=match E1 ops st.ρ o with
   | some true=>match M7 E L cf st o with
    | some st=>IQ E L cf ops rest st
    | none=>none
   | some false=>match KG st o.dst (.tuple []) with
    | some st=>IQ E L cf ops rest st
    | none=>none
   | none=>none:=by
 match rest,hf with
 | [],_=>rfl
 | [o1],_=>rfl
 | o1::o2::rest',hf=>
  grind[IQ,HC]
theorem qK {o:Oper} {rest:List Oper} (hf:HC o rest=true):insts (o::rest)=.one o::insts rest:=by
 match rest,hf with
 | [],_=>rfl
 | [o1],_=>rfl
 | o1::o2::rest',hf=>
  grind[insts,HC]
theorem AAu {E:Env} {L:A3} {N:Nat} {ops:Array Oper} {o:Oper} {rest:List Oper} {env:En} {s:AM} {K:En->AM->Prop} (hf:HC o rest=true) :
  UW E L N ops (o::rest) env s K=JY ops (EC env) o s (AAr E L (EC env) s o) λv s=>LW N o.dst v env λenv=>UW E L N ops rest env s K:=by simp[*,UW,qK]
theorem AAv {E:Env} {L:A3} {N:Nat} {ops:Array Oper} {o o1 o2:Oper} {rest:List Oper} {env:En} {s:AM} {K:En->AM->Prop} {k:I8} (hk:fused o o1 o2=some k) :
  UW E L N ops (o::o1::o2::rest) env s K=AAs E L N k env s λenv s=>UW E L N ops rest env s K:=by simp[*,insts,UW]
theorem jJ {E:Env} {L:A3} {N:Nat} {ops:Array Oper} {K:En->AM->Prop}:∀(b:Nat) (l:List Oper),l.length<=b->∀(env:En) (s:AM) (ρ:Nat->AV),UW E L N ops l env s K->G5 (EC env) ρ ->
  ∃env' ρ' s' n,(∀m,n<=m->IQ E L (DG E m L) ops l ⟨N,ρ,s⟩=some ⟨N,ρ',s'⟩)/\G5 (EC env') ρ'/\K env' s':=by
 intro b
 induction b with
 | zero=>
  intro l hl env s ρ h hA;have:l=[]:=jV.1 (by omega);subst this;exact⟨env,ρ,s,0,λm _=>rfl,hA,h⟩
 | succ b ih=>
  intro l hl env s ρ h hA;cases l with
  | nil=>exact⟨env,ρ,s,0,λm _=>rfl,hA,h⟩
  | cons o rest=>
   have hl':rest.length<=b:=by simpa using hl
   cases hf:HC o rest with
   | true=>
    rw[AAu hf] at h;rcases JZ h hA with ⟨hg,h⟩|⟨hg,h⟩
    .obtain⟨v,s1,n1,h1,h2⟩:=Ua h hA
     obtain⟨El,ρ1,p1,p2,p3⟩:=EU (s:=s1) h2 hA;obtain⟨FT,ρ2,s2,n2,q1,q2,q3⟩:=ih rest hl' El s1 ρ1 p3 p2;refine⟨FT,ρ2,s2,n1+n2,λm hm=>?_,q2,q3⟩;rw[dw hf];simp only[hg,M7,h1 m (by omega),p1];exact q1 m (by omega)
    .obtain⟨El,ρ1,p1,p2,p3⟩:=EU (s:=s) h hA
     obtain⟨FT,ρ2,s2,n2,q1,q2,q3⟩:=ih rest hl' El s ρ1 p3 p2;refine⟨FT,ρ2,s2,n2,λm hm=>?_,q2,q3⟩;rw[dw hf];simp only[hg,p1];exact q1 m hm
   | false=>
    match rest,hf,hl',h with
    | [],hf,_,_=>simp_all[HC]
    | [o1],hf,_,_=>simp[HC] at hf
    | o1::o2::rest',hf,hl',h=>
     cases hk:fused o o1 o2 with
     | none=>simp_all[HC]
     | some k=>
      rw[AAv hk] at h;obtain⟨v,s1,El,ρ1,p1,p2,p3,p4⟩:=Ub h hA;obtain⟨FT,ρ2,s2,n2,q1,q2,q3⟩:=ih rest' (by simp at hl'; omega) El s1 ρ1 p4 p3;refine⟨FT,ρ2,s2,n2,λm hm=>?_,q2,q3⟩;simp[*,IQ]
theorem qL {E:Env} {L:A3} {ρ:Nat->AV} {s s':AM} {o:Oper} {v:AV} (hq:Qe E L o=true) (h:Ca E L ρ s o=some (v,s')):JA E L ρ s o=some v:=by grind[KL,EN]
theorem LX {E:Env} {L:A3} {ops:Array Oper} {lk:Lk} {s:AM} {o:Oper} {K:AV->Prop} {ρ:Nat->AV} (h:N0 E L ops lk s o K) (hA:G5 lk ρ):∃v,E2 E L ops ρ s o=some v/\K v:=by
 unfold N0 at h;cases hq:Qe E L o with
 | false=>simp_all
 | true=>
  rw[hq] at h;unfold E2;rcases JZ h hA with ⟨hg,h⟩|⟨hg,h⟩
  .obtain⟨v,s',h1,h2⟩:=XC hA h
   rw[hg];exact⟨v,qL hq h1,h2⟩
  simp[*]
theorem dx {E:Env} {lk:Lk} {o:Oper} {K:List AV->(Nat->AV)->Prop} {ρ:Nat->AV} (h:wH E lk o K) (hA:G5 lk ρ):∃cs mk,hcells E ρ o=some (cs,mk)/\K cs mk:=by grind[BC,hcells]
theorem Iy {E:Env} {L:A3} {N:Nat} {ops:Array Oper} {cls:List eJ} {K:En->AM->Prop}:∀(l:List Nat) (env:En) (s:AM) (ρ:Nat->AV),UZ E L N ops cls l env s K->G5 (EC env) ρ ->
  ∃env' ρ' s',JB E L ops cls l ⟨N,ρ,s⟩=some ⟨N,ρ',s'⟩/\G5 (EC env') ρ'/\K env' s'
 | [],env,s,ρ,h,hA=>⟨env,ρ,s,rfl,hA,h⟩
 | i::rest,env,s,ρ,h,hA=>by
  change (match ops[i]?,cls[i]? with
   | some o,some (.q _)=>N0 E L ops (EC env) s o λv=>LW N o.dst v env λenv=>UZ E L N ops cls rest env s K
   | some o,some (.h _)=>wH E (EC env) o λcs mk=>LW N o.dst (mk s.bs.length) env λenv=>UZ E L N ops cls rest env ⟨s.bs++[cs],s.ts⟩ K
   | _,_=>False) at h
  split at h
  .rename_i o ts ho hc
   obtain⟨v,h1,h2⟩:=LX h hA;obtain⟨El,ρ1,p1,p2,p3⟩:=EU (s:=s) h2 hA;obtain⟨FT,ρ2,s2,q1,q2,q3⟩:=Iy rest El s ρ1 p3 p2;refine⟨FT,ρ2,s2,?_,q2,q3⟩;simp[*,JB]
  .rename_i o ts ho hc
   obtain⟨cs,mk,h1,h2⟩:=dx h hA;obtain⟨El,ρ1,p1,p2,p3⟩:=EU (s:=⟨s.bs++[cs],s.ts⟩) h2 hA;obtain⟨FT,ρ2,s2,q1,q2,q3⟩:=Iy rest El _ ρ1 p3 p2;refine⟨FT,ρ2,s2,?_,q2,q3⟩;simp[*,JB]
  grind
theorem Ft {E:Env} {L:A3} {N:Nat} {ops:Array Oper} {cls:List eJ} {K:En->AM->List AM->Prop}:∀(l:List Nat) (env:En) (s:AM) (acc:List AM) (ρ:Nat->AV),PS E L N ops cls l env s acc K->G5 (EC env) ρ ->
  ∃env' ρ' s' acc' n,(∀m,n<=m->HB E L (DG E m L) ops cls l ⟨N,ρ,s⟩ acc=some (⟨N,ρ',s'⟩,acc'))/\G5 (EC env') ρ'/\K env' s' acc'
 | [],env,s,acc,ρ,h,hA=>⟨env,ρ,s,acc,0,λ_ _=>rfl,hA,h⟩
 | i::rest,env,s,acc,ρ,h,hA=>by
  change (match ops[i]?,cls[i]? with
   | some o,some (.q _)=>N0 E L ops (EC env) s o λv=>LW N o.dst v env λenv=>PS E L N ops cls rest env s acc K
   | some o,some (.w _)=>JY ops (EC env) o s (AAr E L (EC env) s o) λv s=>LW N o.dst v env λenv=>PS E L N ops cls rest env s (s::acc) K
   | some o,some (.fa _ j x)=>match ops[j]?,ops[x]? with
    | some o1,some o2=>match fused o o1 o2 with
     | some k=>AAt E L N k env s λenv s=>PS E L N ops cls rest env s (s::acc) K
     | none=>False
    | _,_=>False
   | some _,some .fj=>PS E L N ops cls rest env s acc K
   | some _,some .fx=>PS E L N ops cls rest env s acc K
   | _,_=>False) at h
  split at h
  .rename_i o ts ho hc
   obtain⟨v,h1,h2⟩:=LX h hA;obtain⟨El,ρ1,p1,p2,p3⟩:=EU (s:=s) h2 hA;obtain⟨FT,ρ2,s2,Ns,n2,q1,q2,q3⟩:=Ft rest El s acc ρ1 p3 p2;refine⟨FT,ρ2,s2,Ns,n2,λm hm=>?_,q2,q3⟩;simp only[HB,ho,hc,h1,p1];exact q1 m hm
  .rename_i o r ho hc
   have:∃v s1 n1,(∀m,n1<=m->NY E L (DG E m L) ops ρ s o=some (v,s1))/\LW N o.dst v env λenv=>PS E L N ops cls rest env s1 (s1::acc) K:=by
    rcases JZ h hA with ⟨hg,h⟩|⟨hg,h⟩
    .obtain⟨v,s1,n1,h1,h2⟩:=Ua h hA
     exact⟨v,s1,n1,λm hm=>by simp only[NY,hg,h1 m hm],h2⟩
    .exact⟨_,s,0,λm hm=>by simp only[NY,hg],h⟩
   obtain⟨v,s1,n1,h1,h2⟩:=this;obtain⟨El,ρ1,p1,p2,p3⟩:=EU (s:=s1) h2 hA;obtain⟨FT,ρ2,s2,Ns,n2,q1,q2,q3⟩:=Ft rest El s1 _ ρ1 p3 p2;refine⟨FT,ρ2,s2,Ns,n1+n2,λm hm=>?_,q2,q3⟩;simp only[HB,ho,hc,h1 m (by omega),p1];exact q1 m (by omega)
  .rename_i o r j x ho hc
   split at h
   .rename_i o1 o2 hj hx
    split at h
    .rename_i k hk
     obtain⟨v,s1,El,ρ1,p1,p2,p3,p4⟩:=dn h hA;obtain⟨FT,ρ2,s2,Ns,n2,q1,q2,q3⟩:=Ft rest El s1 _ ρ1 p4 p3;refine⟨FT,ρ2,s2,Ns,n2,λm hm=>?_,q2,q3⟩;simp only[HB,ho,hc,hj,hx,hk,p1,p2];exact q1 m hm
    .exact h.elim
   .exact h.elim
  .rename_i o ho hc
   obtain⟨FT,ρ2,s2,Ns,n2,q1,q2,q3⟩:=Ft rest env s acc ρ h hA;refine⟨FT,ρ2,s2,Ns,n2,λm hm=>?_,q2,q3⟩;simp only[HB,ho,hc];exact q1 m hm
  .rename_i o ho hc
   obtain⟨FT,ρ2,s2,Ns,n2,q1,q2,q3⟩:=Ft rest env s acc ρ h hA;refine⟨FT,ρ2,s2,Ns,n2,λm hm=>?_,q2,q3⟩;simp only[HB,ho,hc];exact q1 m hm
  .exact h.elim
theorem G5.at_ {GI:List (List Nat)} {Em D8:En} {ρ0 ρf:Nat->AV} (h0:G5 (EC Em) ρ0) (hf:G5 (EC D8) ρf) (i:Nat):G5 (jH GI Em D8 i) (FO GI ρ0 ρf i):=by
 intro t v hv;unfold jH at hv;unfold FO;cases hb:has (HO GI i) t with
 | true=>rw[hb] at hv; exact h0 t v hv
 | false=>rw[hb] at hv; exact hf t v hv
theorem N1 {E:Env} {L:A3} {ops:Array Oper} {cls:List eJ} {GI:List (List Nat)} {Em D8:En} {ρ0 ρf:Nat->AV} {σ:List AM} (h0:G5 (EC Em) ρ0) (hf:G5 (EC D8) ρf) {K:Prop} :
  ∀l,ALP E L ops cls GI Em D8 σ l K->eM E L ops cls GI ρ0 ρf σ l=true/\K
 | [],h=>⟨rfl,h⟩
 | (i,k)::rest,h=>by
  obtain⟨h,h'⟩:=h;obtain⟨r1,r2⟩:=N1 h0 hf rest h';refine⟨?_,r2⟩;simp only[eM,r1,Hp];split at h
  .rename_i o ts s ho hc hs
   obtain⟨v,h1,h2⟩:=LX h (G5.at_ h0 hf i);simp only[ho,hc,hs,h1];cases hd:o.dst with
   | none=>rfl
   | some d=>
    rw[hd] at h2;obtain⟨u,h3,h4⟩:=BC h2;simp only[hf d u h3,h4]
  .rename_i o ts s ho hc hs
   obtain⟨cs,mk,h1,h2⟩:=dx h (G5.at_ h0 hf i);simp only[ho,hc,hs,h1];cases hd:o.dst with
   | none=>simp_all
   | some d=>
    rw[hd] at h2;obtain⟨u,h3,h4⟩:=BC h2;obtain⟨id,h5,h6⟩:=BC h4;obtain⟨cs',h7,h8⟩:=BC h6;simp only[hf d u h3,h5,h7,h8]
  simp[*]
theorem LY {ops:Array Oper} {p:BS} {Em D8:En} {ρ0 ρf:Nat->AV} {E3 off len sz:Nat} (h0:G5 (EC Em) ρ0) (hf:G5 (EC D8) ρf) {K:Prop} :
  ∀l,VQ ops p Em D8 (.ref E3 off len sz) l K->Qh ops p ρ0 ρf E3 l=true/\K
 | [],h=>⟨rfl,h⟩
 | m::l,h=>by
  change (match ops[m]?,p.cls[m]? with
   | some om,some (.w _)=>match om.op with
    | .store _ y _=>(wO (IE (jH p.GI Em D8 m) y) λa=>ALO a (.ref E3 off len sz))/\VQ ops p Em D8 (.ref E3 off len sz) l K
    | _=>VQ ops p Em D8 (.ref E3 off len sz) l K
   | _,_=>VQ ops p Em D8 (.ref E3 off len sz) l K) at h
  rw[Qh];split at h
  .rename_i om r ho hc
   simp only[ho,hc];split at h
   .rename_i t y z hop
    obtain⟨h1,h2⟩:=h;obtain⟨a,h3,h4⟩:=BC h1;obtain⟨h5,h6⟩:=LY h0 hf l h2;refine⟨?_,h6⟩;simp only[hop,CA (G5.at_ h0 hf m) h3,h5,Hp];split
    .rename_i id o
     have:=h4 id o E3 off len sz rfl rfl;exact BX Bool.not (N9.2 λe=>this (Bo e))
    .rfl
   .obtain⟨h5,h6⟩:=LY h0 hf l h
    refine⟨?_,h6⟩;rw[h5,Hp];split
    .rename_i hn _ _ _ _ hop
     exact absurd hop (hn _ _ _)
    .rfl
  .rename_i hn
   obtain⟨h5,h6⟩:=LY h0 hf l h;refine⟨?_,h6⟩;rw[h5,Hp];split
   .rename_i om r ho hc
    exact absurd hc (hn _ _ ho)
   .rfl
theorem Uc {E:Env} {L:A3} {ops:Array Oper} {p:BS} {Em D8:En} {ρ0 ρf:Nat->AV} (h0:G5 (EC Em) ρ0) (hf:G5 (EC D8) ρf) {K:Prop} :
  ∀l,Qf E L ops p Em D8 l K->SJ E L ops p ρ0 ρf l=true/\K
 | [],h=>⟨rfl,h⟩
 | i::l,h=>by
  change (match p.cls[i]? with
   | some (.fa _ j x)=>match RH E L ops i j x with
    | true=>match ops[i]? with
     | some o=>match o.dst with
      | some d=>wO (EC D8 d) λr=>VQ ops p Em D8 r p.rest (Qf E L ops p Em D8 l K)
      | none=>Qf E L ops p Em D8 l K
     | none=>Qf E L ops p Em D8 l K
    | false=>Qf E L ops p Em D8 l K
   | _=>Qf E L ops p Em D8 l K) at h
  have qN:Qf E L ops p Em D8 l K->SJ E L ops p ρ0 ρf l=true/\K:=λh=>Uc h0 hf l h
  rw[SJ];split at h
  .rename_i r j x hc
   simp only[hc];split at h
   .rename_i hm
    simp only[hm,AH];split at h
    .rename_i o ho
     simp only[ho];split at h
     .rename_i d hd
      obtain⟨r,h1,h2⟩:=BC h;simp only[hd,hf d r h1];cases r with
      | ref E3 off len sz=>
       obtain⟨h3,h4⟩:=LY h0 hf _ h2;obtain⟨h5,h6⟩:=qN h4;exact⟨by simp only[h3,h5,Hp],h6⟩
      | _=>exact(by
        have:∀(r:AV) (q:List Nat),(VQ ops p Em D8 r q (Qf E L ops p Em D8 l K))->Qf E L ops p Em D8 l K:=λr q=>by
         induction q with
         | nil=>exact λh=>h
         | cons m q ih=>
          intro h
          change (match ops[m]?,p.cls[m]? with
           | some om,some (.w _)=>match om.op with
            | .store _ y _=>(wO (IE (jH p.GI Em D8 m) y) λa=>ALO a r)/\VQ ops p Em D8 r q (Qf E L ops p Em D8 l K)
            | _=>VQ ops p Em D8 r q (Qf E L ops p Em D8 l K)
           | _,_=>VQ ops p Em D8 r q (Qf E L ops p Em D8 l K)) at h
          split at h
          .split at h
           .exact ih h.2
           .exact ih h
          .exact ih h
        obtain⟨h5,h6⟩:=qN (this _ _ h2);exact⟨by simp only[h5,Hp],h6⟩)
     .rename_i hd
      simp only[hd];simpa using qN h
    .rename_i ho
     simp only[ho];simpa using qN h
   .rename_i hm
    simp only[hm,AE];simpa using qN h
  .rename_i hn
   obtain⟨h5,h6⟩:=qN h;refine⟨?_,h6⟩;rw[h5,Hp];split
   .rename_i r j x hc
    exact absurd hc (hn _ _ _)
   .rfl
theorem jK {E:Env} {L:A3} {N:Nat} {p:BS} {ops:Array Oper} {env:En} {s:AM} {K:En->AM->Prop} {ρ:Nat->AV} (h:qD E L N p ops env s K) (hA:G5 (EC env) ρ) :
  ∃env' ρ' s' n,(∀m,n<=m->Xi E L (DG E m L) p ops ⟨N,ρ,s⟩=some ⟨N,ρ',s'⟩)/\G5 (EC env') ρ'/\K env' s':=by
 unfold qD at h;split at h
 .rename_i Xo
  obtain⟨El,ρ1,s1,a1,a2,a3⟩:=Iy _ _ _ _ h hA;obtain⟨FT,ρ2,s2,acc,n,b1,b2,b3⟩:=Ft _ _ _ _ _ a3 a2;obtain⟨c1,c2⟩:=N1 hA b2 _ b3;refine⟨FT,ρ2,s2,n,λm hm=>?_,b2,c2⟩;simp[*,Xi,VU]
 .obtain⟨El,ρ1,s1,a1,a2,a3⟩:=Iy _ _ _ _ h hA
  obtain⟨FT,ρ2,s2,acc,n,b1,b2,b3⟩:=Ft _ _ _ _ _ a3 a2;obtain⟨d1,d2⟩:=Uc hA b2 _ b3;obtain⟨c1,c2⟩:=N1 hA b2 _ d2;refine⟨FT,ρ2,s2,n,λm hm=>?_,b2,c2⟩;simp only[Xi,a1,b1 m hm,c1,VU,d1,Df,Hp,AH]
end Go.Tel
