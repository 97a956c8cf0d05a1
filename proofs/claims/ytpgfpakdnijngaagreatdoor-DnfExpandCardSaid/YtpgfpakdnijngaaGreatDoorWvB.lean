/-
  What a piece of code needs so that it answers as wanted: definitions.
-/
import Derived.Test.YtpgfpakdnijngaaGreatDoorWvA
set_option linter.all false
namespace Go.Tel
abbrev En:=List (Nat×AV)
noncomputable abbrev Ek (env:En) (t:Nat):Option AV:=
 List.rec (motive:=λ_=>Option AV) none (λ(p:Nat×AV) _ ih=>bif Nat.beq t p.1 then some p.2 else ih) env
abbrev LH (N:Nat) (d:Option Nat) (v:AV) (env:En) (K:En->Prop):Prop:=match d with
 | none=>K env
 | some d=>match Nat.blt d N with
  | true=>K ((d,v)::env)
  | false=>False
def nx (g:AV) (want:Bool) (A B:Prop):Prop:=match g with
 | .pv (.sc (.bool b))=>(b=want->A)/\(b≠want->B)
 | .tuple []=>B
 | _=>False
def I4 (g:AV) (want:Bool) (s:AM) (W:(AV->AM->Prop)->Prop) (K:AV->AM->Prop):Prop:=nx g want (W K) (K (.tuple []) s)
abbrev Jc (ops:Array Oper) (lk:Lk) (o:Oper) (s:AM) (W:(AV->AM->Prop)->Prop) (K:AV->AM->Prop):Prop:=match o.guard with
 | none=>W K
 | some (_,want)=>match N9 ops o with
  | none=>K (.tuple []) s
  | some d=>wO (lk d) λg=>I4 g want s W K
abbrev ABa (E:Env) (L:A8) (lk:Lk) (s:AM) (o:Oper) (K:AV->AM->Prop):Prop:=match o.op with
 | .call c=>match c.callee with
  | .builtin _=>wOp E L lk s o K
  | .value f=>wO (IU lk f) λf=>wO (qI lk c.args.toList) λargs=>E3 E L f args s K
  | _=>False
 | _=>wOp E L lk s o K
def wFu (L:A8) (s:AM) (e:TypeId) (k bytes:Nat) (x y ix v:AV) (K:AV->AM->Prop):Prop:=
 (∃z,rowsOf y=some [z]/\z.length=k/\(z.map AV.pv).all A9=true)/\HA ix=(rowsOf x).map List.length/\AQY L s e k bytes x v K
noncomputable abbrev ABb (E:Env) (L:A8) (N:Nat) (k:JB) (env:En) (s:AM) (K:En->AM->Prop):Prop:=
 wO (Wr E.P k.t) λe=>(L.mu e.1=false/\k.te=e.1/\e.2.2.length=e.2.1.size/\e.2.1.size≠0) /\
 wO (IU (Ek env) k.x) λx=>wO (IU (Ek env) k.y) λy=>wO (IU (Ek env) k.ix) λix=>wO (IU (Ek env) k.v) λv=>
  wFu L s e.1 e.2.1.size e.2.1.bytes x y ix v λr s=>LH N (some k.d) r env λenv=>LH N (some k.p) .Gw env λenv=>K env s
def AUW (L:A8) (s:AM) (k bytes:Nat) (x y ix v:AV) (K:AV->AM->Prop):Prop:=
 ∃id len old zs,x=.ref id 0 len k/\HA ix=some len/\Cx s k y=some zs/\s.bs[id]?=some old /\
  (zs.length=k/\zs.all A9=true/\(cellsOf v).length=k/\(cellsOf v).all A9=true/\len*k<=old.length/\alive s id=true/\(len+1)*bytes<=2 ^ 45/\len+1<=2 ^ 45/\L.ro<=id) /\
  K (.ref s.bs.length 0 (len+1) k) ⟨s.bs.set id []++[old.take (len*k)++cellsOf v],s.ts⟩
noncomputable abbrev ABc (E:Env) (L:A8) (N:Nat) (k:JB) (env:En) (s:AM) (K:En->AM->Prop):Prop:=
 wO (Wr E.P k.t) λe=>match L.mu e.1 with
 | false=>(L.mu e.1=false/\k.te=e.1/\e.2.2.length=e.2.1.size/\e.2.1.size≠0) /\
  wO (IU (Ek env) k.x) λx=>wO (IU (Ek env) k.y) λy=>wO (IU (Ek env) k.ix) λix=>wO (IU (Ek env) k.v) λv=>
   wFu L s e.1 e.2.1.size e.2.1.bytes x y ix v λr s=>LH N (some k.d) r env λenv=>LH N (some k.p) .Gw env λenv=>K env s
 | true=>(k.te=e.1/\e.2.2.length=e.2.1.size/\e.2.1.size≠0) /\
  wO (IU (Ek env) k.x) λx=>wO (IU (Ek env) k.y) λy=>wO (IU (Ek env) k.ix) λix=>wO (IU (Ek env) k.v) λv=>
   AUW L s e.2.1.size e.2.1.bytes x y ix v λr s=>LH N (some k.d) r env λenv=>LH N (some k.p) .Gw env λenv=>K env s
def ANB (a r:AV):Prop:=∀id o FB q l z,a=.ptr id o->r=.ref FB q l z->id≠FB
inductive Ins where
 | one (o:Oper)
 | fus (k:JB)
def insts:List Oper->List Ins
 | []=>[]
 | o::rest=>
  let one:=Ins.one o::insts rest
  match rest with
  | o1::o2::rest'=>match fused o o1 o2 with
   | some k=>.fus k::insts rest'
   | none=>one
  | _=>one
noncomputable abbrev AZ6 (E:Env) (L:A8) (N:Nat) (ops:Array Oper) (l:List Ins):En->AM->(En->AM->Prop)->Prop:=
 List.rec (motive:=λ_=>En->AM->(En->AM->Prop)->Prop) (λenv s K=>K env s)
  (λ(i:Ins) _ ih env s K=>match i with
   | .one o=>Jc ops (Ek env) o s (ABa E L (Ek env) s o) λv s=>LH N o.dst v env λenv=>ih env s K
   | .fus k=>ABb E L N k env s λenv s=>ih env s K) l
noncomputable abbrev U6 (E:Env) (L:A8) (N:Nat) (ops:Array Oper) (l:List Oper) (env:En) (s:AM) (K:En->AM->Prop):Prop:=AZ6 E L N ops (insts l) env s K
abbrev QK (E:Env) (L:A8) (o:Oper):Bool:=match o.op with
 | .alloc _|.box _ _|.store _ _ _|.makeMap _ _|.mapUpdate _ _ _ _|.insert _ _ _ _=>false
 | .makeSlice _ _ _=>false
 | .call { callee:=.builtin .delete,.. }=>false
 | .buildSlice t _ _=>match E.P.underlying t with
  | some (.slice elem)=>!L.mu elem
  | _=>false
 | .call { callee:=.builtin .append,.. }=>false
 | _=>true
abbrev Nn (E:Env) (L:A8) (ops:Array Oper) (lk:Lk) (s:AM) (o:Oper) (K:AV->Prop):Prop:=
 match QK E L o with
 | true=>Jc ops lk o s (wOp E L lk s o) λv _=>K v
 | false=>False
abbrev wH (E:Env) (lk:Lk) (o:Oper) (K:List AV->(Nat->AV)->Prop):Prop:=match o.op with
 | .alloc t=>wO (zeroOf E.P t) λz=>match E.bz t with
  | true=>False
  | false=>K z (λid=>.ptr id 0)
 | _=>∃cs mk,(∀ρ,HI lk ρ->hcells E ρ o=some (cs,mk))/\K cs mk
noncomputable abbrev UL (E:Env) (L:A8) (N:Nat) (ops:Array Oper) (cls:List dW) (l:List Nat):En->AM->(En->AM->Prop)->Prop:=
 List.rec (motive:=λ_=>En->AM->(En->AM->Prop)->Prop) (λenv s K=>K env s)
  (λ(i:Nat) _ ih env s K=>match ops[i]?,cls[i]? with
   | some o,some (.q _)=>Nn E L ops (Ek env) s o λv=>LH N o.dst v env λenv=>ih env s K
   | some o,some (.h _)=>wH E (Ek env) o λcs mk=>LH N o.dst (mk s.bs.length) env λenv=>ih env ⟨s.bs++[cs],s.ts⟩ K
   | _,_=>False) l
noncomputable abbrev PB (E:Env) (L:A8) (N:Nat) (ops:Array Oper) (cls:List dW) (l:List Nat):En->AM->List AM->(En->AM->List AM->Prop)->Prop:=
 List.rec (motive:=λ_=>En->AM->List AM->(En->AM->List AM->Prop)->Prop) (λenv s acc K=>K env s acc)
  (λ(i:Nat) _ ih env s acc K=>match ops[i]?,cls[i]? with
   | some o,some (.q _)=>Nn E L ops (Ek env) s o λv=>LH N o.dst v env λenv=>ih env s acc K
   | some o,some (.w _)=>Jc ops (Ek env) o s (ABa E L (Ek env) s o) λv s=>LH N o.dst v env λenv=>ih env s (s::acc) K
   | some o,some (.fa _ j x)=>match ops[j]?,ops[x]? with
    | some o1,some o2=>match fused o o1 o2 with
     | some k=>ABc E L N k env s λenv s=>ih env s (s::acc) K
     | none=>False
    | _,_=>False
   | some _,some .fj=>ih env s acc K
   | some _,some .fx=>ih env s acc K
   | _,_=>False) l
noncomputable abbrev iz (GQ:List (List Nat)) (Ex EF:En) (i t:Nat):Option AV:=bif has (HO GQ i) t then Ek Ex t else Ek EF t
noncomputable abbrev ANC (E:Env) (L:A8) (ops:Array Oper) (cls:List dW) (GQ:List (List Nat)) (Ex EF:En) (σ:List AM) (l:List (Nat×Nat)) (K:Prop):Prop:=
 List.rec (motive:=λ_=>Prop) K
  (λ(p:Nat×Nat) _ ih=>(match ops[p.1]?,cls[p.1]?,σ[p.2]? with
   | some o,some (.q _),some s=>Nn E L ops (iz GQ Ex EF p.1) s o λv=>match o.dst with
    | some d=>wO (Ek EF d) λu=>Bg v u=true
    | none=>True
   | some o,some (.h _),some s=>wH E (iz GQ Ex EF p.1) o λcs _=>match o.dst with
    | some d=>wO (Ek EF d) λu=>wO (IK u) λid=>wO s.bs[id]? λcs'=>Hx cs' cs=true
    | none=>False
   | _,_,_=>False)/\ih) l
noncomputable abbrev U7 (ops:Array Oper) (p:Bb) (Ex EF:En) (r:AV) (l:List Nat) (K:Prop):Prop:=
 List.rec (motive:=λ_=>Prop) K (λ(m:Nat) _ ih=>match ops[m]?,p.cls[m]? with
  | some om,some (.w _)=>match om.op with
   | .store _ y _=>(wO (IU (iz p.GQ Ex EF m) y) λa=>ANB a r)/\ih
   | _=>ih
  | _,_=>ih) l
noncomputable abbrev QL (E:Env) (L:A8) (ops:Array Oper) (p:Bb) (Ex EF:En) (l:List Nat) (K:Prop):Prop:=
 List.rec (motive:=λ_=>Prop) K (λ(i:Nat) _ ih=>match p.cls[i]? with
  | some (.fa _ j x)=>match Qx E L ops i j x with
   | true=>match ops[i]? with
    | some o=>match o.dst with
     | some d=>wO (Ek EF d) λr=>U7 ops p Ex EF r p.rest ih
     | none=>ih
    | none=>ih
   | false=>ih
  | _=>ih) l
noncomputable abbrev ABd (E:Env) (L:A8) (N:Nat) (p:Bb) (ops:Array Oper) (env:En) (s:AM) (K:En->AM->Prop):Prop:=match rF E L ops p.cls p.rest with
 | true=>UL E L N ops p.cls p.first env s λJd s1=>PB E L N ops p.cls p.rest Jd s1 [s1] λGO s2 acc=>ANC E L ops p.cls p.GQ env GO acc.reverse p.XG (K GO s2)
 | false=>UL E L N ops p.cls p.first env s λJd s1=>PB E L N ops p.cls p.rest Jd s1 [s1] λGO s2 acc=>QL E L ops p env GO p.rest (ANC E L ops p.cls p.GQ env GO acc.reverse p.XG (K GO s2))
def sub:Code->List Nat->Code
 | c,[]=>c
 | .seq a b,i::p=>match i with
  | 0=>sub a p
  | _=>sub b p
 | .cond _ a b,i::p=>match i with
  | 0=>sub a p
  | _=>sub b p
 | .block _ b,_::p=>sub b p
 | .loop b,_::p=>sub b p
 | c,_=>c
def ADx (c:Code) (i:Nat):Oper:=match c with
 | .region _ ops _=>ops[i]?.getD ⟨none,.move (.tmp 0),0,"",#[],none⟩
 | _=>⟨none,.move (.tmp 0),0,"",#[],none⟩
def TF (E:Env) (L:A8) (s:AM) (lk:Lk) (o:Oper) (K:AV->AM->Prop):Prop:=U5 E L lk s o K
def Cu (E:Env) (L:A8) (c:Code) (st:St) (o:Out) (st':St):Prop:=
 ∃n,∀m k,n<=m->n<=k->LZ E (Dz E m) k L c st=some (o,st')
inductive Frame where
 | seq (b:Code)
 | blk (id:Nat)
 | loop (b:Code)
def RF (E:Env) (L:A8) (Q:Out->St->Prop):List Frame->Out->St->Prop
 | [],o,st=>Q o st
 | .seq b::ks,o,st=>match o with
  | .norm=>∃o st',Cu E L b st o st'/\RF E L Q ks o st'
  | o=>RF E L Q ks o st
 | .blk id::ks,o,st=>match o with
  | .exit j=>bif Nat.beq j id then RF E L Q ks .norm st else RF E L Q ks (.exit j) st
  | o=>RF E L Q ks o st
 | .loop b::ks,o,st=>match o with
  | .norm=>∃o st',Cu E L (.loop b) st o st'/\RF E L Q ks o st'
  | o=>RF E L Q ks o st
def Fin (E:Env) (rs:List ResultVar) (QR:AV->AM->Prop) (o:Out) (st:St):Prop:=
 (∀id,o≠.exit id)/\∃vs,Fb E st rs=some vs/\QR (KJ vs) st.s
def Wp (E:Env) (L:A8) (N:Nat) (rs:List ResultVar) (c:Code) (ks:List Frame) (env:En) (s:AM) (QR:AV->AM->Prop):Prop:=
 ∀ρ,HI (Ek env) ρ->∃o st,Cu E L c ⟨N,ρ,s⟩ o st/\RF E L (Fin E rs QR) ks o st
abbrev keyOf:Code->Option Nat
 | .region id _ _=>some id
 | .seq a b=>match keyOf a with
  | some k=>some k
  | none=>keyOf b
 | .cond _ a b=>match keyOf a with
  | some k=>some k
  | none=>keyOf b
 | .block _ b=>keyOf b
 | .loop b=>keyOf b
 | .rangeFunc _ _ a _=>keyOf a
 | _=>none
noncomputable abbrev prune (lv:Nat->List Nat) (c:Code) (env:En):En:=match keyOf c with
 | some k=>(lv k).filterMap λt=>match Ek env t with
  | some v=>some (t,v)
  | none=>none
 | none=>env
noncomputable abbrev qN (E:Env) (lk:Lk) (s:AM) (rs:List ResultVar):(List AV->Prop)->Prop:=
 List.rec (motive:=λ_=>(List AV->Prop)->Prop) (λK=>K [])
  (λ(r:ResultVar) _ ih K=>match r with
   | .tmp t=>wO (lk t) λv=>ih λvs=>K (v::vs)
   | .cell a t=>wO (lk a) λa=>wO (ldK E.P t) λk=>D6 E s k a λv=>ih λvs=>K (v::vs)) rs
def AO (c:AV) (A B:Prop):Prop:=match c with
 | .pv (.sc (.bool t))=>(t=true->A)/\(t=false->B)
 | _=>False
noncomputable abbrev wUE (E:Env) (L:A8) (N:Nat) (lv:Nat->List Nat) (rs:List ResultVar) (QR:AV->AM->Prop) (ks:List Frame):Option Nat->En->AM->Prop:=
 List.rec (motive:=λ_=>Option Nat->En->AM->Prop)
  (λo env s=>match o with
   | none=>qN E (Ek env) s rs λvs=>QR (KJ vs) s
   | some _=>False)
  (λ(fr:Frame) (ks:List Frame) ih o env s=>match fr with
   | .seq b=>match o with
    | none=>match b with
     | .ret=>qN E (Ek env) s rs λvs=>QR (KJ vs) s
     | .skip=>ih none env s
     | .exit j=>ih (some j) env s
     | b=>Wp E L N rs b ks (prune lv b env) s QR
    | some j=>ih (some j) env s
   | .blk id=>match o with
    | none=>ih none env s
    | some j=>match Nat.beq j id with
     | true=>ih none env s
     | false=>ih (some j) env s
   | .loop b=>match o with
    | none=>Wp E L N rs (.loop b) ks (prune lv b env) s QR
    | some j=>ih (some j) env s) ks
abbrev AEA (ct:Nat->Bool) (c:Code):Bool:=match keyOf c with
 | some k=>ct k
 | none=>false
noncomputable abbrev wpc (E:Env) (L:A8) (N:Nat) (lv:Nat->List Nat) (ct:Nat->Bool) (rs:List ResultVar) (QR:AV->AM->Prop) (c:Code):List Frame->En->AM->Prop:=
 Code.rec (motive:=λ_=>List Frame->En->AM->Prop)
  (λks env s=>wUE E L N lv rs QR ks none env s)
  (λid ops d ks env s=>match d with
   | false=>U6 E L N ops ops.toList env s λenv s=>wUE E L N lv rs QR ks none env s
   | true=>wO (L.pl id) λp=>ABd E L N p ops env s λenv s=>wUE E L N lv rs QR ks none env s)
  (λa b wQ kG ks env s=>match a with
   | .region id ops d=>match d with
    | false=>U6 E L N ops ops.toList env s λenv s=>match AEA ct b with
     | true=>Wp E L N rs b ks (prune lv b env) s QR
     | false=>kG ks env s
    | true=>wO (L.pl id) λp=>ABd E L N p ops env s λenv s=>match AEA ct b with
     | true=>Wp E L N rs b ks (prune lv b env) s QR
     | false=>kG ks env s
   | _=>wQ (.seq b::ks) env s)
  (λc _ _ wQ kG ks env s=>wO (IU (Ek env) c) λc=>AO c (wQ ks env s) (kG ks env s))
  (λid _ ih ks env s=>ih (.blk id::ks) env s)
  (λb _ ks env s=>Wp E L N rs (.loop b) ks (prune lv b env) s QR)
  (λg ps a b _ _ ks env s=>Wp E L N rs (.rangeFunc g ps a b) ks (prune lv (.rangeFunc g ps a b) env) s QR)
  (λj ks env s=>wUE E L N lv rs QR ks (some j) env s)
  (λ_ _ _ _ _=>False)
  (λ_ _ _ _=>False)
  (λ_ _ _ _=>False)
  (λ_ env s=>qN E (Ek env) s rs λvs=>QR (KJ vs) s)
  (λ_ _ _ _=>False) c
theorem HI.put {env:En} {ρ:Nat->AV} (h:HI (Ek env) ρ) (d:Nat) (v:AV):HI (Ek ((d,v)::env)) (upd ρ d v):=by
 intro t u hu;have hu':(bif Nat.beq t d then some v else Ek env t)=some u:=hu;unfold upd;cases hb:Nat.beq t d with
 | true=>grind
 | false=>rw[hb] at hu'; exact h t u hu'
theorem EZ {N:Nat} {d:Option Nat} {v:AV} {env:En} {K:En->Prop} {ρ:Nat->AV} {s:AM} (h:LH N d v env K) (hA:HI (Ek env) ρ) :
  ∃env' ρ',KF ⟨N,ρ,s⟩ d v=some ⟨N,ρ',s⟩/\HI (Ek env') ρ'/\K env':=by
 cases d with
 | none=>exact⟨env,ρ,rfl,hA,h⟩
 | some d=>
  simp only[LH] at h;cases hb:Nat.blt d N with
  | false=>grind
  | true=>
   rw[hb] at h;exact⟨_,upd ρ d v,by simp[KF,hb],hA.put d v,h⟩
theorem Je {ops:Array Oper} {lk:Lk} {o:Oper} {s:AM} {W:(AV->AM->Prop)->Prop} {K:AV->AM->Prop} {ρ:Nat->AV} (h:Jc ops lk o s W K) (hA:HI lk ρ) :
  (E9 ops ρ o=some true/\W K)\/(E9 ops ρ o=some false/\K (.tuple []) s):=by
 unfold Jc at h;unfold E9;split at h
 .grind
 .rename_i j want hg
  rw[hg];simp only;split at h
  .grind
  .rename_i d ht
   rw[ht];obtain⟨g,h1,h⟩:=BN h;simp only[hA d g h1];unfold I4 nx at h;split at h
   .rename_i b
    by_cases hb:b=want
    all_goals grind
   all_goals grind
theorem UM {E:Env} {L:A8} {lk:Lk} {s:AM} {o:Oper} {K:AV->AM->Prop} {ρ:Nat->AV} (h:ABa E L lk s o K) (hA:HI lk ρ) :
  ∃v s' n,(∀m,n<=m->M9 E L (Dz E m L) ρ s o=some (v,s'))/\K v s':=by
 have plain:wOp E L lk s o K->(∀cf,M9 E L cf ρ s o=Cc E L ρ s o)->∃v s' n,(∀m,n<=m->M9 E L (Dz E m L) ρ s o=some (v,s'))/\K v s':=by
  intro h ho;obtain⟨v,s',h1,h2⟩:=Wu hA h;exact⟨v,s',0,λm _=>by rw[ho,h1],h2⟩
 obtain⟨dst,op,type,pos,after,guard⟩:=o;cases op with
 | call c=>
  obtain⟨callee,args,ts⟩:=c;cases callee with
  | builtin b=>exact plain h λcf=>rfl
  | value f=>
   obtain⟨fv,h1,h⟩:=BN h;obtain⟨as,h2,h⟩:=BN h;unfold E3 at h;split at h
   .rename_i g first captured
    obtain⟨v,s',⟨n,hn⟩,hK⟩:=h;refine⟨v,s',n,λm hm=>?_,hK⟩
    grind[M9,Kw,CR,Y7]
   grind
  | _=>grind
 | _=>exact plain h λcf=>by rfl
theorem qO {L:A8} {s:AM} {e:TypeId} {i:TypeInfo} {x y ix v:AV} {K:AV->AM->Prop} (h:wFu L s e i.size i.bytes x y ix v K) :
  ∃z n rows row r s',rowsOf y=some [z]/\z.length=i.size/\(z.map AV.pv).all A9=true/\HA ix=some n/\rowsOf x=some rows/\n=rows.length/\Cm (cellsOf v)=some row/\row.length=i.size/\(cellsOf v).all A9=true /\
   KG L s e i x row=some (r,s')/\K r s':=by
 obtain⟨⟨z,h1,h2,h3⟩,h4,h5,h⟩:=h
 grind[rowsOf,KG]
theorem UN {E:Env} {L:A8} {N:Nat} {k:JB} {env:En} {s:AM} {K:En->AM->Prop} {ρ:Nat->AV} (h:ABb E L N k env s K) (hA:HI (Ek env) ρ) :
  ∃v s' env' ρ',JC E L ρ s k=some (v,s')/\J2 ⟨N,ρ,s⟩ k v s'=some ⟨N,ρ',s'⟩/\HI (Ek env') ρ'/\K env' s':=by
 obtain⟨e,h1,⟨h2,h3,h4,h5⟩,h⟩:=BN h;obtain⟨x,hx,h⟩:=BN h;obtain⟨y,hy,h⟩:=BN h;obtain⟨ix,R3,h⟩:=BN h;obtain⟨v,hv,h⟩:=BN h;obtain⟨e1,e2,e3⟩:=Ml h1;obtain⟨z,n,rows,row,r,s',k1,k2,k3,k4,k5,k6,k7,k8,k9,k10,rj⟩:=qO h;obtain⟨Jd,ρ1,p1,p2,p3⟩:=EZ (s:=s') rj hA;obtain⟨GO,ρ2,q1,q2,q3⟩:=EZ (s:=s') p3 p2
 grind[JC,CR,J2]
theorem jA {L:A8} {s:AM} {i:TypeInfo} {x y ix v:AV} {K:AV->AM->Prop} (h:AUW L s i.size i.bytes x y ix v K) {E:Env} {k:JB} {e:TypeId} {z:List AV} {ρ:Nat->AV}
  (e1:E.P.underlying k.t=some (.slice e)) (e2:E.P.info? e=some i) (e3:zeroOf E.P e=some z) (h2:L.mu e=true) (h3:k.te=e) (h4:z.length=i.size) (h5:i.size≠0)
  (hx:Ag ρ k.x=x) (hy:Ag ρ k.y=y) (R3:Ag ρ k.ix=ix) (hv:Ag ρ k.v=v) :
  ∃r s',KH E L ρ s k=some (r,s')/\K r s':=by
 obtain⟨id,len,old,zs,rfl,k1,k2,k3,⟨k4,k5,k6,k7,k8,k9,k10,rj,k12⟩,k13⟩:=h;refine⟨_,_,?_,k13⟩
 have ha:JC E L ρ s k=none:=by
  unfold JC;simp only[e1];rw[if_neg (by rw[h2]; simp)]
 rw[KH,ha];unfold VA;simp only[e1,e2,e3,hx,hy,R3,hv,k1,k2,k3,MN];rw[if_pos ⟨h2,h3⟩];exact if_pos ⟨Ae,k4,k6,k7,k5,h5,by simp[h4],Ae,Ae,k8,k9,k10,rj,k12⟩
theorem dL {E:Env} {L:A8} {N:Nat} {k:JB} {env:En} {s:AM} {K:En->AM->Prop} {ρ:Nat->AV} (h:ABc E L N k env s K) (hA:HI (Ek env) ρ) :
  ∃v s' env' ρ',KH E L ρ s k=some (v,s')/\J2 ⟨N,ρ,s⟩ k v s'=some ⟨N,ρ',s'⟩/\HI (Ek env') ρ'/\K env' s':=by
 obtain⟨e,h1,h⟩:=BN h;split at h
 .obtain⟨v,s',env',ρ',a1,a2⟩:=UN (K:=K) (show ABb E L N k env s K by unfold ABb; rw[h1]; exact h) hA
  exact⟨v,s',env',ρ',by rw[KH,a1],a2⟩
 .rename_i XV
  obtain⟨⟨h3,h4,h5⟩,h⟩:=h;obtain⟨x,hx,h⟩:=BN h;obtain⟨y,hy,h⟩:=BN h;obtain⟨ix,R3,h⟩:=BN h;obtain⟨v,hv,h⟩:=BN h;obtain⟨e1,e2,e3⟩:=Ml h1;obtain⟨r,s',k10,rj⟩:=jA h e1 e2 e3 XV h3 h4 h5 (CR hA hx) (CR hA hy) (CR hA R3) (CR hA hv);obtain⟨Jd,ρ1,p1,p2,p3⟩:=EZ (s:=s') rj hA;obtain⟨GO,ρ2,q1,q2,q3⟩:=EZ (s:=s') p3 p2;exact⟨r,s',GO,ρ2,k10,by simp only[J2,p1,q1],q2,q3⟩
theorem dM {E:Env} {L:A8} {cf:Cr} {ops:Array Oper} {o:Oper} {rest:List Oper} {st:St} (hf:HD o rest=true):IJ E L cf ops (o::rest) st=match E9 ops st.ρ o with
   | some true=>match Mu E L cf st o with
    | some st=>IJ E L cf ops rest st
    | none=>none
   | some false=>match KF st o.dst (.tuple []) with
    | some st=>IJ E L cf ops rest st
    | none=>none
   | none=>none:=by
 match rest,hf with
 | [],_=>rfl
 | [o1],_=>rfl
 | o1::o2::rest',hf=>
  grind[IJ,HD]
theorem qP {o:Oper} {rest:List Oper} (hf:HD o rest=true):insts (o::rest)=.one o::insts rest:=by
 match rest,hf with
 | [],_=>rfl
 | [o1],_=>rfl
 | o1::o2::rest',hf=>
  grind[insts,HD]
theorem ABe {E:Env} {L:A8} {N:Nat} {ops:Array Oper} {o:Oper} {rest:List Oper} {env:En} {s:AM} {K:En->AM->Prop} (hf:HD o rest=true) :
  U6 E L N ops (o::rest) env s K=Jc ops (Ek env) o s (ABa E L (Ek env) s o) λv s=>LH N o.dst v env λenv=>U6 E L N ops rest env s K:=by simp[*,U6,qP]
theorem ABf {E:Env} {L:A8} {N:Nat} {ops:Array Oper} {o o1 o2:Oper} {rest:List Oper} {env:En} {s:AM} {K:En->AM->Prop} {k:JB} (hk:fused o o1 o2=some k) :
  U6 E L N ops (o::o1::o2::rest) env s K=ABb E L N k env s λenv s=>U6 E L N ops rest env s K:=by simp[*,insts,U6]
theorem jB {E:Env} {L:A8} {N:Nat} {ops:Array Oper} {K:En->AM->Prop}:∀(b:Nat) (l:List Oper),l.length<=b->∀(env:En) (s:AM) (ρ:Nat->AV),U6 E L N ops l env s K->HI (Ek env) ρ ->
  ∃env' ρ' s' n,(∀m,n<=m->IJ E L (Dz E m L) ops l ⟨N,ρ,s⟩=some ⟨N,ρ',s'⟩)/\HI (Ek env') ρ'/\K env' s':=by
 intro b
 induction b with
 | zero=>
  intro l hl env s ρ h hA;have:l=[]:=jO.1 (by omega);subst this;exact⟨env,ρ,s,0,λm _=>rfl,hA,h⟩
 | succ b ih=>
  intro l hl env s ρ h hA;cases l with
  | nil=>exact⟨env,ρ,s,0,λm _=>rfl,hA,h⟩
  | cons o rest=>
   have hl':rest.length<=b:=by simpa using hl
   cases hf:HD o rest with
   | true=>
    rw[ABe hf] at h;rcases Je h hA with ⟨hg,h⟩|⟨hg,h⟩
    .obtain⟨v,s1,n1,h1,h2⟩:=UM h hA
     obtain⟨Jd,ρ1,p1,p2,p3⟩:=EZ (s:=s1) h2 hA;obtain⟨GO,ρ2,s2,n2,q1,q2,q3⟩:=ih rest hl' Jd s1 ρ1 p3 p2;refine⟨GO,ρ2,s2,n1+n2,λm hm=>?_,q2,q3⟩;rw[dM hf];simp only[hg,Mu,h1 m (by omega),p1];exact q1 m (by omega)
    .obtain⟨Jd,ρ1,p1,p2,p3⟩:=EZ (s:=s) h hA
     obtain⟨GO,ρ2,s2,n2,q1,q2,q3⟩:=ih rest hl' Jd s ρ1 p3 p2;refine⟨GO,ρ2,s2,n2,λm hm=>?_,q2,q3⟩;rw[dM hf];simp only[hg,p1];exact q1 m hm
   | false=>
    match rest,hf,hl',h with
    | [],hf,_,_=>simp_all[HD]
    | [o1],hf,_,_=>simp[HD] at hf
    | o1::o2::rest',hf,hl',h=>
     cases hk:fused o o1 o2 with
     | none=>simp_all[HD]
     | some k=>
      rw[ABf hk] at h;obtain⟨v,s1,Jd,ρ1,p1,p2,p3,p4⟩:=UN h hA;obtain⟨GO,ρ2,s2,n2,q1,q2,q3⟩:=ih rest' (by simp at hl'; omega) Jd s1 ρ1 p4 p3;refine⟨GO,ρ2,s2,n2,λm hm=>?_,q2,q3⟩;simp[*,IJ]
theorem qQ {E:Env} {L:A8} {ρ:Nat->AV} {s s':AM} {o:Oper} {v:AV} (hq:QK E L o=true) (h:Cc E L ρ s o=some (v,s')):JD E L ρ s o=some v:=by grind[KI,ER]
theorem LI {E:Env} {L:A8} {ops:Array Oper} {lk:Lk} {s:AM} {o:Oper} {K:AV->Prop} {ρ:Nat->AV} (h:Nn E L ops lk s o K) (hA:HI lk ρ):∃v,FA E L ops ρ s o=some v/\K v:=by
 unfold Nn at h;cases hq:QK E L o with
 | false=>simp_all
 | true=>
  rw[hq] at h;unfold FA;rcases Je h hA with ⟨hg,h⟩|⟨hg,h⟩
  .obtain⟨v,s',h1,h2⟩:=Wu hA h
   rw[hg];exact⟨v,qQ hq h1,h2⟩
  simp[*]
theorem dN {E:Env} {lk:Lk} {o:Oper} {K:List AV->(Nat->AV)->Prop} {ρ:Nat->AV} (h:wH E lk o K) (hA:HI lk ρ):∃cs mk,hcells E ρ o=some (cs,mk)/\K cs mk:=by grind[BN,hcells]
theorem I2 {E:Env} {L:A8} {N:Nat} {ops:Array Oper} {cls:List dW} {K:En->AM->Prop}:∀(l:List Nat) (env:En) (s:AM) (ρ:Nat->AV),UL E L N ops cls l env s K->HI (Ek env) ρ ->
  ∃env' ρ' s',JE E L ops cls l ⟨N,ρ,s⟩=some ⟨N,ρ',s'⟩/\HI (Ek env') ρ'/\K env' s'
 | [],env,s,ρ,h,hA=>⟨env,ρ,s,rfl,hA,h⟩
 | i::rest,env,s,ρ,h,hA=>by
  change (match ops[i]?,cls[i]? with
   | some o,some (.q _)=>Nn E L ops (Ek env) s o λv=>LH N o.dst v env λenv=>UL E L N ops cls rest env s K
   | some o,some (.h _)=>wH E (Ek env) o λcs mk=>LH N o.dst (mk s.bs.length) env λenv=>UL E L N ops cls rest env ⟨s.bs++[cs],s.ts⟩ K
   | _,_=>False) at h
  split at h
  .rename_i o ts ho hc
   obtain⟨v,h1,h2⟩:=LI h hA;obtain⟨Jd,ρ1,p1,p2,p3⟩:=EZ (s:=s) h2 hA;obtain⟨GO,ρ2,s2,q1,q2,q3⟩:=I2 rest Jd s ρ1 p3 p2;refine⟨GO,ρ2,s2,?_,q2,q3⟩;simp[*,JE]
  .rename_i o ts ho hc
   obtain⟨cs,mk,h1,h2⟩:=dN h hA;obtain⟨Jd,ρ1,p1,p2,p3⟩:=EZ (s:=⟨s.bs++[cs],s.ts⟩) h2 hA;obtain⟨GO,ρ2,s2,q1,q2,q3⟩:=I2 rest Jd _ ρ1 p3 p2;refine⟨GO,ρ2,s2,?_,q2,q3⟩;simp[*,JE]
  grind
theorem Fv {E:Env} {L:A8} {N:Nat} {ops:Array Oper} {cls:List dW} {K:En->AM->List AM->Prop}:∀(l:List Nat) (env:En) (s:AM) (acc:List AM) (ρ:Nat->AV),PB E L N ops cls l env s acc K->HI (Ek env) ρ ->
  ∃env' ρ' s' acc' n,(∀m,n<=m->HB E L (Dz E m L) ops cls l ⟨N,ρ,s⟩ acc=some (⟨N,ρ',s'⟩,acc'))/\HI (Ek env') ρ'/\K env' s' acc'
 | [],env,s,acc,ρ,h,hA=>⟨env,ρ,s,acc,0,λ_ _=>rfl,hA,h⟩
 | i::rest,env,s,acc,ρ,h,hA=>by
  change (match ops[i]?,cls[i]? with
   | some o,some (.q _)=>Nn E L ops (Ek env) s o λv=>LH N o.dst v env λenv=>PB E L N ops cls rest env s acc K
   | some o,some (.w _)=>Jc ops (Ek env) o s (ABa E L (Ek env) s o) λv s=>LH N o.dst v env λenv=>PB E L N ops cls rest env s (s::acc) K
   | some o,some (.fa _ j x)=>match ops[j]?,ops[x]? with
    | some o1,some o2=>match fused o o1 o2 with
     | some k=>ABc E L N k env s λenv s=>PB E L N ops cls rest env s (s::acc) K
     | none=>False
    | _,_=>False
   | some _,some .fj=>PB E L N ops cls rest env s acc K
   | some _,some .fx=>PB E L N ops cls rest env s acc K
   | _,_=>False) at h
  split at h
  .rename_i o ts ho hc
   obtain⟨v,h1,h2⟩:=LI h hA;obtain⟨Jd,ρ1,p1,p2,p3⟩:=EZ (s:=s) h2 hA;obtain⟨GO,ρ2,s2,Na,n2,q1,q2,q3⟩:=Fv rest Jd s acc ρ1 p3 p2;refine⟨GO,ρ2,s2,Na,n2,λm hm=>?_,q2,q3⟩;simp only[HB,ho,hc,h1,p1];exact q1 m hm
  .rename_i o r ho hc
   have:∃v s1 n1,(∀m,n1<=m->NA E L (Dz E m L) ops ρ s o=some (v,s1))/\LH N o.dst v env λenv=>PB E L N ops cls rest env s1 (s1::acc) K:=by
    rcases Je h hA with ⟨hg,h⟩|⟨hg,h⟩
    .obtain⟨v,s1,n1,h1,h2⟩:=UM h hA
     exact⟨v,s1,n1,λm hm=>by simp only[NA,hg,h1 m hm],h2⟩
    .exact⟨_,s,0,λm hm=>by simp only[NA,hg],h⟩
   obtain⟨v,s1,n1,h1,h2⟩:=this;obtain⟨Jd,ρ1,p1,p2,p3⟩:=EZ (s:=s1) h2 hA;obtain⟨GO,ρ2,s2,Na,n2,q1,q2,q3⟩:=Fv rest Jd s1 _ ρ1 p3 p2;refine⟨GO,ρ2,s2,Na,n1+n2,λm hm=>?_,q2,q3⟩;simp only[HB,ho,hc,h1 m (by omega),p1];exact q1 m (by omega)
  .rename_i o r j x ho hc
   split at h
   .rename_i o1 o2 hj hx
    split at h
    .rename_i k hk
     obtain⟨v,s1,Jd,ρ1,p1,p2,p3,p4⟩:=dL h hA;obtain⟨GO,ρ2,s2,Na,n2,q1,q2,q3⟩:=Fv rest Jd s1 _ ρ1 p4 p3;refine⟨GO,ρ2,s2,Na,n2,λm hm=>?_,q2,q3⟩;simp only[HB,ho,hc,hj,hx,hk,p1,p2];exact q1 m hm
    .exact h.elim
   .exact h.elim
  .rename_i o ho hc
   obtain⟨GO,ρ2,s2,Na,n2,q1,q2,q3⟩:=Fv rest env s acc ρ h hA;refine⟨GO,ρ2,s2,Na,n2,λm hm=>?_,q2,q3⟩;simp only[HB,ho,hc];exact q1 m hm
  .rename_i o ho hc
   obtain⟨GO,ρ2,s2,Na,n2,q1,q2,q3⟩:=Fv rest env s acc ρ h hA;refine⟨GO,ρ2,s2,Na,n2,λm hm=>?_,q2,q3⟩;simp only[HB,ho,hc];exact q1 m hm
  .exact h.elim
theorem HI.at_ {GQ:List (List Nat)} {Ex EF:En} {ρ0 ρf:Nat->AV} (h0:HI (Ek Ex) ρ0) (hf:HI (Ek EF) ρf) (i:Nat):HI (iz GQ Ex EF i) (FV GQ ρ0 ρf i):=by
 intro t v hv;unfold iz at hv;unfold FV;cases hb:has (HO GQ i) t with
 | true=>rw[hb] at hv; exact h0 t v hv
 | false=>rw[hb] at hv; exact hf t v hv
theorem Np {E:Env} {L:A8} {ops:Array Oper} {cls:List dW} {GQ:List (List Nat)} {Ex EF:En} {ρ0 ρf:Nat->AV} {σ:List AM} (h0:HI (Ek Ex) ρ0) (hf:HI (Ek EF) ρf) {K:Prop} :
  ∀l,ANC E L ops cls GQ Ex EF σ l K->dY E L ops cls GQ ρ0 ρf σ l=true/\K
 | [],h=>⟨rfl,h⟩
 | (i,k)::rest,h=>by
  obtain⟨h,h'⟩:=h;obtain⟨r1,r2⟩:=Np h0 hf rest h';refine⟨?_,r2⟩;simp only[dY,r1,Ie];split at h
  .rename_i o ts s ho hc hs
   obtain⟨v,h1,h2⟩:=LI h (HI.at_ h0 hf i);simp only[ho,hc,hs,h1];cases hd:o.dst with
   | none=>rfl
   | some d=>
    rw[hd] at h2;obtain⟨u,h3,h4⟩:=BN h2;simp only[hf d u h3,h4]
  .rename_i o ts s ho hc hs
   obtain⟨cs,mk,h1,h2⟩:=dN h (HI.at_ h0 hf i);simp only[ho,hc,hs,h1];cases hd:o.dst with
   | none=>simp_all
   | some d=>
    rw[hd] at h2;obtain⟨u,h3,h4⟩:=BN h2;obtain⟨id,h5,h6⟩:=BN h4;obtain⟨cs',h7,h8⟩:=BN h6;simp only[hf d u h3,h5,h7,h8]
  simp[*]
theorem LJ {ops:Array Oper} {p:Bb} {Ex EF:En} {ρ0 ρf:Nat->AV} {FB off len sz:Nat} (h0:HI (Ek Ex) ρ0) (hf:HI (Ek EF) ρf) {K:Prop} :
  ∀l,U7 ops p Ex EF (.ref FB off len sz) l K->QO ops p ρ0 ρf FB l=true/\K
 | [],h=>⟨rfl,h⟩
 | m::l,h=>by
  change (match ops[m]?,p.cls[m]? with
   | some om,some (.w _)=>match om.op with
    | .store _ y _=>(wO (IU (iz p.GQ Ex EF m) y) λa=>ANB a (.ref FB off len sz))/\U7 ops p Ex EF (.ref FB off len sz) l K
    | _=>U7 ops p Ex EF (.ref FB off len sz) l K
   | _,_=>U7 ops p Ex EF (.ref FB off len sz) l K) at h
  rw[QO];split at h
  .rename_i om r ho hc
   simp only[ho,hc];split at h
   .rename_i t y z hop
    obtain⟨h1,h2⟩:=h;obtain⟨a,h3,h4⟩:=BN h1;obtain⟨h5,h6⟩:=LJ h0 hf l h2;refine⟨?_,h6⟩;simp only[hop,CR (HI.at_ h0 hf m) h3,h5,Ie];split
    .rename_i id o
     have:=h4 id o FB off len sz rfl rfl;exact Ba Bool.not (Ny.2 λe=>this (Bz e))
    .rfl
   .obtain⟨h5,h6⟩:=LJ h0 hf l h
    refine⟨?_,h6⟩;rw[h5,Ie];split
    .rename_i hn _ _ _ _ hop
     exact absurd hop (hn _ _ _)
    .rfl
  .rename_i hn
   obtain⟨h5,h6⟩:=LJ h0 hf l h;refine⟨?_,h6⟩;rw[h5,Ie];split
   .rename_i om r ho hc
    exact absurd hc (hn _ _ ho)
   .rfl
theorem UO {E:Env} {L:A8} {ops:Array Oper} {p:Bb} {Ex EF:En} {ρ0 ρf:Nat->AV} (h0:HI (Ek Ex) ρ0) (hf:HI (Ek EF) ρf) {K:Prop} :
  ∀l,QL E L ops p Ex EF l K->Rx E L ops p ρ0 ρf l=true/\K
 | [],h=>⟨rfl,h⟩
 | i::l,h=>by
  change (match p.cls[i]? with
   | some (.fa _ j x)=>match Qx E L ops i j x with
    | true=>match ops[i]? with
     | some o=>match o.dst with
      | some d=>wO (Ek EF d) λr=>U7 ops p Ex EF r p.rest (QL E L ops p Ex EF l K)
      | none=>QL E L ops p Ex EF l K
     | none=>QL E L ops p Ex EF l K
    | false=>QL E L ops p Ex EF l K
   | _=>QL E L ops p Ex EF l K) at h
  have qR:QL E L ops p Ex EF l K->Rx E L ops p ρ0 ρf l=true/\K:=λh=>UO h0 hf l h
  rw[Rx];split at h
  .rename_i r j x hc
   simp only[hc];split at h
   .rename_i hm
    simp only[hm,AN];split at h
    .rename_i o ho
     simp only[ho];split at h
     .rename_i d hd
      obtain⟨r,h1,h2⟩:=BN h;simp only[hd,hf d r h1];cases r with
      | ref FB off len sz=>
       obtain⟨h3,h4⟩:=LJ h0 hf _ h2;obtain⟨h5,h6⟩:=qR h4;exact⟨by simp only[h3,h5,Ie],h6⟩
      | _=>exact(by
        have:∀(r:AV) (q:List Nat),(U7 ops p Ex EF r q (QL E L ops p Ex EF l K))->QL E L ops p Ex EF l K:=λr q=>by
         induction q with
         | nil=>exact λh=>h
         | cons m q ih=>
          intro h
          change (match ops[m]?,p.cls[m]? with
           | some om,some (.w _)=>match om.op with
            | .store _ y _=>(wO (IU (iz p.GQ Ex EF m) y) λa=>ANB a r)/\U7 ops p Ex EF r q (QL E L ops p Ex EF l K)
            | _=>U7 ops p Ex EF r q (QL E L ops p Ex EF l K)
           | _,_=>U7 ops p Ex EF r q (QL E L ops p Ex EF l K)) at h
          split at h
          .split at h
           .exact ih h.2
           .exact ih h
          .exact ih h
        obtain⟨h5,h6⟩:=qR (this _ _ h2);exact⟨by simp only[h5,Ie],h6⟩)
     .rename_i hd
      simp only[hd];simpa using qR h
    .rename_i ho
     simp only[ho];simpa using qR h
   .rename_i hm
    simp only[hm,AG];simpa using qR h
  .rename_i hn
   obtain⟨h5,h6⟩:=qR h;refine⟨?_,h6⟩;rw[h5,Ie];split
   .rename_i r j x hc
    exact absurd hc (hn _ _ _)
   .rfl
theorem jC {E:Env} {L:A8} {N:Nat} {p:Bb} {ops:Array Oper} {env:En} {s:AM} {K:En->AM->Prop} {ρ:Nat->AV} (h:ABd E L N p ops env s K) (hA:HI (Ek env) ρ) :
  ∃env' ρ' s' n,(∀m,n<=m->XP E L (Dz E m L) p ops ⟨N,ρ,s⟩=some ⟨N,ρ',s'⟩)/\HI (Ek env') ρ'/\K env' s':=by
 unfold ABd at h;split at h
 .rename_i XV
  obtain⟨Jd,ρ1,s1,a1,a2,a3⟩:=I2 _ _ _ _ h hA;obtain⟨GO,ρ2,s2,acc,n,b1,b2,b3⟩:=Fv _ _ _ _ _ a3 a2;obtain⟨c1,c2⟩:=Np hA b2 _ b3;refine⟨GO,ρ2,s2,n,λm hm=>?_,b2,c2⟩;simp[*,XP,VB]
 .obtain⟨Jd,ρ1,s1,a1,a2,a3⟩:=I2 _ _ _ _ h hA
  obtain⟨GO,ρ2,s2,acc,n,b1,b2,b3⟩:=Fv _ _ _ _ _ a3 a2;obtain⟨d1,d2⟩:=UO hA b2 _ b3;obtain⟨c1,c2⟩:=Np hA b2 _ d2;refine⟨GO,ρ2,s2,n,λm hm=>?_,b2,c2⟩;simp only[XP,a1,b1 m hm,c1,VB,d1,G6,Ie,AN]
end Go.Tel
