/-
  What a piece of code needs so that it answers as wanted: definitions.
-/
import Derived.Test.YtpgfpakdnijngaaGreatDoorWvA
set_option linter.unusedSimpArgs false
set_option linter.unusedVariables false
namespace Go.Tel
abbrev En:=List (Nat×AV)
noncomputable abbrev Fo (env:En) (t:Nat):Option AV:=
 List.rec (motive:=fun _=>Option AV) none (fun(p:Nat×AV) _ ih=>bif Nat.beq t p.1 then some p.2 else ih) env
abbrev OD (N:Nat) (d:Option Nat) (v:AV) (env:En) (K:En->Prop):Prop:=match d with
 | none=>K env
 | some d=>match Nat.blt d N with
  | true=>K ((d,v)::env)
  | false=>False
def nT (g:AV) (want:Bool) (A B:Prop):Prop:=match g with
 | .pv (.sc (.bool b))=>(b=want->A)/\(b≠want->B)
 | .tuple []=>B
 | _=>False
def KX (g:AV) (want:Bool) (s:AK) (W:(AV->AK->Prop)->Prop) (K:AV->AK->Prop):Prop:=nT g want (W K) (K (.tuple []) s)
abbrev Jq (ops:Array Oper) (lk:Lk) (o:Oper) (s:AK) (W:(AV->AK->Prop)->Prop) (K:AV->AK->Prop):Prop:=match o.guard with
 | none=>W K
 | some (_,want)=>match Ob ops o with
  | none=>K (.tuple []) s
  | some d=>wO (lk d) fun g=>KX g want s W K
abbrev wB (E:Env) (L:A0) (lk:Lk) (s:AK) (o:Oper) (K:AV->AK->Prop):Prop:=match o.op with
 | .call c=>match c.callee with
  | .builtin _=>v8 E L lk s o K
  | .value f=>wO (Im lk f) fun f=>wO (gR lk c.args.toList) fun args=>Fe E L f args s K
  | _=>False
 | _=>v8 E L lk s o K
def wFu (L:A0) (s:AK) (e:TypeId) (k bytes:Nat) (x y ix v:AV) (K:AV->AK->Prop):Prop:=
 (∃ z,rowsOf y=some [z]/\z.length=k/\(z.map AV.pv).all Ar=true)/\Hg ix=(rowsOf x).map List.length/\AJa L s e k bytes x v K
noncomputable abbrev wC (E:Env) (L:A0) (N:Nat) (k:Kc) (env:En) (s:AK) (K:En->AK->Prop):Prop:=
 wO (Wk E.P k.t) fun e=>(L.mu e.1=false/\k.te=e.1/\e.2.2.length=e.2.1.size/\e.2.1.size≠0) /\
 wO (Im (Fo env) k.x) fun x=>wO (Im (Fo env) k.y) fun y=>wO (Im (Fo env) k.ix) fun ix=>wO (Im (Fo env) k.v) fun v=>
  wFu L s e.1 e.2.1.size e.2.1.bytes x y ix v fun r s=>OD N (some k.d) r env fun env=>OD N (some k.p) .HU env fun env=>K env s
inductive Ins where
 | one (o:Oper)
 | fus (k:Kc)
def insts:List Oper->List Ins
 | []=>[]
 | o::rest=>
  let one:=Ins.one o::insts rest
  match rest with
  | o1::o2::rest'=>match fused o o1 o2 with
   | some k=>.fus k::insts rest'
   | none=>one
  | _=>one
noncomputable abbrev ARS (E:Env) (L:A0) (N:Nat) (ops:Array Oper) (l:List Ins):En->AK->(En->AK->Prop)->Prop:=
 List.rec (motive:=fun _=>En->AK->(En->AK->Prop)->Prop) (fun env s K=>K env s)
  (fun(i:Ins) _ ih env s K=>match i with
   | .one o=>Jq ops (Fo env) o s (wB E L (Fo env) s o) fun v s=>OD N o.dst v env fun env=>ih env s K
   | .fus k=>wC E L N k env s fun env s=>ih env s K) l
noncomputable abbrev UI (E:Env) (L:A0) (N:Nat) (ops:Array Oper) (l:List Oper) (env:En) (s:AK) (K:En->AK->Prop):Prop:=ARS E L N ops (insts l) env s K
abbrev EY (E:Env) (L:A0) (o:Oper):Bool:=match o.op with
 | .alloc _|.box _ _|.store _ _ _|.makeMap _ _|.mapUpdate _ _ _ _|.insert _ _ _ _=>false
 | .makeSlice _ _ _=>false
 | .call { callee:=.builtin .delete,.. }=>false
 | .buildSlice t _ _=>match E.P.underlying t with
  | some (.slice elem)=>!L.mu elem
  | _=>false
 | .call { callee:=.builtin .append,.. }=>false
 | _=>true
abbrev OE (E:Env) (L:A0) (ops:Array Oper) (lk:Lk) (s:AK) (o:Oper) (K:AV->Prop):Prop:=
 match EY E L o with
 | true=>Jq ops lk o s (v8 E L lk s o) fun v _=>K v
 | false=>False
abbrev wH (E:Env) (lk:Lk) (o:Oper) (K:List AV->(Nat->AV)->Prop):Prop:=match o.op with
 | .alloc t=>wO (zeroOf E.P t) fun z=>match E.bz t with
  | true=>False
  | false=>K z (fun id=>.ptr id 0)
 | _=>∃ cs mk,(∀ ρ,Ik lk ρ->hcells E ρ o=some (cs,mk))/\K cs mk
noncomputable abbrev Yw (E:Env) (L:A0) (N:Nat) (ops:Array Oper) (cls:List c9) (l:List Nat):En->AK->(En->AK->Prop)->Prop:=
 List.rec (motive:=fun _=>En->AK->(En->AK->Prop)->Prop) (fun env s K=>K env s)
  (fun(i:Nat) _ ih env s K=>match ops[i]?,cls[i]? with
   | some o,some (.q _)=>OE E L ops (Fo env) s o fun v=>OD N o.dst v env fun env=>ih env s K
   | some o,some (.h _)=>wH E (Fo env) o fun cs mk=>OD N o.dst (mk s.bs.length) env fun env=>ih env ⟨s.bs++[cs],s.ts⟩ K
   | _,_=>False) l
noncomputable abbrev RJ (E:Env) (L:A0) (N:Nat) (ops:Array Oper) (cls:List c9) (l:List Nat):En->AK->List AK->(En->AK->List AK->Prop)->Prop:=
 List.rec (motive:=fun _=>En->AK->List AK->(En->AK->List AK->Prop)->Prop) (fun env s acc K=>K env s acc)
  (fun(i:Nat) _ ih env s acc K=>match ops[i]?,cls[i]? with
   | some o,some (.q _)=>OE E L ops (Fo env) s o fun v=>OD N o.dst v env fun env=>ih env s acc K
   | some o,some (.w _)=>Jq ops (Fo env) o s (wB E L (Fo env) s o) fun v s=>OD N o.dst v env fun env=>ih env s (s::acc) K
   | some o,some (.fa _ j x)=>match ops[j]?,ops[x]? with
    | some o1,some o2=>match fused o o1 o2 with
     | some k=>wC E L N k env s fun env s=>ih env s (s::acc) K
     | none=>False
    | _,_=>False
   | some _,some .fj=>ih env s acc K
   | some _,some .fx=>ih env s acc K
   | _,_=>False) l
noncomputable abbrev AAL (G0:List (List Nat)) (VD RY:En) (i t:Nat):Option AV:=bif has (HM G0 i) t then Fo VD t else Fo RY t
noncomputable abbrev AMT (E:Env) (L:A0) (ops:Array Oper) (cls:List c9) (G0:List (List Nat)) (VD RY:En) (σ:List AK) (l:List (Nat×Nat)) (K:Prop):Prop:=
 List.rec (motive:=fun _=>Prop) K
  (fun(p:Nat×Nat) _ ih=>(match ops[p.1]?,cls[p.1]?,σ[p.2]? with
   | some o,some (.q _),some s=>OE E L ops (AAL G0 VD RY p.1) s o fun v=>match o.dst with
    | some d=>wO (Fo RY d) fun u=>Cu v u=true
    | none=>True
   | some o,some (.h _),some s=>wH E (AAL G0 VD RY p.1) o fun cs _=>match o.dst with
    | some d=>wO (Fo RY d) fun u=>wO (Kg u) fun id=>wO s.bs[id]? fun cs'=>L7 cs' cs=true
    | none=>False
   | _,_,_=>False)/\ih) l
noncomputable abbrev nC (E:Env) (L:A0) (N:Nat) (p:Bg) (ops:Array Oper) (env:En) (s:AK) (K:En->AK->Prop):Prop:=match oE E L ops p.cls p.rest with
 | true=>Yw E L N ops p.cls p.first env s fun GK s1=>RJ E L N ops p.cls p.rest GK s1 [s1] fun HT s2 acc=>AMT E L ops p.cls p.G0 env HT acc.reverse p.Yz (K HT s2)
 | false=>False
def sub:Code->List Nat->Code
 | c,[]=>c
 | .seq a b,i::p=>match i with
  | 0=>sub a p
  | _=>sub b p
 | .cond _ a b,i::p=>match i with
  | 0=>sub a p
  | _=>sub b p
 | .block _ b,_::p=>sub b p
 | .loop b,_::p=>sub b p
 | c,_=>c
def AGV (c:Code) (i:Nat):Oper:=match c with
 | .region _ ops _=>ops[i]?.getD ⟨none,.move (.tmp 0),0,"",#[],none⟩
 | _=>⟨none,.move (.tmp 0),0,"",#[],none⟩
def Vn (E:Env) (L:A0) (s:AK) (lk:Lk) (o:Oper) (K:AV->AK->Prop):Prop:=VC E L lk s o K
def CG (E:Env) (L:A0) (c:Code) (st:St) (o:Out) (st':St):Prop:=
 ∃ n,∀ m k,n<=m->n<=k->HV E (Cw E m) k L c st=some (o,st')
inductive Frame where
 | seq (b:Code)
 | blk (id:Nat)
 | loop (b:Code)
def RI (E:Env) (L:A0) (Q:Out->St->Prop):List Frame->Out->St->Prop
 | [],o,st=>Q o st
 | .seq b::ks,o,st=>match o with
  | .norm=>∃ o st',CG E L b st o st'/\RI E L Q ks o st'
  | o=>RI E L Q ks o st
 | .blk id::ks,o,st=>match o with
  | .exit j=>bif Nat.beq j id then RI E L Q ks .norm st else RI E L Q ks (.exit j) st
  | o=>RI E L Q ks o st
 | .loop b::ks,o,st=>match o with
  | .norm=>∃ o st',CG E L (.loop b) st o st'/\RI E L Q ks o st'
  | o=>RI E L Q ks o st
def Fin (E:Env) (rs:List ResultVar) (QR:AV->AK->Prop) (o:Out) (st:St):Prop:=
 (∀ id,o≠.exit id)/\∃ vs,F4 E st rs=some vs/\QR (JS vs) st.s
def Wp (E:Env) (L:A0) (N:Nat) (rs:List ResultVar) (c:Code) (ks:List Frame) (env:En) (s:AK) (QR:AV->AK->Prop):Prop:=
 ∀ ρ,Ik (Fo env) ρ->∃ o st,CG E L c ⟨N,ρ,s⟩ o st/\RI E L (Fin E rs QR) ks o st
abbrev keyOf:Code->Option Nat
 | .region id _ _=>some id
 | .seq a b=>match keyOf a with
  | some k=>some k
  | none=>keyOf b
 | .cond _ a b=>match keyOf a with
  | some k=>some k
  | none=>keyOf b
 | .block _ b=>keyOf b
 | .loop b=>keyOf b
 | .rangeFunc _ _ a _=>keyOf a
 | _=>none
noncomputable abbrev prune (lv:Nat->List Nat) (c:Code) (env:En):En:=match keyOf c with
 | some k=>(lv k).filterMap fun t=>match Fo env t with
  | some v=>some (t,v)
  | none=>none
 | none=>env
noncomputable abbrev cT (E:Env) (lk:Lk) (s:AK) (rs:List ResultVar):(List AV->Prop)->Prop:=
 List.rec (motive:=fun _=>(List AV->Prop)->Prop) (fun K=>K [])
  (fun(r:ResultVar) _ ih K=>match r with
   | .tmp t=>wO (lk t) fun v=>ih fun vs=>K (v::vs)
   | .cell a t=>wO (lk a) fun a=>wO (ldK E.P t) fun k=>FA E s k a fun v=>ih fun vs=>K (v::vs)) rs
def AX (c:AV) (A B:Prop):Prop:=match c with
 | .pv (.sc (.bool t))=>(t=true->A)/\(t=false->B)
 | _=>False
noncomputable abbrev x8 (E:Env) (L:A0) (N:Nat) (lv:Nat->List Nat) (rs:List ResultVar) (QR:AV->AK->Prop) (ks:List Frame):Option Nat->En->AK->Prop:=
 List.rec (motive:=fun _=>Option Nat->En->AK->Prop)
  (fun o env s=>match o with
   | none=>cT E (Fo env) s rs fun vs=>QR (JS vs) s
   | some _=>False)
  (fun(fr:Frame) (ks:List Frame) ih o env s=>match fr with
   | .seq b=>match o with
    | none=>match b with
     | .ret=>cT E (Fo env) s rs fun vs=>QR (JS vs) s
     | .skip=>ih none env s
     | .exit j=>ih (some j) env s
     | b=>Wp E L N rs b ks (prune lv b env) s QR
    | some j=>ih (some j) env s
   | .blk id=>match o with
    | none=>ih none env s
    | some j=>match Nat.beq j id with
     | true=>ih none env s
     | false=>ih (some j) env s
   | .loop b=>match o with
    | none=>Wp E L N rs (.loop b) ks (prune lv b env) s QR
    | some j=>ih (some j) env s) ks
abbrev AAM (ct:Nat->Bool) (c:Code):Bool:=match keyOf c with
 | some k=>ct k
 | none=>false
noncomputable abbrev wpc (E:Env) (L:A0) (N:Nat) (lv:Nat->List Nat) (ct:Nat->Bool) (rs:List ResultVar) (QR:AV->AK->Prop) (c:Code):List Frame->En->AK->Prop:=
 Code.rec (motive:=fun _=>List Frame->En->AK->Prop)
  (fun ks env s=>x8 E L N lv rs QR ks none env s)
  (fun id ops d ks env s=>match d with
   | false=>UI E L N ops ops.toList env s fun env s=>x8 E L N lv rs QR ks none env s
   | true=>wO (L.pl id) fun p=>nC E L N p ops env s fun env s=>x8 E L N lv rs QR ks none env s)
  (fun a b U4 TI ks env s=>match a with
   | .region id ops d=>match d with
    | false=>UI E L N ops ops.toList env s fun env s=>match AAM ct b with
     | true=>Wp E L N rs b ks (prune lv b env) s QR
     | false=>TI ks env s
    | true=>wO (L.pl id) fun p=>nC E L N p ops env s fun env s=>match AAM ct b with
     | true=>Wp E L N rs b ks (prune lv b env) s QR
     | false=>TI ks env s
   | _=>U4 (.seq b::ks) env s)
  (fun c _ _ U4 TI ks env s=>wO (Im (Fo env) c) fun c=>AX c (U4 ks env s) (TI ks env s))
  (fun id _ ih ks env s=>ih (.blk id::ks) env s)
  (fun b _ ks env s=>Wp E L N rs (.loop b) ks (prune lv b env) s QR)
  (fun g ps a b _ _ ks env s=>Wp E L N rs (.rangeFunc g ps a b) ks (prune lv (.rangeFunc g ps a b) env) s QR)
  (fun j ks env s=>x8 E L N lv rs QR ks (some j) env s)
  (fun _ _ _ _ _=>False)
  (fun _ _ _ _=>False)
  (fun _ _ _ _=>False)
  (fun _ env s=>cT E (Fo env) s rs fun vs=>QR (JS vs) s)
  (fun _ _ _ _=>False) c
theorem Ik.put {env:En} {ρ:Nat->AV} (h:Ik (Fo env) ρ) (d:Nat) (v:AV):Ik (Fo ((d,v)::env)) (XM ρ d v):=by
 intro t u hu;have hu':(bif Nat.beq t d then some v else Fo env t)=some u:=hu;unfold XM;cases hb:Nat.beq t d with
 | true=>rw[hb] at hu'; simpa using hu'
 | false=>rw[hb] at hu'; exact h t u hu'
theorem GL {N:Nat} {d:Option Nat} {v:AV} {env:En} {K:En->Prop} {ρ:Nat->AV} {s:AK} (h:OD N d v env K) (hA:Ik (Fo env) ρ) :
  ∃ env' ρ',Kb ⟨N,ρ,s⟩ d v=some ⟨N,ρ',s⟩/\Ik (Fo env') ρ'/\K env':=by
 cases d with
 | none=>exact⟨env,ρ,rfl,hA,h⟩
 | some d=>
  simp only[OD] at h;cases hb:Nat.blt d N with
  | false=>rw[hb] at h; exact h.elim
  | true=>
   rw[hb] at h;exact⟨_,XM ρ d v,by simp[Kb,hb],hA.put d v,h⟩
theorem Jr {ops:Array Oper} {lk:Lk} {o:Oper} {s:AK} {W:(AV->AK->Prop)->Prop} {K:AV->AK->Prop} {ρ:Nat->AV} (h:Jq ops lk o s W K) (hA:Ik lk ρ) :
  (E6 ops ρ o=some true/\W K)\/(E6 ops ρ o=some false/\K (.tuple []) s):=by
 unfold Jq at h;unfold E6;split at h
 ·rename_i hg
  rw[hg];exact .inl ⟨rfl,h⟩
 ·rename_i j want hg
  rw[hg];simp only;split at h
  ·rename_i ht
   rw[ht];exact .inr ⟨rfl,h⟩
  ·rename_i d ht
   rw[ht];obtain⟨g,h1,h⟩:=Ag h;simp only[hA d g h1];unfold KX nT at h;split at h
   ·rename_i b
    by_cases hb:b=want
    ·exact .inl ⟨by simp[hb],h.1 hb⟩
    ·exact .inr ⟨by simp[hb],h.2 hb⟩
   ·exact .inr ⟨rfl,h⟩
   ·exact h.elim
theorem UM {E:Env} {L:A0} {lk:Lk} {s:AK} {o:Oper} {K:AV->AK->Prop} {ρ:Nat->AV} (h:wB E L lk s o K) (hA:Ik lk ρ) :
  ∃ v s' n,(∀ m,n<=m->ND E L (Cw E m L) ρ s o=some (v,s'))/\K v s':=by
 have plain:v8 E L lk s o K->(∀ cf,ND E L cf ρ s o=CE E L ρ s o)->∃ v s' n,(∀ m,n<=m->ND E L (Cw E m L) ρ s o=some (v,s'))/\K v s':=by
  intro h ho;obtain⟨v,s',h1,h2⟩:=Wn hA h;exact⟨v,s',0,fun m _=>by rw[ho,h1],h2⟩
 obtain⟨dst,op,type,pos,after,guard⟩:=o;cases op with
 | call c=>
  obtain⟨callee,args,ts⟩:=c;cases callee with
  | builtin b=>exact plain h fun cf=>rfl
  | value f=>
   obtain⟨fv,h1,h⟩:=Ag h;obtain⟨as,h2,h⟩:=Ag h;unfold Fe at h;split at h
   ·rename_i g first captured
    obtain⟨v,s',⟨n,hn⟩,hK⟩:=h;refine⟨v,s',n,fun m hm=>?_,hK⟩;simp only[ND,J5,BU hA h1,R8 hA h2];exact hn m hm
   ·exact h.elim
  | _=>exact h.elim
 | _=>exact plain h fun cf=>by rw[Mu]; rfl
theorem nJ {L:A0} {s:AK} {e:TypeId} {i:TypeInfo} {x y ix v:AV} {K:AV->AK->Prop} (h:wFu L s e i.size i.bytes x y ix v K) :
  ∃ z n rows row r s',rowsOf y=some [z]/\z.length=i.size/\(z.map AV.pv).all Ar=true/\Hg ix=some n/\rowsOf x=some rows/\n=rows.length/\Cn (cellsOf v)=some row/\row.length=i.size/\(cellsOf v).all Ar=true /\
   Ke L s e i x row=some (r,s')/\K r s':=by
 obtain⟨⟨z,h1,h2,h3⟩,h4,h5,h⟩:=h;obtain⟨row,h6,h7,h⟩:=Ag h
 have:∃ rows,rowsOf x=some rows/\∃ r s',Ke L s e i x row=some (r,s')/\K r s':=by
  split at h
  ·exact⟨_,rfl,_,_,if_pos h.1,h.2⟩
  ·exact⟨_,rfl,_,_,if_pos h.1,h.2⟩
  ·exact h.elim
 obtain⟨rows,h8,r,s',h9,h10⟩:=this;refine⟨z,rows.length,rows,row,r,s',h1,h2,h3,?_,h8,rfl,h6,h7,h5,h9,h10⟩;rw[h4,h8];rfl
theorem UN {E:Env} {L:A0} {N:Nat} {k:Kc} {env:En} {s:AK} {K:En->AK->Prop} {ρ:Nat->AV} (h:wC E L N k env s K) (hA:Ik (Fo env) ρ) :
  ∃ v s' env' ρ',Kf E L ρ s k=some (v,s')/\LK ⟨N,ρ,s⟩ k v s'=some ⟨N,ρ',s'⟩/\Ik (Fo env') ρ'/\K env' s':=by
 obtain⟨e,h1,⟨h2,h3,h4,h5⟩,h⟩:=Ag h;obtain⟨x,hx,h⟩:=Ag h;obtain⟨y,hy,h⟩:=Ag h;obtain⟨ix,SM,h⟩:=Ag h;obtain⟨v,hv,h⟩:=Ag h;obtain⟨e1,e2,e3⟩:=Qg h1;obtain⟨z,n,rows,row,r,s',k1,k2,k3,k4,k5,k6,k7,k8,k9,yL,k11⟩:=nJ h;obtain⟨GK,ρ1,p1,p2,p3⟩:=GL (s:=s') k11 hA;obtain⟨HT,ρ2,q1,q2,q3⟩:=GL (s:=s') p3 p2;refine⟨r,s',HT,ρ2,?_,?_,q2,q3⟩
 ·unfold Kf
  simp only[e1,BU hA hx,BU hA hy,BU hA SM,BU hA hv,e2,e3,k1,k4,k5,k7,Jw];rw[if_pos ⟨h2,h3⟩,if_pos ⟨k6,k2,k8,k9,k3,h5,by rw[h4]⟩];exact yL
 ·simp only[LK,p1,q1]
theorem cW {E:Env} {L:A0} {cf:Co} {ops:Array Oper} {o:Oper} {rest:List Oper} {st:St} (hf:HO o rest=true):Ip E L cf ops (o::rest) st=match E6 ops st.ρ o with
   | some true=>match NP E L cf st o with
    | some st=>Ip E L cf ops rest st
    | none=>none
   | some false=>match Kb st o.dst (.tuple []) with
    | some st=>Ip E L cf ops rest st
    | none=>none
   | none=>none:=by
 match rest,hf with
 | [],_=>rfl
 | [o1],_=>rfl
 | o1::o2::rest',hf=>
  rw[Ip];cases hk:fused o o1 o2 with
  | some k=>simp[HO,hk] at hf
  | none=>rfl
theorem nK {o:Oper} {rest:List Oper} (hf:HO o rest=true):insts (o::rest)=.one o::insts rest:=by
 match rest,hf with
 | [],_=>rfl
 | [o1],_=>rfl
 | o1::o2::rest',hf=>
  rw[insts];cases hk:fused o o1 o2 with
  | some k=>simp[HO,hk] at hf
  | none=>rfl
theorem wD {E:Env} {L:A0} {N:Nat} {ops:Array Oper} {o:Oper} {rest:List Oper} {env:En} {s:AK} {K:En->AK->Prop} (hf:HO o rest=true) :
  UI E L N ops (o::rest) env s K=Jq ops (Fo env) o s (wB E L (Fo env) s o) fun v s=>OD N o.dst v env fun env=>UI E L N ops rest env s K:=by
 unfold UI;rw[nK hf]
theorem wE {E:Env} {L:A0} {N:Nat} {ops:Array Oper} {o o1 o2:Oper} {rest:List Oper} {env:En} {s:AK} {K:En->AK->Prop} {k:Kc} (hk:fused o o1 o2=some k) :
  UI E L N ops (o::o1::o2::rest) env s K=wC E L N k env s fun env s=>UI E L N ops rest env s K:=by
 have:insts (o::o1::o2::rest)=.fus k::insts rest:=by
  rw[insts,hk]
 unfold UI;rw[this]
theorem gX {E:Env} {L:A0} {N:Nat} {ops:Array Oper} {K:En->AK->Prop}:∀ (b:Nat) (l:List Oper),l.length<=b->∀ (env:En) (s:AK) (ρ:Nat->AV),UI E L N ops l env s K->Ik (Fo env) ρ ->
  ∃ env' ρ' s' n,(∀ m,n<=m->Ip E L (Cw E m L) ops l ⟨N,ρ,s⟩=some ⟨N,ρ',s'⟩)/\Ik (Fo env') ρ'/\K env' s':=by
 intro b
 induction b with
 | zero=>
  intro l hl env s ρ h hA;have:l=[]:=Mh.1 (by omega);subst this;exact⟨env,ρ,s,0,fun m _=>rfl,hA,h⟩
 | succ b ih=>
  intro l hl env s ρ h hA;cases l with
  | nil=>exact⟨env,ρ,s,0,fun m _=>rfl,hA,h⟩
  | cons o rest=>
   have hl':rest.length<=b:=by simpa using hl
   cases hf:HO o rest with
   | true=>
    rw[wD hf] at h;rcases Jr h hA with ⟨hg,h⟩|⟨hg,h⟩
    ·obtain⟨v,s1,n1,h1,h2⟩:=UM h hA
     obtain⟨GK,ρ1,p1,p2,p3⟩:=GL (s:=s1) h2 hA;obtain⟨HT,ρ2,s2,n2,q1,q2,q3⟩:=ih rest hl' GK s1 ρ1 p3 p2;refine⟨HT,ρ2,s2,n1+n2,fun m hm=>?_,q2,q3⟩;rw[cW hf];simp only[hg,NP,h1 m (by omega),p1];exact q1 m (by omega)
    ·obtain⟨GK,ρ1,p1,p2,p3⟩:=GL (s:=s) h hA
     obtain⟨HT,ρ2,s2,n2,q1,q2,q3⟩:=ih rest hl' GK s ρ1 p3 p2;refine⟨HT,ρ2,s2,n2,fun m hm=>?_,q2,q3⟩;rw[cW hf];simp only[hg,p1];exact q1 m hm
   | false=>
    match rest,hf,hl',h with
    | [],hf,_,_=>simp[HO] at hf
    | [o1],hf,_,_=>simp[HO] at hf
    | o1::o2::rest',hf,hl',h=>
     cases hk:fused o o1 o2 with
     | none=>simp[HO,hk] at hf
     | some k=>
      rw[wE hk] at h;obtain⟨v,s1,GK,ρ1,p1,p2,p3,p4⟩:=UN h hA;obtain⟨HT,ρ2,s2,n2,q1,q2,q3⟩:=ih rest' (by simp at hl'; omega) GK s1 ρ1 p4 p3;refine⟨HT,ρ2,s2,n2,fun m hm=>?_,q2,q3⟩;rw[Ip];simp only[hk,p1,p2];exact q1 m hm
theorem nL {E:Env} {L:A0} {ρ:Nat->AV} {s s':AK} {o:Oper} {v:AV} (hq:EY E L o=true) (h:CE E L ρ s o=some (v,s')):JR E L ρ s o=some v:=by
 rw[Kh];obtain⟨dst,op,type,pos,after,guard⟩:=o;cases op with
 | alloc=>simp[EY] at hq
 | box=>simp[EY] at hq
 | store=>simp[EY] at hq
 | makeMap=>simp[EY] at hq
 | mapUpdate=>simp[EY] at hq
 | insert=>simp[EY] at hq
 | makeSlice=>simp[EY] at hq
 | buildSlice t n ps=>
  simp only[EY] at hq;simp only[Dm];split at hq
  ·rename_i elem hu
   have:L.mu elem=false:=by simpa using hq
   simp only[hu,this,AB,h]
  ·simp at hq
 | call c=>
  obtain⟨callee,args,ts⟩:=c;cases callee with
  | builtin b=>cases b <;> first|(simp[EY] at hq; done)|simp only[Dm,h]
  | _=>simp only[Dm,h]
 | _=>simp only[Dm,h]
theorem Ll {E:Env} {L:A0} {ops:Array Oper} {lk:Lk} {s:AK} {o:Oper} {K:AV->Prop} {ρ:Nat->AV} (h:OE E L ops lk s o K) (hA:Ik lk ρ):∃ v,FQ E L ops ρ s o=some v/\K v:=by
 unfold OE at h;cases hq:EY E L o with
 | false=>rw[hq] at h; exact h.elim
 | true=>
  rw[hq] at h;unfold FQ;rcases Jr h hA with ⟨hg,h⟩|⟨hg,h⟩
  ·obtain⟨v,s',h1,h2⟩:=Wn hA h
   rw[hg];exact⟨v,nL hq h1,h2⟩
  ·rw[hg]
   exact⟨_,rfl,h⟩
theorem cX {E:Env} {lk:Lk} {o:Oper} {K:List AV->(Nat->AV)->Prop} {ρ:Nat->AV} (h:wH E lk o K) (hA:Ik lk ρ):∃ cs mk,hcells E ρ o=some (cs,mk)/\K cs mk:=by
 unfold wH at h;split at h
 ·rename_i t hop
  obtain⟨z,h1,h2⟩:=Ag h;cases hb:E.bz t with
  | true=>rw[hb] at h2; exact h2.elim
  | false=>
   rw[hb] at h2;exact⟨z,_,by simp only[hcells,hop,h1,hb,AB],h2⟩
 ·obtain⟨cs,mk,h1,h2⟩:=h
  exact⟨cs,mk,h1 ρ hA,h2⟩
theorem Ln {E:Env} {L:A0} {N:Nat} {ops:Array Oper} {cls:List c9} {K:En->AK->Prop}:∀ (l:List Nat) (env:En) (s:AK) (ρ:Nat->AV),Yw E L N ops cls l env s K->Ik (Fo env) ρ ->
  ∃ env' ρ' s',Iq E L ops cls l ⟨N,ρ,s⟩=some ⟨N,ρ',s'⟩/\Ik (Fo env') ρ'/\K env' s'
 | [],env,s,ρ,h,hA=>⟨env,ρ,s,rfl,hA,h⟩
 | i::rest,env,s,ρ,h,hA=>by
  change (match ops[i]?,cls[i]? with
   | some o,some (.q _)=>OE E L ops (Fo env) s o fun v=>OD N o.dst v env fun env=>Yw E L N ops cls rest env s K
   | some o,some (.h _)=>wH E (Fo env) o fun cs mk=>OD N o.dst (mk s.bs.length) env fun env=>Yw E L N ops cls rest env ⟨s.bs++[cs],s.ts⟩ K
   | _,_=>False) at h
  split at h
  ·rename_i o ts ho hc
   obtain⟨v,h1,h2⟩:=Ll h hA;obtain⟨GK,ρ1,p1,p2,p3⟩:=GL (s:=s) h2 hA;obtain⟨HT,ρ2,s2,q1,q2,q3⟩:=Ln rest GK s ρ1 p3 p2;refine⟨HT,ρ2,s2,?_,q2,q3⟩;simp only[Iq,ho,hc,h1,p1];exact q1
  ·rename_i o ts ho hc
   obtain⟨cs,mk,h1,h2⟩:=cX h hA;obtain⟨GK,ρ1,p1,p2,p3⟩:=GL (s:=⟨s.bs++[cs],s.ts⟩) h2 hA;obtain⟨HT,ρ2,s2,q1,q2,q3⟩:=Ln rest GK _ ρ1 p3 p2;refine⟨HT,ρ2,s2,?_,q2,q3⟩;simp only[Iq,ho,hc,h1,p1];exact q1
  ·exact h.elim
theorem HD {E:Env} {L:A0} {N:Nat} {ops:Array Oper} {cls:List c9} {K:En->AK->List AK->Prop}:∀ (l:List Nat) (env:En) (s:AK) (acc:List AK) (ρ:Nat->AV),RJ E L N ops cls l env s acc K->Ik (Fo env) ρ ->
  ∃ env' ρ' s' acc' n,(∀ m,n<=m->G2 E L (Cw E m L) ops cls l ⟨N,ρ,s⟩ acc=some (⟨N,ρ',s'⟩,acc'))/\Ik (Fo env') ρ'/\K env' s' acc'
 | [],env,s,acc,ρ,h,hA=>⟨env,ρ,s,acc,0,fun _ _=>rfl,hA,h⟩
 | i::rest,env,s,acc,ρ,h,hA=>by
  change (match ops[i]?,cls[i]? with
   | some o,some (.q _)=>OE E L ops (Fo env) s o fun v=>OD N o.dst v env fun env=>RJ E L N ops cls rest env s acc K
   | some o,some (.w _)=>Jq ops (Fo env) o s (wB E L (Fo env) s o) fun v s=>OD N o.dst v env fun env=>RJ E L N ops cls rest env s (s::acc) K
   | some o,some (.fa _ j x)=>match ops[j]?,ops[x]? with
    | some o1,some o2=>match fused o o1 o2 with
     | some k=>wC E L N k env s fun env s=>RJ E L N ops cls rest env s (s::acc) K
     | none=>False
    | _,_=>False
   | some _,some .fj=>RJ E L N ops cls rest env s acc K
   | some _,some .fx=>RJ E L N ops cls rest env s acc K
   | _,_=>False) at h
  split at h
  ·rename_i o ts ho hc
   obtain⟨v,h1,h2⟩:=Ll h hA;obtain⟨GK,ρ1,p1,p2,p3⟩:=GL (s:=s) h2 hA;obtain⟨HT,ρ2,s2,N5,n2,q1,q2,q3⟩:=HD rest GK s acc ρ1 p3 p2;refine⟨HT,ρ2,s2,N5,n2,fun m hm=>?_,q2,q3⟩;simp only[G2,ho,hc,h1,p1];exact q1 m hm
  ·rename_i o r ho hc
   have:∃ v s1 n1,(∀ m,n1<=m->Nl E L (Cw E m L) ops ρ s o=some (v,s1))/\OD N o.dst v env fun env=>RJ E L N ops cls rest env s1 (s1::acc) K:=by
    rcases Jr h hA with ⟨hg,h⟩|⟨hg,h⟩
    ·obtain⟨v,s1,n1,h1,h2⟩:=UM h hA
     exact⟨v,s1,n1,fun m hm=>by simp only[Nl,hg,h1 m hm],h2⟩
    ·exact⟨_,s,0,fun m hm=>by simp only[Nl,hg],h⟩
   obtain⟨v,s1,n1,h1,h2⟩:=this;obtain⟨GK,ρ1,p1,p2,p3⟩:=GL (s:=s1) h2 hA;obtain⟨HT,ρ2,s2,N5,n2,q1,q2,q3⟩:=HD rest GK s1 _ ρ1 p3 p2;refine⟨HT,ρ2,s2,N5,n1+n2,fun m hm=>?_,q2,q3⟩;simp only[G2,ho,hc,h1 m (by omega),p1];exact q1 m (by omega)
  ·rename_i o r j x ho hc
   split at h
   ·rename_i o1 o2 hj hx
    split at h
    ·rename_i k hk
     obtain⟨v,s1,GK,ρ1,p1,p2,p3,p4⟩:=UN h hA;obtain⟨HT,ρ2,s2,N5,n2,q1,q2,q3⟩:=HD rest GK s1 _ ρ1 p4 p3;refine⟨HT,ρ2,s2,N5,n2,fun m hm=>?_,q2,q3⟩;simp only[G2,ho,hc,hj,hx,hk,NQ,p1,p2];exact q1 m hm
    ·exact h.elim
   ·exact h.elim
  ·rename_i o ho hc
   obtain⟨HT,ρ2,s2,N5,n2,q1,q2,q3⟩:=HD rest env s acc ρ h hA;refine⟨HT,ρ2,s2,N5,n2,fun m hm=>?_,q2,q3⟩;simp only[G2,ho,hc];exact q1 m hm
  ·rename_i o ho hc
   obtain⟨HT,ρ2,s2,N5,n2,q1,q2,q3⟩:=HD rest env s acc ρ h hA;refine⟨HT,ρ2,s2,N5,n2,fun m hm=>?_,q2,q3⟩;simp only[G2,ho,hc];exact q1 m hm
  ·exact h.elim
theorem Ik.at_ {G0:List (List Nat)} {VD RY:En} {ρ0 ρf:Nat->AV} (h0:Ik (Fo VD) ρ0) (hf:Ik (Fo RY) ρf) (i:Nat):Ik (AAL G0 VD RY i) (Fx G0 ρ0 ρf i):=by
 intro t v hv;unfold AAL at hv;unfold Fx;cases hb:has (HM G0 i) t with
 | true=>rw[hb] at hv; exact h0 t v hv
 | false=>rw[hb] at hv; exact hf t v hv
theorem UO {E:Env} {L:A0} {ops:Array Oper} {cls:List c9} {G0:List (List Nat)} {VD RY:En} {ρ0 ρf:Nat->AV} {σ:List AK} (h0:Ik (Fo VD) ρ0) (hf:Ik (Fo RY) ρf) {K:Prop} :
  ∀ l,AMT E L ops cls G0 VD RY σ l K->dA E L ops cls G0 ρ0 ρf σ l=true/\K
 | [],h=>⟨rfl,h⟩
 | (i,k)::rest,h=>by
  obtain⟨h,h'⟩:=h;obtain⟨r1,r2⟩:=UO h0 hf rest h';refine⟨?_,r2⟩;simp only[dA,r1,Rm];split at h
  ·rename_i o ts s ho hc hs
   obtain⟨v,h1,h2⟩:=Ll h (Ik.at_ h0 hf i);simp only[ho,hc,hs,h1];cases hd:o.dst with
   | none=>rfl
   | some d=>
    rw[hd] at h2;obtain⟨u,h3,h4⟩:=Ag h2;simp only[hf d u h3,h4]
  ·rename_i o ts s ho hc hs
   obtain⟨cs,mk,h1,h2⟩:=cX h (Ik.at_ h0 hf i);simp only[ho,hc,hs,h1];cases hd:o.dst with
   | none=>rw[hd] at h2; exact h2.elim
   | some d=>
    rw[hd] at h2;obtain⟨u,h3,h4⟩:=Ag h2;obtain⟨id,h5,h6⟩:=Ag h4;obtain⟨cs',h7,h8⟩:=Ag h6;simp only[hf d u h3,h5,h7,h8]
  ·exact h.elim
theorem gY {E:Env} {L:A0} {N:Nat} {p:Bg} {ops:Array Oper} {env:En} {s:AK} {K:En->AK->Prop} {ρ:Nat->AV} (h:nC E L N p ops env s K) (hA:Ik (Fo env) ρ) :
  ∃ env' ρ' s' n,(∀ m,n<=m->ZE E L (Cw E m L) p ops ⟨N,ρ,s⟩=some ⟨N,ρ',s'⟩)/\Ik (Fo env') ρ'/\K env' s':=by
 unfold nC at h;split at h
 ·rename_i UT
  obtain⟨GK,ρ1,s1,a1,a2,a3⟩:=Ln _ _ _ _ h hA;obtain⟨HT,ρ2,s2,acc,n,b1,b2,b3⟩:=HD _ _ _ _ _ a3 a2;obtain⟨c1,c2⟩:=UO hA b2 _ b3;refine⟨HT,ρ2,s2,n,fun m hm=>?_,b2,c2⟩;simp only[ZE,a1,b1 m hm,c1,ZD,UT,D0,Rm,AE]
 ·exact h.elim
end Go.Tel
