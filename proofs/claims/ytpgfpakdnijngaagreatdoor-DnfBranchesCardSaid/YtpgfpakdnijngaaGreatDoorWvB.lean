/-
  What a piece of code needs so that it answers as wanted: definitions.
-/
import Derived.Test.YtpgfpakdnijngaaGreatDoorWvA
set_option linter.all false
namespace Go.Tel
open Option renaming some->Y,none->G
open Bool renaming true->Z,false->ϴ
open Go renaming TypeId->ϝ,Oper->ϡ
abbrev En:=List (Nat×AV)
noncomputable abbrev EN (env:En) (t:Nat):Option AV:=
 List.rec (motive:=λ_=>Option AV) G (λ(p:Nat×AV) _ b=>bif Nat.beq t p.1 then Y p.2 else b) env
abbrev Mb (N:Nat) (d:Option Nat) (v:AV) (env:En) (K:En->Prop):Prop:=match d with
 | none=>K env
 | some d=>match Nat.blt d N with
  | true=>K ((d,v)::env)
  | false=>False
def bU (g:AV) (d:Bool) (A B:Prop):Prop:=match g with
 | .pv (.sc (.bool b))=>(b=d->A)/\(b≠d->B)
 | .tuple []=>B
 | _=>False
def Qk (g:AV) (b:Bool) (s:AY) (W:Ϡ->Prop) (K:Ϡ):Prop:=bU g b (W K) (K (.tuple []) s)
abbrev KT (e:Array ϡ) (lk:Lk) (o:ϡ) (s:AY) (W:Ϡ->Prop) (K:Ϡ):Prop:=match o.guard with
 | none=>W K
 | some (_,b)=>match Mt e o with
  | none=>K (.tuple []) s
  | some d=>wO (lk d) λg=>Qk g b s W K
abbrev yX (E:Env) (L:Ba) (lk:Lk) (s:AY) (o:ϡ) (K:Ϡ):Prop:=match o.op with
 | .call c=>match c.callee with
  | .builtin _=>yV E L lk s o K
  | .value f=>wO (I3 lk f) λf=>wO (qZ lk c.args.toList) λb=>G4 E L f b s K
  | _=>False
 | _=>yV E L lk s o K
def wFu (L:Ba) (s:AY) (e:ϝ) (k bytes:Nat) (x y b v:AV) (K:Ϡ):Prop:=
 (∃z,rowsOf y=Y [z]/\z.length=k/\(z.map AV.pv).all BS=Z)/\Ho b=(rowsOf x).map List.length/\ANR L s e k bytes x v K
noncomputable abbrev yY (E:Env) (L:Ba) (N:Nat) (k:JX) (env:En) (s:AY) (K:En->AY->Prop):Prop:=
 wO (Oe E.P k.t) λe=>(L.mu e.1=ϴ/\k.te=e.1/\e.2.2.length=e.2.1.size/\e.2.1.size≠0) /\
 wO (I3 (EN env) k.x) λx=>wO (I3 (EN env) k.y) λy=>wO (I3 (EN env) k.ix) λb=>wO (I3 (EN env) k.v) λv=>
  wFu L s e.1 e.2.1.size e.2.1.bytes x y b v λr s=>Mb N (Y k.d) r env λenv=>Mb N (Y k.p) .Gy env λenv=>K env s
def ALE (L:Ba) (s:AY) (k bytes:Nat) (x y e v:AV) (K:Ϡ):Prop:=
 ∃id len b d,x=.ref id 0 len k/\Ho e=Y len/\DS s k y=Y d/\s.bs[id]?=Y b /\
  (d.length=k/\d.all BS=Z/\(cellsOf v).length=k/\(cellsOf v).all BS=Z/\len*k<=b.length/\alive s id=Z/\(len+1)*bytes<=2 ^ 45/\len+1<=2 ^ 45/\L.ro<=id) /\
  K (.ref s.bs.length 0 (len+1) k) ⟨s.bs.set id []++[b.take (len*k)++cellsOf v],s.ts⟩
noncomputable abbrev yZ (E:Env) (L:Ba) (N:Nat) (k:JX) (env:En) (s:AY) (K:En->AY->Prop):Prop:=
 wO (Oe E.P k.t) λe=>match L.mu e.1 with
 | false=>(L.mu e.1=ϴ/\k.te=e.1/\e.2.2.length=e.2.1.size/\e.2.1.size≠0) /\
  wO (I3 (EN env) k.x) λx=>wO (I3 (EN env) k.y) λy=>wO (I3 (EN env) k.ix) λb=>wO (I3 (EN env) k.v) λv=>
   wFu L s e.1 e.2.1.size e.2.1.bytes x y b v λr s=>Mb N (Y k.d) r env λenv=>Mb N (Y k.p) .Gy env λenv=>K env s
 | true=>(k.te=e.1/\e.2.2.length=e.2.1.size/\e.2.1.size≠0) /\
  wO (I3 (EN env) k.x) λx=>wO (I3 (EN env) k.y) λy=>wO (I3 (EN env) k.ix) λb=>wO (I3 (EN env) k.v) λv=>
   ALE L s e.2.1.size e.2.1.bytes x y b v λr s=>Mb N (Y k.d) r env λenv=>Mb N (Y k.p) .Gy env λenv=>K env s
def ABH (a r:AV):Prop:=∀id o b q l z,a=.ptr id o->r=.ref b q l z->id≠b
inductive Ins where
 | one (o:ϡ)
 | fus (k:JX)
def insts:List ϡ->List Ins
 | []=>[]
 | o::b=>
  let one:=Ins.one o::insts b
  match b with
  | o1::e::d=>match fused o o1 e with
   | some k=>.fus k::insts d
   | none=>one
  | _=>one
noncomputable abbrev AYb (E:Env) (L:Ba) (N:Nat) (d:Array ϡ) (l:List Ins):En->AY->(En->AY->Prop)->Prop:=
 List.rec (motive:=λ_=>En->AY->(En->AY->Prop)->Prop) (λenv s K=>K env s)
  (λ(i:Ins) _ b env s K=>match i with
   | .one o=>KT d (EN env) o s (yX E L (EN env) s o) λv s=>Mb N o.dst v env λenv=>b env s K
   | .fus k=>yY E L N k env s λenv s=>b env s K) l
noncomputable abbrev Vu (E:Env) (L:Ba) (N:Nat) (b:Array ϡ) (l:List ϡ) (env:En) (s:AY) (K:En->AY->Prop):Prop:=AYb E L N b (insts l) env s K
abbrev Rk (E:Env) (L:Ba) (o:ϡ):Bool:=match o.op with
 | .alloc _|.box _ _|.store _ _ _|.makeMap _ _|.mapUpdate _ _ _ _|.insert _ _ _ _=>ϴ
 | .makeSlice _ _ _=>ϴ
 | .call { callee:=.builtin .delete,.. }=>ϴ
 | .buildSlice t _ _=>match E.P.underlying t with
  | some (.slice b)=>!y7 L b
  | _=>ϴ
 | .call { callee:=.builtin .append,.. }=>ϴ
 | _=>Z
abbrev PL (E:Env) (L:Ba) (b:Array ϡ) (lk:Lk) (s:AY) (o:ϡ) (K:AV->Prop):Prop:=
 match Rk E L o with
 | true=>KT b lk o s (yV E L lk s o) λv _=>K v
 | false=>False
abbrev wH (E:Env) (lk:Lk) (o:ϡ) (K:Ϭ->(Nat->AV)->Prop):Prop:=match o.op with
 | .alloc t=>wO (zeroOf E.P t) λz=>match E.bz t with
  | true=>False
  | false=>K z (λid=>.ptr id 0)
 | _=>∃b mk,(∀U,Hh lk U->hcells E U o=Y (b,mk))/\K b mk
noncomputable abbrev Vx (E:Env) (L:Ba) (N:Nat) (b:Array ϡ) (e:List aa) (l:Ϟ):En->AY->(En->AY->Prop)->Prop:=
 List.rec (motive:=λ_=>En->AY->(En->AY->Prop)->Prop) (λenv s K=>K env s)
  (λ(i:Nat) _ d env s K=>match b[i]?,e[i]? with
   | some o,Y (.q _)=>PL E L b (EN env) s o λv=>Mb N o.dst v env λenv=>d env s K
   | some o,Y (.h _)=>wH E (EN env) o λf mk=>Mb N o.dst (mk s.bs.length) env λenv=>d env ⟨s.bs++[f],s.ts⟩ K
   | _,_=>False) l
noncomputable abbrev Qi (E:Env) (L:Ba) (N:Nat) (b:Array ϡ) (e:List aa) (l:Ϟ):En->AY->List AY->(En->AY->List AY->Prop)->Prop:=
 List.rec (motive:=λ_=>En->AY->List AY->(En->AY->List AY->Prop)->Prop) (λenv s acc K=>K env s acc)
  (λ(i:Nat) _ d env s acc K=>match b[i]?,e[i]? with
   | some o,Y (.q _)=>PL E L b (EN env) s o λv=>Mb N o.dst v env λenv=>d env s acc K
   | some o,Y (.w _)=>KT b (EN env) o s (yX E L (EN env) s o) λv s=>Mb N o.dst v env λenv=>d env s (s::acc) K
   | some o,Y (.fa _ j x)=>match b[j]?,b[x]? with
    | some f,Y m=>match fused o f m with
     | some k=>yZ E L N k env s λenv s=>d env s (s::acc) K
     | none=>False
    | _,_=>False
   | some _,Y .fj=>d env s acc K
   | some _,Y .fx=>d env s acc K
   | _,_=>False) l
noncomputable abbrev aX (e:List Ϟ) (b d:En) (i t:Nat):Option AV:=bif has (H8 e i) t then EN b t else EN d t
noncomputable abbrev ALF (E:Env) (L:Ba) (f:Array ϡ) (j:List aa) (i:List Ϟ) (e b:En) (σ:List AY) (l:Ϫ) (K:Prop):Prop:=
 List.rec (motive:=λ_=>Prop) K
  (λ(p:Nat×Nat) _ m=>(match f[p.1]?,j[p.1]?,σ[p.2]? with
   | some o,Y (.q _),Y s=>PL E L f (aX i e b p.1) s o λv=>match o.dst with
    | some d=>wO (EN b d) λu=>D9 v u=Z
    | none=>True
   | some o,Y (.h _),Y s=>wH E (aX i e b p.1) o λn _=>match o.dst with
    | some d=>wO (EN b d) λu=>wO (KY u) λid=>wO s.bs[id]? λk=>JY k n=Z
    | none=>False
   | _,_,_=>False)/\m) l
noncomputable abbrev Wo (f:Array ϡ) (p:B3) (d e:En) (r:AV) (l:Ϟ) (K:Prop):Prop:=
 List.rec (motive:=λ_=>Prop) K (λ(m:Nat) _ b=>match f[m]?,p.cls[m]? with
  | some om,Y (.w _)=>match om.op with
   | .store _ y _=>(wO (I3 (aX p.LL d e m) y) λa=>ABH a r)/\b
   | _=>b
  | _,_=>b) l
noncomputable abbrev Rm (E:Env) (L:Ba) (e:Array ϡ) (p:B3) (k f:En) (l:Ϟ) (K:Prop):Prop:=
 List.rec (motive:=λ_=>Prop) K (λ(i:Nat) _ b=>match p.cls[i]? with
  | some (.fa _ j x)=>match Qn E L e i j x with
   | true=>match e[i]? with
    | some o=>match o.dst with
     | some d=>wO (EN f d) λr=>Wo e p k f r p.rest b
     | none=>b
    | none=>b
   | false=>b
  | _=>b) l
noncomputable abbrev qY (E:Env) (L:Ba) (N:Nat) (p:B3) (b:Array ϡ) (env:En) (s:AY) (K:En->AY->Prop):Prop:=match oa E L b p.cls p.rest with
 | true=>Vx E L N b p.cls p.first env s λf e=>Qi E L N b p.cls p.rest f e [e] λd i acc=>ALF E L b p.cls p.LL env d acc.reverse p.fe (K d i)
 | false=>Vx E L N b p.cls p.first env s λf e=>Qi E L N b p.cls p.rest f e [e] λd i acc=>Rm E L b p env d p.rest (ALF E L b p.cls p.LL env d acc.reverse p.fe (K d i))
def sub:Code->Ϟ->Code
 | c,[]=>c
 | .seq a b,i::p=>match i with
  | 0=>sub a p
  | _=>sub b p
 | .cond _ a b,i::p=>match i with
  | 0=>sub a p
  | _=>sub b p
 | .block _ b,_::p=>sub b p
 | .loop b,_::p=>sub b p
 | c,_=>c
def AYc (c:Code) (i:Nat):ϡ:=match c with
 | .region _ b _=>b[i]?.getD ⟨G,.move (.tmp 0),0,"",#[],G⟩
 | _=>⟨G,.move (.tmp 0),0,"",#[],G⟩
def lz (E:Env) (L:Ba) (s:AY) (lk:Lk) (o:ϡ) (K:Ϡ):Prop:=Wm E L lk s o K
def Cs (E:Env) (L:Ba) (c:Code) (st:St) (o:Out) (b:St):Prop:=
 ∃n,∀m k,n<=m->n<=k->JA E (Dk E m) k L c st=Y (o,b)
inductive Frame where
 | seq (b:Code)
 | blk (id:Nat)
 | loop (b:Code)
def SR (E:Env) (L:Ba) (Q:Out->St->Prop):List Frame->Out->St->Prop
 | [],o,st=>Q o st
 | .seq b::d,o,st=>match o with
  | .norm=>∃o e,Cs E L b st o e/\SR E L Q d o e
  | o=>SR E L Q d o st
 | .blk id::d,o,st=>match o with
  | .exit j=>bif Nat.beq j id then SR E L Q d .norm st else SR E L Q d (.exit j) st
  | o=>SR E L Q d o st
 | .loop b::d,o,st=>match o with
  | .norm=>∃o e,Cs E L (.loop b) st o e/\SR E L Q d o e
  | o=>SR E L Q d o st
def Fin (E:Env) (d:List ResultVar) (QR:Ϡ) (o:Out) (st:St):Prop:=
 (∀id,o≠.exit id)/\∃b,GI E st d=Y b/\QR (H9 b) st.s
def Wp (E:Env) (L:Ba) (N:Nat) (b:List ResultVar) (c:Code) (d:List Frame) (env:En) (s:AY) (QR:Ϡ):Prop:=
 ∀U,Hh (EN env) U->∃o st,Cs E L c ⟨N,U,s⟩ o st/\SR E L (Fin E b QR) d o st
abbrev keyOf:Code->Option Nat
 | .region id _ _=>Y id
 | .seq a b=>match keyOf a with
  | some k=>Y k
  | none=>keyOf b
 | .cond _ a b=>match keyOf a with
  | some k=>Y k
  | none=>keyOf b
 | .block _ b=>keyOf b
 | .loop b=>keyOf b
 | .rangeFunc _ _ a _=>keyOf a
 | _=>G
noncomputable abbrev prune (lv:Nat->Ϟ) (c:Code) (env:En):En:=match keyOf c with
 | some k=>(lv k).filterMap λt=>match EN env t with
  | some v=>Y (t,v)
  | none=>G
 | none=>env
noncomputable abbrev fR (E:Env) (lk:Lk) (s:AY) (e:List ResultVar):(Ϭ->Prop)->Prop:=
 List.rec (motive:=λ_=>(Ϭ->Prop)->Prop) (λK=>K [])
  (λ(r:ResultVar) _ d K=>match r with
   | .tmp t=>wO (lk t) λv=>d λb=>K (v::b)
   | .cell a t=>wO (lk a) λa=>wO (ldK E.P t) λk=>EX E s k a λv=>d λb=>K (v::b)) e
def EK (c:AV) (A B:Prop):Prop:=match c with
 | .pv (.sc (.bool t))=>(t=Z->A)/\(t=ϴ->B)
 | _=>False
noncomputable abbrev y5 (E:Env) (L:Ba) (N:Nat) (lv:Nat->Ϟ) (e:List ResultVar) (QR:Ϡ) (f:List Frame):Option Nat->En->AY->Prop:=
 List.rec (motive:=λ_=>Option Nat->En->AY->Prop)
  (λo env s=>match o with
   | none=>fR E (EN env) s e λi=>QR (H9 i) s
   | some _=>False)
  (λ(k:Frame) (f:List Frame) d o env s=>match k with
   | .seq b=>match o with
    | none=>match b with
     | .ret=>fR E (EN env) s e λi=>QR (H9 i) s
     | .skip=>d G env s
     | .exit j=>d (Y j) env s
     | b=>Wp E L N e b f (prune lv b env) s QR
    | some j=>d (Y j) env s
   | .blk id=>match o with
    | none=>d G env s
    | some j=>match Nat.beq j id with
     | true=>d G env s
     | false=>d (Y j) env s
   | .loop b=>match o with
    | none=>Wp E L N e (.loop b) f (prune lv b env) s QR
    | some j=>d (Y j) env s) f
abbrev qd (ct:Nat->Bool) (c:Code):Bool:=match keyOf c with
 | some k=>ct k
 | none=>ϴ
noncomputable abbrev wpc (E:Env) (L:Ba) (N:Nat) (lv:Nat->Ϟ) (ct:Nat->Bool) (f:List ResultVar) (QR:Ϡ) (c:Code):List Frame->En->AY->Prop:=
 Code.rec (motive:=λ_=>List Frame->En->AY->Prop)
  (λe env s=>y5 E L N lv f QR e G env s)
  (λid i d e env s=>match d with
   | false=>Vu E L N i i.toList env s λenv s=>y5 E L N lv f QR e G env s
   | true=>wO (L.pl id) λp=>qY E L N p i env s λenv s=>y5 E L N lv f QR e G env s)
  (λa b l k e env s=>match a with
   | .region id i d=>match d with
    | false=>Vu E L N i i.toList env s λenv s=>match qd ct b with
     | true=>Wp E L N f b e (prune lv b env) s QR
     | false=>k e env s
    | true=>wO (L.pl id) λp=>qY E L N p i env s λenv s=>match qd ct b with
     | true=>Wp E L N f b e (prune lv b env) s QR
     | false=>k e env s
   | _=>l (.seq b::e) env s)
  (λc _ _ l k e env s=>wO (I3 (EN env) c) λc=>EK c (l e env s) (k e env s))
  (λid _ m e env s=>m (.blk id::e) env s)
  (λb _ e env s=>Wp E L N f (.loop b) e (prune lv b env) s QR)
  (λg ps a b _ _ e env s=>Wp E L N f (.rangeFunc g ps a b) e (prune lv (.rangeFunc g ps a b) env) s QR)
  (λj e env s=>y5 E L N lv f QR e (Y j) env s)
  (λ_ _ _ _ _=>False)
  (λ_ _ _ _=>False)
  (λ_ _ _ _=>False)
  (λ_ env s=>fR E (EN env) s f λn=>QR (H9 n) s)
  (λ_ _ _ _=>False) c
theorem Hh.put {env:En} {U:Nat->AV} (h:Hh (EN env) U) (d:Nat) (v:AV):Hh (EN ((d,v)::env)) (Yq U d v):=by
 intro t u e;have b:(bif Nat.beq t d then Y v else EN env t)=Y u:=e;unfold Yq;cases hb:Nat.beq t d with
 | true=>grind
 | false=>rw[hb] at b; exact h t u b
def E7 {N:Nat} {d:Option Nat} {v:AV} {env:En} {K:En->Prop} {U:Nat->AV} {s:AY} (h:Mb N d v env K) (hA:Hh (EN env) U) :
  ∃b e,LO ⟨N,U,s⟩ d v=Y ⟨N,e,s⟩/\Hh (EN b) e/\K b:=by
 cases d with
 | none=>exact⟨env,U,rfl,hA,h⟩
 | some d=>
  simp only[Mb] at h;cases hb:Nat.blt d N with
  | false=>grind
  | true=>
   rw[hb] at h;exact⟨_,Yq U d v,by simp[LO,hb],hA.put d v,h⟩
def KU {e:Array ϡ} {lk:Lk} {o:ϡ} {s:AY} {W:Ϡ->Prop} {K:Ϡ} {U:Nat->AV} (h:KT e lk o s W K) (hA:Hh lk U) :
  (FZ e U o=Y Z/\W K)\/(FZ e U o=Y ϴ/\K (.tuple []) s):=by
 unfold KT at h;unfold FZ;split at h
 .grind
 .rename_i j f i
  rw[i];simp only;split at h
  .grind
  .rename_i d k
   rw[k];have⟨g,l,h⟩:=Bm h;simp only[hA d g l];unfold Qk bU at h;split at h
   .rename_i b
    by_cases hb:b=f
    all_goals grind
   all_goals grind
def Vy {E:Env} {L:Ba} {lk:Lk} {s:AY} {o:ϡ} {K:Ϡ} {U:Nat->AV} (h:yX E L lk s o K) (hA:Hh lk U) :
  ∃v d n,(∀m,n<=m->Oh E L (Dk E m L) U s o=Y (v,d))/\K v d:=by
 have plain:yV E L lk s o K->(∀e,Oh E L e U s o=C6 E L U s o)->∃v d n,(∀m,n<=m->Oh E L (Dk E m L) U s o=Y (v,d))/\K v d:=by
  intro h l;have⟨v,d,i,j⟩:=YX hA h;exact⟨v,d,0,λm _=>by rw[l,i],j⟩
 obtain⟨dst,op,u,pos,t,guard⟩:=o;cases op with
 | call c=>
  obtain⟨k,x,ts⟩:=c;cases k with
  | builtin b=>exact plain h λe=>rfl
  | value f=>
   have⟨y,i,h⟩:=Bm h;have⟨as,j,h⟩:=Bm h;unfold G4 at h;split at h
   .rename_i g first r
    obtain⟨v,d,⟨n,hn⟩,p⟩:=h;refine⟨v,d,n,λm hm=>?_,p⟩
    grind[Oh,L5,Cj,aW]
   grind
  | _=>grind
 | _=>exact plain h λe=>by rfl
def qe {L:Ba} {s:AY} {e:ϝ} {i:TypeInfo} {x y b v:AV} {K:Ϡ} (h:wFu L s e i.size i.bytes x y b v K) :
  ∃z n rows row r d,rowsOf y=Y [z]/\z.length=i.size/\(z.map AV.pv).all BS=Z/\Ho b=Y n/\rowsOf x=Y rows/\n=rows.length/\C0 (cellsOf v)=Y row/\row.length=i.size/\(cellsOf v).all BS=Z /\
   LP L s e i x row=Y (r,d)/\K r d:=by
 obtain⟨⟨z,f,j,k⟩,l,m,h⟩:=h
 grind[rowsOf,LP]
def Vz {E:Env} {L:Ba} {N:Nat} {k:JX} {env:En} {s:AY} {K:En->AY->Prop} {U:Nat->AV} (h:yY E L N k env s K) (hA:Hh (EN env) U) :
  ∃v b d f,Jy E L U s k=Y (v,b)/\K3 ⟨N,U,s⟩ k v b=Y ⟨N,f,b⟩/\Hh (EN d) f/\K d b:=by
 have⟨e,i,⟨u,A,B,C⟩,h⟩:=Bm h;have⟨x,hx,h⟩:=Bm h;have⟨y,D,h⟩:=Bm h;have⟨H,p,h⟩:=Bm h;have⟨v,I,h⟩:=Bm h;have⟨M,O,e3⟩:=OE i;have⟨z,n,rows,t,r,b,k1,k2,k3,k4,k5,k6,k7,k8,k9,yq,qo⟩:=qe h;have⟨m,Q,S,j,l⟩:=E7 (s:=b) qo hA;have⟨o,T,q1,W,X⟩:=E7 (s:=b) l j
 grind[Jy,Cj,K3]
def kM {L:Ba} {s:AY} {i:TypeInfo} {x y b v:AV} {K:Ϡ} (h:ALE L s i.size i.bytes x y b v K) {E:Env} {k:JX} {e:ϝ} {z:Ϭ} {U:Nat->AV}
  (d:E.P.underlying k.t=Y (.slice e)) (m:E.P.info? e=Y i) (e3:zeroOf E.P e=Y z) (f:L.mu e=Z) (n:k.te=e) (o:z.length=i.size) (p:i.size≠0)
  (hx:A1 U k.x=x) (u:A1 U k.y=y) (l:A1 U k.ix=b) (A:A1 U k.v=v) :
  ∃r j,LQ E L U s k=Y (r,j)/\K r j:=by
 obtain⟨id,len,C,D,rfl,k1,k2,k3,⟨k4,k5,k6,k7,k8,k9,yq,qo,yt⟩,zI⟩:=h;refine⟨_,_,?_,zI⟩
 have B:Jy E L U s k=none:=by
  unfold Jy;simp only[d];rw[if_neg (by rw[f]; simp)]
 rw[LQ,B];unfold Wr;simp only[d,m,e3,hx,u,l,A,k1,k2,k3,Nl];rw[if_pos ⟨f,n⟩];exact if_pos ⟨Ay,k4,k6,k7,k5,p,by simp[o],Ay,Ay,k8,k9,yq,qo,yt⟩
def fT {E:Env} {L:Ba} {N:Nat} {k:JX} {env:En} {s:AY} {K:En->AY->Prop} {U:Nat->AV} (h:yZ E L N k env s K) (hA:Hh (EN env) U) :
  ∃v b d f,LQ E L U s k=Y (v,b)/\K3 ⟨N,U,s⟩ k v b=Y ⟨N,f,b⟩/\Hh (EN d) f/\K d b:=by
 have⟨e,i,h⟩:=Bm h;split at h
 .have⟨v,b,d,f,n,o⟩:=Vz (K:=K) (show yY E L N k env s K by unfold yY; rw[i]; exact h) hA
  exact⟨v,b,d,f,by rw[LQ,n],o⟩
 .rename_i l
  obtain⟨⟨p,t,u⟩,h⟩:=h;have⟨x,hx,h⟩:=Bm h;have⟨y,z,h⟩:=Bm h;have⟨T,m,h⟩:=Bm h;have⟨v,A,h⟩:=Bm h;have⟨B,C,e3⟩:=OE i;have⟨r,b,yq,qo⟩:=kM h B C e3 l p t u (Cj hA hx) (Cj hA z) (Cj hA m) (Cj hA A);have⟨S,W,D,H,I⟩:=E7 (s:=b) qo hA;have⟨j,M,q1,O,Q⟩:=E7 (s:=b) I H;exact⟨r,b,j,M,yq,by simp only[K3,D,q1],O,Q⟩
def fU {E:Env} {L:Ba} {d:DH} {b:Array ϡ} {o:ϡ} {rest:List ϡ} {st:St} (hf:Hq o rest=Z):JD E L d b (o::rest) st=match FZ b st.U o with
   | some Z=>match OT E L d st o with
    | some st=>JD E L d b rest st
    | none=>G
   | some ϴ=>match LO st o.dst (.tuple []) with
    | some st=>JD E L d b rest st
    | none=>G
   | none=>none:=by
 match rest,hf with
 | [],_=>rfl
 | [o1],_=>rfl
 | o1::f::e,hf=>
  grind[JD,Hq]
def qf {o:ϡ} {rest:List ϡ} (hf:Hq o rest=Z):insts (o::rest)=.one o::insts rest:=by
 match rest,hf with
 | [],_=>rfl
 | [o1],_=>rfl
 | o1::d::b,hf=>
  grind[insts,Hq]
def ya {E:Env} {L:Ba} {N:Nat} {b:Array ϡ} {o:ϡ} {rest:List ϡ} {env:En} {s:AY} {K:En->AY->Prop} (hf:Hq o rest=Z) :
  Vu E L N b (o::rest) env s K=KT b (EN env) o s (yX E L (EN env) s o) λv s=>Mb N o.dst v env λenv=>Vu E L N b rest env s K:=by simp[*,Vu,qf]
def yd {E:Env} {L:Ba} {N:Nat} {b:Array ϡ} {o d e:ϡ} {rest:List ϡ} {env:En} {s:AY} {K:En->AY->Prop} {k:JX} (f:fused o d e=Y k) :
  Vu E L N b (o::d::e::rest) env s K=yY E L N k env s λenv s=>Vu E L N b rest env s K:=by simp[*,insts,Vu]
def kN {E:Env} {L:Ba} {N:Nat} {I:Array ϡ} {K:En->AY->Prop}:∀(b:Nat) (l:List ϡ),l.length<=b->∀(env:En) (s:AY) (U:Nat->AV),Vu E L N I l env s K->Hh (EN env) U ->
  ∃H M O n,(∀m,n<=m->JD E L (Dk E m L) I l ⟨N,U,s⟩=Y ⟨N,M,O⟩)/\Hh (EN H) M/\K H O:=by
 intro b
 induction b with
 | zero=>
  intro l Q env s U h hA;have:l=[]:=kj.1 AA;subst this;exact⟨env,U,s,0,λm _=>rfl,hA,h⟩
 | succ b C=>
  intro l Q env s U h hA;cases l with
  | nil=>exact⟨env,U,s,0,λm _=>rfl,hA,h⟩
  | cons o d=>
   have i:d.length<=b:=by simpa using Q
   cases hf:Hq o d with
   | true=>
    rw[ya hf] at h;rcases KU h hA with ⟨D,h⟩|⟨D,h⟩
    .have⟨v,z,T,W,X⟩:=Vy h hA
     have⟨e,j,A,B,p⟩:=E7 (s:=z) X hA;have⟨f,r,t,u,q1,x,y⟩:=C d i e z j p B;refine⟨f,r,t,T+u,λm hm=>?_,x,y⟩;rw[fU hf];simp only[D,OT,W m AA,A];exact q1 m AA
    .have⟨e,j,A,B,p⟩:=E7 (s:=s) h hA
     have⟨f,r,t,u,q1,x,y⟩:=C d i e s j p B;refine⟨f,r,t,u,λm hm=>?_,x,y⟩;rw[fU hf];simp only[D,A];exact q1 m hm
   | false=>
    match d,hf,i,h with
    | [],hf,_,_=>simp_all[Hq]
    | [o1],hf,_,_=>simp[Hq] at hf
    | o1::α::S,hf,i,h=>
     cases β:fused o o1 α with
     | none=>simp_all[Hq]
     | some k=>
      rw[yd β] at h;have⟨v,z,e,j,A,B,p,γ⟩:=Vz h hA;have⟨f,r,t,u,q1,x,y⟩:=C S (by simp at i; omega) e z j γ p;refine⟨f,r,t,u,λm hm=>?_,x,y⟩;simp[*,JD]
def qg {E:Env} {L:Ba} {U:Nat->AV} {s b:AY} {o:ϡ} {v:AV} (d:Rk E L o=Z) (h:C6 E L U s o=Y (v,b)):Jz E L U s o=Y v:=by grind[LR,E0]
def Mc {E:Env} {L:Ba} {b:Array ϡ} {lk:Lk} {s:AY} {o:ϡ} {K:AV->Prop} {U:Nat->AV} (h:PL E L b lk s o K) (hA:Hh lk U):∃v,Fa E L b U s o=Y v/\K v:=by
 unfold PL at h;cases d:Rk E L o with
 | false=>simp_all
 | true=>
  rw[d] at h;unfold Fa;rcases KU h hA with ⟨e,h⟩|⟨e,h⟩
  .have⟨v,j,f,i⟩:=YX hA h
   rw[e];exact⟨v,qg d f,i⟩
  simp[*]
def fV {E:Env} {lk:Lk} {o:ϡ} {K:Ϭ->(Nat->AV)->Prop} {U:Nat->AV} (h:wH E lk o K) (hA:Hh lk U):∃cs mk,hcells E U o=Y (cs,mk)/\K cs mk:=by grind[Bm,hcells]
def Jn {E:Env} {L:Ba} {N:Nat} {b:Array ϡ} {d:List aa} {K:En->AY->Prop}:∀(l:Ϟ) (env:En) (s:AY) (U:Nat->AV),Vx E L N b d l env s K->Hh (EN env) U ->
  ∃z A B,J0 E L b d l ⟨N,U,s⟩=Y ⟨N,A,B⟩/\Hh (EN z) A/\K z B
 | [],env,s,U,h,hA=>⟨env,U,s,rfl,hA,h⟩
 | i::e,env,s,U,h,hA=>by
  change (match b[i]?,d[i]? with
   | some o,Y (.q _)=>PL E L b (EN env) s o λv=>Mb N o.dst v env λenv=>Vx E L N b d e env s K
   | some o,Y (.h _)=>wH E (EN env) o λk mk=>Mb N o.dst (mk s.bs.length) env λenv=>Vx E L N b d e env ⟨s.bs++[k],s.ts⟩ K
   | _,_=>False) at h
  split at h
  .rename_i o ts C D
   have⟨v,H,m⟩:=Mc h hA;have⟨f,n,I,p,r⟩:=E7 (s:=s) m hA;have⟨j,t,u,q1,x,y⟩:=Jn e f s n r p;refine⟨j,t,u,?_,x,y⟩;simp[*,J0]
  .rename_i o ts C D
   have⟨k,mk,H,m⟩:=fV h hA;have⟨f,n,I,p,r⟩:=E7 (s:=⟨s.bs++[k],s.ts⟩) m hA;have⟨j,t,u,q1,x,y⟩:=Jn e f _ n r p;refine⟨j,t,u,?_,x,y⟩;simp[*,J0]
  grind
def Gb {E:Env} {L:Ba} {N:Nat} {b:Array ϡ} {t:List aa} {K:En->AY->List AY->Prop}:∀(l:Ϟ) (env:En) (s:AY) (acc:List AY) (U:Nat->AV),Qi E L N b t l env s acc K->Hh (EN env) U ->
  ∃α γ δ β n,(∀m,n<=m->Hp E L (Dk E m L) b t l ⟨N,U,s⟩ acc=Y (⟨N,γ,δ⟩,β))/\Hh (EN α) γ/\K α δ β
 | [],env,s,acc,U,h,hA=>⟨env,U,s,acc,0,λ_ _=>rfl,hA,h⟩
 | i::d,env,s,acc,U,h,hA=>by
  change (match b[i]?,t[i]? with
   | some o,Y (.q _)=>PL E L b (EN env) s o λv=>Mb N o.dst v env λenv=>Qi E L N b t d env s acc K
   | some o,Y (.w _)=>KT b (EN env) o s (yX E L (EN env) s o) λv s=>Mb N o.dst v env λenv=>Qi E L N b t d env s (s::acc) K
   | some o,Y (.fa _ j x)=>match b[j]?,b[x]? with
    | some ε,Y ζ=>match fused o ε ζ with
     | some k=>yZ E L N k env s λenv s=>Qi E L N b t d env s (s::acc) K
     | none=>False
    | _,_=>False
   | some _,Y .fj=>Qi E L N b t d env s acc K
   | some _,Y .fx=>Qi E L N b t d env s acc K
   | _,_=>False) at h
  split at h
  .rename_i o ts u y
   have⟨v,I,M⟩:=Mc h hA;have⟨H,O,Q,S,T⟩:=E7 (s:=s) M hA;have⟨f,z,A,p,B,q1,C,D⟩:=Gb d H s acc O T S;refine⟨f,z,A,p,B,λm hm=>?_,C,D⟩;simp only[Hp,u,y,I,Q];exact q1 m hm
  .rename_i o r u y
   have:∃v e W,(∀m,W<=m->Oi E L (Dk E m L) b U s o=Y (v,e))/\Mb N o.dst v env λenv=>Qi E L N b t d env e (e::acc) K:=by
    rcases KU h hA with ⟨X,h⟩|⟨X,h⟩
    .have⟨v,e,W,I,M⟩:=Vy h hA
     exact⟨v,e,W,λm hm=>by simp only[Oi,X,I m hm],M⟩
    .exact⟨_,s,0,λm hm=>by simp only[Oi,X],h⟩
   obtain⟨v,e,W,I,M⟩:=this;have⟨H,O,Q,S,T⟩:=E7 (s:=e) M hA;have⟨f,z,A,p,B,q1,C,D⟩:=Gb d H e _ O T S;refine⟨f,z,A,p,W+B,λm hm=>?_,C,D⟩;simp only[Hp,u,y,I m AA,Q];exact q1 m AA
  .rename_i o r j x u y
   split at h
   .rename_i ε ζ η hx
    split at h
    .rename_i k θ
     have⟨v,e,H,O,Q,S,T,ι⟩:=fT h hA;have⟨f,z,A,p,B,q1,C,D⟩:=Gb d H e _ O ι T;refine⟨f,z,A,p,B,λm hm=>?_,C,D⟩;simp only[Hp,u,y,η,hx,θ,Q,S];exact q1 m hm
    .exact h.elim
   .exact h.elim
  .rename_i o u y
   have⟨f,z,A,p,B,q1,C,D⟩:=Gb d env s acc U h hA;refine⟨f,z,A,p,B,λm hm=>?_,C,D⟩;simp only[Hp,u,y];exact q1 m hm
  .rename_i o u y
   have⟨f,z,A,p,B,q1,C,D⟩:=Gb d env s acc U h hA;refine⟨f,z,A,p,B,λm hm=>?_,C,D⟩;simp only[Hp,u,y];exact q1 m hm
  .exact h.elim
def Hh.at_ {d:List Ϟ} {e f:En} {U0 Uf:Nat->AV} (j:Hh (EN e) U0) (hf:Hh (EN f) Uf) (i:Nat):Hh (aX d e f i) (F3 d U0 Uf i):=by
 intro t v b;unfold aX at b;unfold F3;cases hb:has (H8 d i) t with
 | true=>rw[hb] at b; exact j t v b
 | false=>rw[hb] at b; exact hf t v b
def PM {E:Env} {L:Ba} {z:Array ϡ} {A:List aa} {B:List Ϟ} {x y:En} {U0 Uf:Nat->AV} {σ:List AY} (e:Hh (EN x) U0) (hf:Hh (EN y) Uf) {K:Prop} :
  ∀l,ALF E L z A B x y σ l K->fk E L z A B U0 Uf σ l=Z/\K
 | [],h=>⟨rfl,h⟩
 | (i,k)::C,h=>by
  obtain⟨h,D⟩:=h;have⟨H,I⟩:=PM e hf C D;refine⟨?_,I⟩;simp only[fk,H,Hj];split at h
  .rename_i o ts s f j m
   have⟨v,n,b⟩:=Mc h (Hh.at_ e hf i);simp only[f,j,m,n];cases p:o.dst with
   | none=>rfl
   | some d=>
    rw[p] at b;have⟨u,r,t⟩:=Bm b;simp only[hf d u r,t]
  .rename_i o ts s f j m
   have⟨T,mk,n,b⟩:=fV h (Hh.at_ e hf i);simp only[f,j,m,n];cases p:o.dst with
   | none=>simp_all
   | some d=>
    rw[p] at b;have⟨u,r,t⟩:=Bm b;have⟨id,M,N⟩:=Bm t;have⟨S,O,Q⟩:=Bm N;simp only[hf d u r,M,O,Q]
  simp[*]
def Md {i:Array ϡ} {p:B3} {d f:En} {U0 Uf:Nat->AV} {b off len sz:Nat} (n:Hh (EN d) U0) (hf:Hh (EN f) Uf) {K:Prop} :
  ∀l,Wo i p d f (.ref b off len sz) l K->Rp i p U0 Uf b l=Z/\K
 | [],h=>⟨rfl,h⟩
 | m::l,h=>by
  change (match i[m]?,p.cls[m]? with
   | some om,Y (.w _)=>match om.op with
    | .store _ y _=>(wO (I3 (aX p.LL d f m) y) λa=>ABH a (.ref b off len sz))/\Wo i p d f (.ref b off len sz) l K
    | _=>Wo i p d f (.ref b off len sz) l K
   | _,_=>Wo i p d f (.ref b off len sz) l K) at h
  rw[Rp];split at h
  .rename_i om r u x
   simp only[u,x];split at h
   .rename_i t y z s
    obtain⟨A,B⟩:=h;have⟨a,C,D⟩:=Bm A;have⟨j,k⟩:=Md n hf l B;refine⟨?_,k⟩;simp only[s,Cj (Hh.at_ n hf m) C,j,Hj];split
    .rename_i id o
     have:=D id o b off len sz rfl rfl;exact Bu Bool.not (Nk.2 λe=>this (CV e))
    .rfl
   .have⟨j,k⟩:=Md n hf l h
    refine⟨?_,k⟩;rw[j,Hj];split
    .rename_i hn _ _ _ _ s
     exact absurd s (hn _ _ _)
    .rfl
  .rename_i hn
   have⟨j,k⟩:=Md n hf l h;refine⟨?_,k⟩;rw[j,Hj];split
   .rename_i om r u x
    exact absurd x (hn _ _ u)
   .rfl
def V0 {E:Env} {L:Ba} {b:Array ϡ} {p:B3} {f e:En} {U0 Uf:Nat->AV} (B:Hh (EN f) U0) (hf:Hh (EN e) Uf) {K:Prop} :
  ∀l,Rm E L b p f e l K->TU E L b p U0 Uf l=Z/\K
 | [],h=>⟨rfl,h⟩
 | i::l,h=>by
  change (match p.cls[i]? with
   | some (.fa _ j x)=>match Qn E L b i j x with
    | true=>match b[i]? with
     | some o=>match o.dst with
      | some d=>wO (EN e d) λr=>Wo b p f e r p.rest (Rm E L b p f e l K)
      | none=>Rm E L b p f e l K
     | none=>Rm E L b p f e l K
    | false=>Rm E L b p f e l K
   | _=>Rm E L b p f e l K) at h
  have k:Rm E L b p f e l K->TU E L b p U0 Uf l=Z/\K:=λh=>V0 B hf l h
  rw[TU];split at h
  .rename_i r j x t
   simp only[t];split at h
   .rename_i hm
    simp only[hm,AQ];split at h
    .rename_i o u
     simp only[u];split at h
     .rename_i d z
      have⟨r,D,C⟩:=Bm h;simp only[z,hf d r D];cases r with
      | ref M N len sz=>
       have⟨H,I⟩:=Md B hf _ C;have⟨n,s⟩:=k I;exact⟨by simp only[H,n,Hj],s⟩
      | _=>exact(by
        have:∀(r:AV) (q:Ϟ),(Wo b p f e r q (Rm E L b p f e l K))->Rm E L b p f e l K:=λr q=>by
         induction q with
         | nil=>exact λh=>h
         | cons m q A=>
          intro h
          change (match b[m]?,p.cls[m]? with
           | some om,Y (.w _)=>match om.op with
            | .store _ y _=>(wO (I3 (aX p.LL f e m) y) λa=>ABH a r)/\Wo b p f e r q (Rm E L b p f e l K)
            | _=>Wo b p f e r q (Rm E L b p f e l K)
           | _,_=>Wo b p f e r q (Rm E L b p f e l K)) at h
          split at h
          .split at h
           .exact A h.2
           .exact A h
          .exact A h
        have⟨n,s⟩:=k (this _ _ C);exact⟨by simp only[n,Hj],s⟩)
     .rename_i z
      simp only[z];simpa using k h
    .rename_i u
     simp only[u];simpa using k h
   .rename_i hm
    simp only[hm,AL];simpa using k h
  .rename_i hn
   have⟨n,s⟩:=k h;refine⟨?_,s⟩;rw[n,Hj];split
   .rename_i r j x t
    exact absurd t (hn _ _ _)
   .rfl
def kO {E:Env} {L:Ba} {N:Nat} {p:B3} {r:Array ϡ} {env:En} {s:AY} {K:En->AY->Prop} {U:Nat->AV} (h:qY E L N p r env s K) (hA:Hh (EN env) U) :
  ∃o t u n,(∀m,n<=m->Yx E L (Dk E m L) p r ⟨N,U,s⟩=Y ⟨N,t,u⟩)/\Hh (EN o) t/\K o u:=by
 unfold qY at h;split at h
 .rename_i I
  have⟨A,B,C,x,e,f⟩:=Jn _ _ _ _ h hA;have⟨d,i,j,acc,n,y,b,k⟩:=Gb _ _ _ _ _ f e;have⟨z,l⟩:=PM hA b _ k;refine⟨d,i,j,n,λm hm=>?_,b,l⟩;simp[*,Yx,Ws]
 .have⟨A,B,C,x,e,f⟩:=Jn _ _ _ _ h hA
  have⟨d,i,j,acc,n,y,b,k⟩:=Gb _ _ _ _ _ f e;have⟨D,H⟩:=V0 hA b _ k;have⟨z,l⟩:=PM hA b _ H;refine⟨d,i,j,n,λm hm=>?_,b,l⟩;simp only[Yx,x,y m hm,z,Ws,D,Dx,Hj,AQ]
end Go.Tel
