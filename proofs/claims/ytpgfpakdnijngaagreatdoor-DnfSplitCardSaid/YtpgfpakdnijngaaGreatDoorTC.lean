/-
  The program's patterns: names, placeholders, sizes.
-/
import Derived.Test.YtpgfpakdnijngaaGreatDoorTB
import Derived.Test.YtpgfpakdnijngaaGreatDoorTA
set_option linter.all false
namespace Go.Proofs.YtpgfpakdnijngaaGreatDoor
open Go.Tel
mutual
def E7 (q:Int->Bool):Ty->Bool
 | .mk k n i ts=>bif k==7 then ts.isEmpty&&q i else !(n.head?==some 36)&&(decide (n.length<2 ^ 40)&&EG q ts)
def EG (q:Int->Bool):List Ty->Bool
 | []=>true
 | t::l=>E7 q t&&EG q l
end
mutual
theorem E8 {q q':Int->Bool} (h:∀i,q i=true->q' i=true):∀t:Ty,E7 q t=true->E7 q' t=true
 | .mk k n i ts,ht=>by
  rw[E7] at ht ⊢;cases h7:k==7 with
  | true=>
   grind
  | false=>
   rw[h7] at ht;simp only[AK,AH] at ht ⊢;exact⟨ht.1,ht.2.1,UO h ts ht.2.2⟩
theorem UO {q q':Int->Bool} (h:∀i,q i=true->q' i=true):∀l:List Ty,EG q l=true->EG q' l=true
 | [],_=>rfl
 | t::l,ht=>by
  simp only[EG,AH] at ht ⊢;exact⟨E8 h t ht.1,UO h l ht.2⟩
end
theorem XG {q:Int->Bool}:∀{l:List Ty} {t:Ty},EG q l=true->t∈l->E7 q t=true
 | [],_,_,h=>by cases h
 | a::l,t,h,ht=>by
  simp only[EG,AH] at h;rcases A5.1 ht with rfl|ht
  .grind
  .exact XG h.2 ht
theorem Pe {q:Int->Bool}:∀(l m:List Ty),EG q (l++m)=(EG q l&&EG q m)
 | [],m=>by rfl
 | t::l,m=>by simp[EG,Pe l m,Le]
mutual
theorem cM {q:Int->Bool} {v:Nat} (hv:q v=true):∀(t:Ty) (u:Nat),E7 q t=true->E7 q (sub v u t)=true
 | .mk k n i ts,u,h=>by
  rw[E7] at h;rw[sub];cases h5:k==5 with
  | true=>
   grind[E7]
  | false=>
   simp only[AK];rw[E7];cases h7:k==7 with
   | true=>
    rw[h7] at h;simp only[AM,AH,GM] at h ⊢;rw[h.1];exact⟨rfl,h.2⟩
   | false=>
    rw[h7] at h;simp only[AK,AH] at h ⊢;exact⟨h.1,h.2.1,XI hv ts u k 0 h.2.2⟩
theorem XI {q:Int->Bool} {v:Nat} (hv:q v=true):∀(l:List Ty) (u:Nat) (k:Int) (j:Nat),EG q l=true->EG q (Kk v u k j l)=true
 | [],_,_,_,_=>rfl
 | t::l,u,k,j,h=>by
  simp only[EG,AH] at h;simp only[Kk,EG,AH];exact⟨cM hv t _ h.1,XI hv l u k (j+1) h.2⟩
end
mutual
theorem Pg {q m:Int->Bool} {b:Ty} (hb:E7 q b=true):∀(t:Ty) (k:Nat),E7 q t=true->E7 q (Ip m b t k)=true
 | .mk c n i ts,k,h=>by
  have h':=h;rw[E7] at h;rw[Ip];cases h7:c==7 with
  | true=>
   grind
  | false=>
   rw[h7] at h;simp only[AK,AH] at h ⊢;cases c==3 with
   | true=>
    rw[AM,E7,h7];simp only[AK,AH];exact⟨h.1,h.2.1,XJ hb ts k h.2.2⟩
   | false=>grind
theorem XJ {q m:Int->Bool} {b:Ty} (hb:E7 q b=true):∀(l:List Ty) (k:Nat),EG q l=true->EG q (KG m b l k)=true
 | [],_,_=>rfl
 | t::l,k,h=>by
  simp only[EG,AH] at h;rw[KG];cases decide (k<BX m t) with
  | true=>
   simp only[AM,EG,AH];exact⟨Pg hb t k h.1,h.2⟩
  | false=>
   simp only[AK,EG,AH];exact⟨h.1,XJ hb l _ h.2⟩
end
mutual
theorem Nk {m:Int->Bool} {b:Ty}:∀(t:Ty) (k:Nat),k<BX m t->BX m (Ip m b t k)+1=BX m t+BX m b/\size (Ip m b t k)<=size t+size b
 | .mk c n i ts,k,h=>by
  rw[BX] at h;rw[Ip];cases h7:c==7 with
  | true=>
   grind[BX]
  | false=>
   rw[h7] at h;simp only[AK] at h ⊢;cases h3:c==3 with
   | false=>grind
   | true=>
    rw[h3] at h;simp only[AM] at h ⊢;have:=cN (m:=m) (b:=b) ts k h
    grind[BX,size]
theorem cN {m:Int->Bool} {b:Ty}:∀(l:List Ty) (k:Nat),k<Cc m l->Cc m (KG m b l k)+1=Cc m l+BX m b/\Ac (KG m b l k)<=Ac l+size b
 | [],k,h=>by grind[Cc]
 | t::l,k,h=>by
  rw[Cc] at h;rw[KG]
  by_cases hk:k<BX m t
  .have:=Nk (m:=m) (b:=b) t k hk
   grind[Cc,Ac]
  .have:=cN (m:=m) (b:=b) l (k-BX m t) AA
   grind[Cc,Ac]
end
mutual
theorem vL {m:Int->Bool} {b:Ty}:∀(t:Ty) (k:Nat),BX m t<=k->Ip m b t k=t
 | .mk c n i ts,k,h=>by
  rw[BX] at h;rw[Ip];cases h7:c==7 with
  | true=>
   grind
  | false=>
   rw[h7] at h;simp only[AK] at h ⊢;cases h3:c==3 with
   | false=>rfl
   | true=>
    rw[h3] at h;simp only[AM] at h ⊢;rw[XK ts k h]
theorem XK {m:Int->Bool} {b:Ty}:∀(l:List Ty) (k:Nat),Cc m l<=k->KG m b l k=l
 | [],_,_=>rfl
 | t::l,k,h=>by
  rw[Cc] at h;rw[KG,Az AA,AK,XK (m:=m) (b:=b) l (k-BX m t) AA]
end
mutual
theorem Ph {q:Int->Bool} {v:Nat} (hv:q v=false):∀(t:Ty) (inv:Bool),E7 q t=true->DT v inv t=false/\BX (·==(v:Int)) t=0
 | .mk k n i ts,inv,h=>by
  rw[E7] at h;rw[DT,BX];cases h7:k==7 with
  | true=>
   grind
  | false=>
   rw[h7] at h;simp only[AK,AH] at h ⊢;have:=XL hv ts (inv&&!(k==2)) h.2.2
   grind
theorem XL {q:Int->Bool} {v:Nat} (hv:q v=false):∀(l:List Ty) (inv:Bool),EG q l=true->F7 v inv l=false/\Cc (·==(v:Int)) l=0
 | [],_,_=>⟨rfl,rfl⟩
 | t::l,inv,h=>by
  simp only[EG,AH] at h;have h1:=Ph hv t inv h.1;have h2:=XL hv l inv h.2
  grind[F7,Cc]
end
section
variable {A8:Nat->Bool}
theorem Ii {α:Type} {g:α->List Ty->Fw} (hg:∀a B,B.length<=(g a B).2.length):∀(l:List α) (out B:List Ty),B.length<=(CY A8 g l out B).2.length
 | [],_,_=>AY _
 | a::l,out,B=>by
  have h:=hg a B;rw[CY];rcases hr:g a B with ⟨_|r,B1⟩
  .grind
  .rw[hr] at h
   simp only at h ⊢;cases A8 (out++r).length with
   | true=>exact h
   | false=>exact BK h (Ii hg l (out++r) B1)
theorem Jw {α:Type} {g:α->List Ty->Fw} (hm:∀a B,B.length<=(g a B).2.length) {P:Ty->Prop} {lo M:Nat}:∀(l:List α) (out B:List Ty) (r:List Ty),(∀a∈l,∀B r,lo<=B.length->(g a B).1=some r->(g a B).2.length<=M->∀p∈r,P p) ->
  lo<=B.length->(CY A8 g l out B).1=some r->(CY A8 g l out B).2.length<=M->(∀p∈out,P p)->∀p∈r,P p
 | [],out,B,r,_,_,h,_,ho=>by grind[CY]
 | a::l,out,B,r,hg,hlo,h,hM,ho=>by
  have h1:=hm a B;have h2:=hg a AD B;rw[CY] at h hM;rcases hr:g a B with ⟨_|s,B1⟩
  .grind
  .rw[hr] at h hM h1 h2
   simp only at h hM h1 h2;cases hb:A8 (out++s).length with
   | true=>grind
   | false=>
    rw[hb] at h hM;simp only[AK] at h hM;have h3:=Ii (A8:=A8) hm l (out++s) B1;refine Jw hm l (out++s) B1 r (λa ha=>hg a AB) AA h hM ?_
    grind
theorem IA {ex:List Ty->Fw} (hx:∀B,B.length<=(ex B).2.length) (v:Nat):∀(f:Nat) (t:Ty) (B:List Ty),B.length<=(CN A8 ex v f t B).2.length
 | 0,_,_=>AY _
 | f+1,t,B=>by
  have h:=hx B;rw[CN];cases DT v false t with
  | false=>simp
  | true=>
   rcases hr:ex B with ⟨_|r,B1⟩
   .grind
   .rw[hr] at h
    exact BK h (Ii (λc B=>IA hx v f _ B) r [] B1)
theorem XM {ex:List Ty->Fw} (hx:∀B,B.length<=(ex B).2.length) {v lo M W S:Nat} {q:Int->Bool} (hr:∀B r,lo<=B.length->(ex B).1=some r->(ex B).2.length<=M->∀c∈r,E7 q c=true/\BX (·==(v:Int)) c=0/\size c<=W) :
  ∀(f:Nat) (t:Ty) (B r:List Ty),E7 q t=true->size t+BX (·==(v:Int)) t*W<=S->lo<=B.length->(CN A8 ex v f t B).1=some r->(CN A8 ex v f t B).2.length<=M->∀p∈r,E7 q p=true/\size p<=S
 | 0,t,B,r,ht,hS,_,h,_=>by grind[CN]
 | f+1,t,B,r,ht,hS,hlo,h,hM=>by
  have h1:=hx B;have h2:=hr B;rw[CN] at h hM;cases ho:DT v false t with
  | false=>
   grind
  | true=>
   rw[ho] at h hM;simp only[AM] at h hM;rcases he:ex B with ⟨_|cs,B1⟩
   .grind
   .rw[he] at h hM h1 h2
    simp only at h hM h1 h2;have h3:=Ii (A8:=A8) (g:=λc B=>CN A8 ex v f (Ip (·==(v:Int)) c t 0) B) (λc B=>IA hx v f _ B) cs [] B1;have h4:=h2 cs hlo rfl AA;refine Jw (λc B=>IA hx v f _ B) (lo:=lo) cs [] B1 r ?_ AA h hM AD;intro c hc B' r' AAd h' iP;obtain⟨c1,c2,c3⟩:=h4 c hc;refine XM hx hr f _ B' r' (Pg c1 t 0 ht) ?_ AAd h' iP
    by_cases hk:0<BX (·==(v:Int)) t
    .obtain⟨d1,d2⟩:=Nk (b:=c) t 0 hk
     have:BX (·==(v:Int)) t*W=BX (·==(v:Int)) (Ip (·==(v:Int)) c t 0)*W+W:=AB;omega
    grind[vL]
end
def wx:List Nat->List Nat->Nat
 | [b,c],[_,d]=>c+max 1 d*b
 | _,_=>0
mutual
def wt:Ty->Nat
 | .mk k _ _ ts=>bif k==6 then wx (sI ts) (MR ts) else bif k==3||k==4 then 1+(sI ts).sum else 1+Ac ts
def sI:List Ty->List Nat
 | []=>[]
 | t::l=>wt t::sI l
end
theorem AA1 {l m p:List Nat} (h:CB (·<=·) l m):wx l p<=wx m p:=by
 match l,m,h with
 | [],[],_=>simp
 | [_],[_],_=>exact AY _
 | [b,c],[b',c'],h=>
  obtain⟨h1,h2,_⟩:=h
  match p with
  | []=>exact AY _
  | [_]=>exact AY _
  | [_,d]=>exact Nat.add_le_add h2 (Eu _ h1)
  | _::_::_::_=>exact AY _
 | _::_::_::_,[_,_],h=>exact h.2.2.elim
 | [_,_],_::_::_::_,h=>exact h.2.2.elim
 | _::_::_::_,_::_::_::_,_=>
  match p with
  | []=>exact AY _
  | [_]=>exact AY _
  | [_,_]=>exact AY _
  | _::_::_::_=>exact AY _
mutual
theorem iQ (v:Nat):∀(t:Ty) (u:Nat),cv (sub v u t)=cv t
 | .mk k n i ts,u=>by
  rw[sub];cases h5:k==5 with
  | true=>
   have:k=5:=AB;subst this;simp only[AM];cases i==(u:Int) with
   | true=>rfl
   | false=>cases decide ((u:Int)<i) <;> rfl
  | false=>simp only[AK,cv,ZO v ts u k 0]
theorem ZO (v:Nat):∀(l:List Ty) (u:Nat) (k:Int) (j:Nat),MR (Kk v u k j l)=MR l
 | [],_,_,_=>rfl
 | t::l,u,k,j=>by rw[Kk,MR,MR,iQ v t _,ZO v l u k (j+1)]
end
theorem UP:∀{l m:List Nat},CB (·<=·) l m->l.sum<=m.sum
 | [],[],_=>AY _
 | a::l,b::m,h=>by
  have:=UP h.2;have:=h.1
  grind
mutual
theorem vM (v:Nat):∀(t:Ty) (u:Nat),size (sub v u t)<=size t
 | .mk k n i ts,u=>by
  rw[sub];cases k==5 with
  | true=>
   grind[size,Ac]
  | false=>
   have:=Q2 v ts u k 0
   grind[size]
theorem Q2 (v:Nat):∀(l:List Ty) (u:Nat) (k:Int) (j:Nat),Ac (Kk v u k j l)<=Ac l
 | [],_,_,_=>AY _
 | t::l,u,k,j=>by
  have h1:=vM v t (u+EE k j);have h2:=Q2 v l u k (j+1)
  grind[Kk,Ac]
end
mutual
theorem vN (v:Nat):∀(t:Ty) (u:Nat),wt (sub v u t)<=wt t
 | .mk k n i ts,u=>by
  rw[sub];cases h5:k==5 with
  | true=>
   grind[wt,Ac]
  | false=>
   have h1:=Q2 v ts u k 0;have h2:=lV v ts u k 0;have h3:=AA1 (p:=MR ts) h2;have h4:=UP h2
   grind[wt,ZO]
theorem lV (v:Nat):∀(l:List Ty) (u:Nat) (k:Int) (j:Nat),CB (·<=·) (sI (Kk v u k j l)) (sI l)
 | [],_,_,_=>trivial
 | t::l,u,k,j=>⟨vN v t _,lV v l u k (j+1)⟩
end
mutual
theorem L2 (m:Int->Bool):∀t:Ty,BX m t<=size t
 | .mk c n i ts=>by
  have:=N9 m ts
  grind[BX,size]
theorem N9 (m:Int->Bool):∀l:List Ty,Cc m l<=Ac l
 | []=>AY _
 | t::l=>by
  have h1:=L2 m t;have h2:=N9 m l
  grind[Cc,Ac]
end
section
variable {A8:Nat->Bool}
theorem Ja {ex:List Ty->Fw} (hx:∀B,B.length<=(ex B).2.length) (v:Nat) (t:Ty) (B:List Ty):B.length<=(B6 A8 ex v t B).2.length:=by grind[B6,IA]
theorem Pj {ex:Ty->List Ty->Fw} (hx:∀t B,B.length<=(ex t B).2.length):∀(l out:List Ty) (ok:Bool) (B:List Ty),B.length<=(Gm ex l out ok B).2.length
 | [],_,_,_=>AY _
 | t::l,out,ok,B=>by
  have h:=hx t B;rw[Gm];rcases hr:ex t B with ⟨_|r,B1⟩
  .rw[hr] at h
   exact BK h (Pj hx l out false B1)
  .rw[hr] at h
   exact BK h (Pj hx l (out++r) ok B1)
theorem UQ {ex:Ty->List Ty->Fw} (hx:∀t B,B.length<=(ex t B).2.length):∀(l:List Ty) (out:List (List Ty)) (B:List Ty),B.length<=(E4 ex l out B).2.length
 | [],_,_=>AY _
 | t::l,out,B=>by
  have h:=hx t B;rw[E4];rcases hr:ex t B with ⟨_|r,B1⟩
  .grind
  .rw[hr] at h
   exact BK h (UQ hx l (out++[r]) B1)
theorem Jy:∀(f:Nat) (t:Ty) (B:List Ty),B.length<=(A4 A8 f t B).2.length
 | 0,_,_=>AY _
 | f+1,.mk k n i ts,B=>by
  have hf:=Jy f;rw[A4];cases k==0||k==2||k==7 with
  | true=>simp
  | false=>
   simp only[AK];cases k==4 with
   | true=>
    grind[Pj]
   | false=>
    simp only[AK];cases k==3 with
    | true=>
     grind[UQ]
    | false=>
     simp only[AK];cases k==6 with
     | false=>simp
     | true=>
      simp only[AM]
      match ts with
      | []=>exact AY _
      | [_]=>exact AY _
      | _::_::_::_=>exact AY _
      | [b,body]=>
       grind[bX,Ii,Ja]
end
section
variable {A8:Nat->Bool}
def Pq (q:Int->Bool) (W:Nat) (p:Ty):Prop:=E7 q p=true/\size p<=W
theorem Pq.le {q:Int->Bool} {W V:Nat} {p:Ty} (h:Pq q W p) (hl:W<=V):Pq q V p:=⟨h.1,BK h.2 hl⟩
theorem M4 {ex:Ty->List Ty->Fw} (hx:∀t B,B.length<=(ex t B).2.length) {P:Ty->Prop} {lo M:Nat}:∀(l out:List Ty) (ok:Bool) (B:List Ty),(∀t∈l,∀B r,lo<=B.length->(ex t B).1=some r->(ex t B).2.length<=M->∀p∈r,P p) ->
  lo<=B.length->(Gm ex l out ok B).2.length<=M->(∀p∈out,P p)->∀p∈(Gm ex l out ok B).1.1,P p
 | [],_,_,_,_,_,_,ho=>ho
 | t::l,out,ok,B,hg,hlo,hM,ho=>by
  have h1:=hx t B;have h2:=hg t AD B;rw[Gm] at hM ⊢;rcases hr:ex t B with ⟨_|s,B1⟩
  .rw[hr] at hM h1
   exact M4 hx l out false B1 (λa ha=>hg a AB) AB hM ho
  .rw[hr] at hM h1 h2
   simp only at hM h1 h2 ⊢;have h3:=Pj hx l (out++s) ok B1;refine M4 hx l (out++s) ok B1 (λa ha=>hg a AB) AA hM ?_
   grind
def Cho (P:Nat->Ty->Prop):List (List Ty)->List Nat->Prop:=CB λl w=>∀p∈l,P w p
theorem Pm {ex:Ty->List Ty->Fw} (hx:∀t B,B.length<=(ex t B).2.length) {P:Nat->Ty->Prop} {w:Ty->Nat} {lo M:Nat}:∀(l:List Ty) (out:List (List Ty)) (ws:List Nat) (B:List Ty) (r:List (List Ty)),(∀t∈l,∀B r,lo<=B.length->(ex t B).1=some r->(ex t B).2.length<=M->∀p∈r,P (w t) p) ->
  lo<=B.length->(E4 ex l out B).1=some r->(E4 ex l out B).2.length<=M->Cho P out ws->Cho P r (ws++l.map w)
 | [],out,ws,B,r,_,_,h,_,ho=>by grind[E4]
 | t::l,out,ws,B,r,hg,hlo,h,hM,ho=>by
  have h1:=hx t B;have h2:=hg t AD B;rw[E4] at h hM;rcases hr:ex t B with ⟨_|s,B1⟩
  .grind
  .rw[hr] at h hM h1 h2
   simp only at h hM h1 h2;have h3:=UQ hx l (out++[s]) B1;have:=Pm hx (P:=P) (w:=w) (lo:=lo) (M:=M) l (out++[s]) (ws++[w t]) B1 r (λa ha=>hg a AB) AA h hM (ho.append ⟨h2 s hlo rfl AA,Ap⟩)
   grind
theorem XN {q:Int->Bool}:∀(ls:List (List Ty)) (ws:List Nat) (out r:List (List Ty)) (W:Nat),Cho (Pq q) ls ws->DY A8 ls out=some r->(∀p∈out,EG q p=true/\Ac p<=W)->∀p∈r,EG q p=true/\Ac p<=W+ws.sum
 | [],ws,out,r,W,hc,h,ho=>by grind[DY]
 | l::ls,[],_,_,_,hc,_,_=>hc.elim
 | l::ls,w::ws,out,r,W,hc,h,ho=>by
  rw[DY] at h;cases hb:A8 (out.flatMap λp=>l.map λx=>p++[x]).length with
  | true=>grind
  | false=>
   rw[hb] at h;simp only[AK] at h;intro p hp
   have:=XN ls ws _ r (W+w) hc.2 h (by
    intro p hp;obtain⟨a,ha,hp⟩:=NT.1 hp;obtain⟨x,hx,rfl⟩:=CR.1 hp;have h1:=ho a ha;have h2:=hc.1 x hx;refine⟨?_,?_⟩
    .rw[Pe,h1.1]
     simp[EG,h2.1]
    .have:∀(l:List Ty) (x:Ty),Ac (l++[x])=Ac l+size x:=by
      intro l x
      induction l with
      | nil=>simp[Ac]
      | cons y l ih=>grind[Ac]
     rw[this];have:=h2.2;omega) p hp
   grind
end
mutual
theorem S3 {m p:Int->Bool} (h:∀i,m i=true->p i=true):∀t:Ty,BX m t<=BX p t
 | .mk c n i ts=>by
  have:=cO h ts
  grind[BX]
theorem cO {m p:Int->Bool} (h:∀i,m i=true->p i=true):∀l:List Ty,Cc m l<=Cc p l
 | []=>AY _
 | t::l=>by
  have h1:=S3 h t;have h2:=cO h l
  grind[Cc]
end
mutual
theorem cP {m q:Int->Bool} {b:Ty}:∀(t:Ty) (k:Nat),BX q (Ip m b t k)<=BX q t+BX q b
 | .mk c n i ts,k=>by
  have ih:=XO (m:=m) (q:=q) (b:=b) ts k
  grind[Ip,BX]
theorem XO {m q:Int->Bool} {b:Ty}:∀(l:List Ty) (k:Nat),Cc q (KG m b l k)<=Cc q l+BX q b
 | [],_=>AN _
 | t::l,k=>by
  rw[KG];cases decide (k<BX m t) with
  | true=>
   have:=cP (m:=m) (q:=q) (b:=b) t k
   grind[Cc]
  | false=>
   have:=XO (m:=m) (q:=q) (b:=b) l (k-BX m t)
   grind[Cc]
end
theorem Pn (q:Int->Bool):∀(l m:List Ty),Cc q (l++m)=Cc q l+Cc q m
 | [],m=>by simp[Cc]
 | t::l,m=>by rw[DH,Cc,Cc,Pn q l m]; omega
section
variable {A8:Nat->Bool}
abbrev cA:Ty->Nat:=BX λ_=>true
theorem cQ {ex:List Ty->Fw} (hx:∀B,B.length<=(ex B).2.length) {v C:Nat} (hr:∀B r,(ex B).1=some r->∀c∈r,cA c<=C) :
  ∀(f:Nat) (t:Ty) (B r:List Ty),(CN A8 ex v f t B).1=some r->∀p∈r,cA p<=cA t+f*C
 | 0,t,B,r,h=>by grind[CN]
 | f+1,t,B,r,h=>by
  have h2:=hr B;rw[CN] at h;cases ho:DT v false t with
  | false=>
   grind
  | true=>
   rw[ho] at h;simp only[AM] at h;rcases he:ex B with ⟨_|cs,B1⟩
   .grind
   .rw[he] at h h2
    simp only at h h2;refine Jw (λc B=>IA hx v f _ B) (lo:=0) cs [] B1 r ?_ (AN _) h (AY _) AD;intro c hc B' r' _ h' _ p hp;have h3:=cQ hx hr f _ B' r' h' p hp
    grind[cP]
theorem Q3 {q:Int->Bool}:∀(ls:List (List Ty)) (ws:List Nat) (out r:List (List Ty)) (W:Nat),Cho (λw p=>BX q p<=w) ls ws->DY A8 ls out=some r->(∀p∈out,Cc q p<=W)->∀p∈r,Cc q p<=W+ws.sum
 | [],ws,out,r,W,hc,h,ho=>by grind[DY]
 | l::ls,[],_,_,_,hc,_,_=>hc.elim
 | l::ls,w::ws,out,r,W,hc,h,ho=>by
  rw[DY] at h;cases hb:A8 (out.flatMap λp=>l.map λx=>p++[x]).length with
  | true=>grind
  | false=>
   rw[hb] at h;simp only[AK] at h;intro p hp
   have:=Q3 ls ws _ r (W+w) hc.2 h (by
    intro p hp;obtain⟨a,ha,hp⟩:=NT.1 hp;obtain⟨x,hx,rfl⟩:=CR.1 hp;have h1:=ho a ha;have h2:BX q x<=w:=hc.1 x hx
    grind[Pn,Cc]) p hp
   grind
theorem ZP:∀(f:Nat) (t:Ty) (B r:List Ty),(A4 A8 f t B).1=some r->∀p∈r,cA p<=cv t
 | 0,_,_,_,h=>by cases h
 | f+1,.mk k n i ts,B,r,h=>by
  have hf:=λt B=>Jy (A8:=A8) f t B
  have ih:=ZP f;rw[A4] at h;cases h0:k==0||k==2||k==7 with
  | true=>
   grind[BX,cv]
  | false=>
   rw[h0] at h;simp only[AK] at h;cases h4:k==4 with
   | true=>
    have hk:k=4:=AB;subst hk;rw[h4] at h;simp only[AM] at h;have key:=M4 hf (P:=λp=>cA p<=cv (.mk 4 n i ts)) (lo:=0) (M:=(Gm (A4 A8 f) ts [] true B).2.length) ts [] true B (λt hm B' r _ h _ p hp=>BK (ih t B' r h p hp) (by simp[*,cv,Q0,Dx,Eb])) (AN _) (AY _) AD
    grind
   | false=>
    rw[h4] at h;simp only[AK] at h;cases h3:k==3 with
    | true=>
     have hk:k=3:=AB;subst hk;rw[h3] at h;simp only[AM] at h;have key:=λr h=>Pm hf (P:=λw p=>cA p<=w) (w:=cv) (lo:=0) (M:=(E4 (A4 A8 f) ts [] B).2.length) ts [] [] B r (λt _ B' r _ h _ p hp=>ih t B' r h p hp) (AN _) h (AY _) Ap
     rcases hs:E4 (A4 A8 f) ts [] B with ⟨_|ls,B1⟩
     .grind
     .rw[hs] at h key
      simp only at h key;cases he:ls.any List.isEmpty with
      | true=>
       grind
      | false=>
       rw[he] at h;simp only[AK] at h;cases hc:DY A8 ls [[]] with
       | none=>grind
       | some all=>
        rw[hc] at h;simp only at h;cases hb:A8 all.length with
        | true=>grind
        | false=>
         rw[hb] at h;cases h;intro p hp;obtain⟨a,ha,rfl⟩:=CR.1 hp;have h5:=Q3 (q:=λ_=>true) ls _ _ all 0 (key ls rfl) hc (by simp[Cc]) a ha
         grind[BX,cv,Q0]
    | false=>
     rw[h3] at h;simp only[AK] at h;cases h6:k==6 with
     | false=>
      grind
     | true=>
      have hk:k=6:=AB;subst hk;rw[h6] at h;simp only[AM] at h
      match ts with
      | []=>cases h; simp
      | [_]=>cases h; simp
      | _::_::_::_=>cases h; simp
      | [b,body]=>
       simp only[bX] at h;rcases hs:A4 A8 f (sub B.length 0 body) (B++[b]) with ⟨_|l,B1⟩
       .grind
       .rw[hs] at h
        have ZQ:=ih (sub B.length 0 body) (B++[b]) l (by rw[hs]);rw[iQ] at ZQ;have key:=λr h1 h=>Jw (A8:=A8) (g:=B6 A8 (A4 A8 f b) B.length) (λa B=>Ja (hf b) _ a B) (P:=λp=>cA p<=cv (.mk 6 n i [b,body])) (lo:=0) (M:=(CY A8 (B6 A8 (A4 A8 f b) B.length) l [] B1).2.length) l [] B1 r h1 (AN _) h (AY _) AD
        simp only at h;rcases hc:CY A8 (B6 A8 (A4 A8 f b) B.length) l [] B1 with ⟨_|o,B2⟩
        .grind
        .rw[hc] at h key
         simp only at h key;cases hb:A8 o.length with
         | true=>grind
         | false=>
          rw[hb] at h;cases h;refine key r (λa ha B' r' _ h' _ p hp=>?_) rfl;have e:cv (.mk 6 n i [b,body])=cv body*(cv b+1):=rfl;have ha1:=ZQ a ha;rw[e,Sn];rw[B6] at h';cases ho:DT B.length true a with
          | true=>
           grind
          | false=>
           rw[ho] at h';simp only[AK] at h';have h7:=cQ (A8:=A8) (hf b) (C:=cv b) (λB r h=>ih b B r h) _ a B' r' h' p hp;have h8:BX (·==(B.length:Int)) a<=cA a:=S3 (λ_ _=>rfl) a;have h9:BX (·==(B.length:Int)) a*cv b<=cv body*cv b:=B5 _ AA;omega
end
section
variable {A8:Nat->Bool}
theorem I0:∀l:List Ty,sI l=l.map wt
 | []=>rfl
 | t::l=>by rw[sI,I0 l]; rfl
theorem cT {k i:Int} {n:List UInt8} {ts:List Ty} (h:(k==0||k==2||k==7)=true):wt (.mk k n i ts)=size (.mk k n i ts):=by grind[wt,size]
theorem Gn:∀(f:Nat) (t:Ty) (B:List Ty) (M:Nat) (q:Int->Bool) (r:List Ty),(∀i:Int,(B.length:Int)<=i->i<M->q i=true)->E7 (λi=>q i&&decide (i<B.length)) t=true ->
  (A4 A8 f t B).1=some r->(A4 A8 f t B).2.length<=M->∀p∈r,Pq q (wt t) p
 | 0,_,_,_,_,_,_,_,h,_=>by cases h
 | f+1,.mk k n i ts,B,M,q,r,hq,ht,h,hM=>by
  have hf:=λt B=>Jy (A8:=A8) f t B
  have ih:=Gn f;have htq:E7 q (.mk k n i ts)=true:=E8 (λi hi=>by grind) _ ht;rw[A4] at h hM;cases h0:k==0||k==2||k==7 with
  | true=>
   rw[h0] at h;simp only[AM] at h;cases hb:A8 1 with
   | true=>grind
   | false=>
    rw[hb] at h;cases h;intro p hp;rw[Df.1 hp];exact⟨htq,by grind[cT]⟩
  | false=>
   rw[h0] at h hM;simp only[AK] at h hM;have h7:(k==7)=false:=AB;rw[E7,h7] at ht;simp only[AK,AH] at ht
   have part:∀t∈ts,∀(B' r:List Ty),B.length<=B'.length->(A4 A8 f t B').1=some r->(A4 A8 f t B').2.length<=M->∀p∈r,Pq q (wt t) p:=by
    intro t hm B' r hl h hM;refine ih t B' M q r (λi h1 h2=>hq i AA h2) (E8 (λi hi=>?_) _ (XG ht.2.2 hm)) h hM
    grind
   have wle:∀t∈ts,wt t<=(sI ts).sum:=by
    intro t hm;rw[I0];exact Dx (CR.2 ⟨t,hm,rfl⟩)
   cases h4:k==4 with
   | true=>
    have hk:k=4:=AB;subst hk;rw[h4] at h hM;simp only[AM] at h hM;have key:=M4 hf (P:=Pq q (wt (.mk 4 n i ts))) (lo:=B.length) (M:=M) ts [] true B (λt hm B' r hl h hM p hp=>(part t hm B' r hl h hM p hp).le (by grind[wt])) (AY _)
    grind
   | false=>
    rw[h4] at h hM;simp only[AK] at h hM;cases h3:k==3 with
    | true=>
     have hk:k=3:=AB;subst hk;rw[h3] at h hM;simp only[AM] at h hM;have key:=λr=>Pm hf (P:=Pq q) (w:=wt) (lo:=B.length) (M:=M) ts [] [] B r part (AY _)
     rcases hs:E4 (A4 A8 f) ts [] B with ⟨_|ls,B1⟩
     .grind
     .rw[hs] at h hM key
      simp only at h hM key;cases he:ls.any List.isEmpty with
      | true=>
       grind
      | false=>
       rw[he] at h hM;simp only[AK] at h hM;cases hc:DY A8 ls [[]] with
       | none=>grind
       | some all=>
        rw[hc] at h hM;simp only at h hM;cases hb:A8 all.length with
        | true=>grind
        | false=>
         rw[hb] at h;cases h;intro p hp;obtain⟨a,ha,rfl⟩:=CR.1 hp;have h5:=XN (q:=q) ls _ _ all 0 (key ls rfl hM Ap) hc (by simp[EG,Ac]) a ha;refine⟨by grind[E7],?_⟩
         grind[wt,I0,size]
    | false=>
     rw[h3] at h hM;simp only[AK] at h hM;cases h6:k==6 with
     | false=>
      grind
     | true=>
      have hk:k=6:=AB;subst hk;rw[h6] at h hM;simp only[AM] at h hM
      match ts,part,ht with
      | [],_,_=>cases h; simp
      | [_],_,_=>cases h; simp
      | _::_::_::_,_,_=>cases h; simp
      | [b,body],part,ht=>
       simp only[bX] at h hM;have h1:=hf (sub B.length 0 body) (B++[b]);simp only[EG,AH] at ht;rcases hs:A4 A8 f (sub B.length 0 body) (B++[b]) with ⟨_|l,B1⟩
       .grind
       .rw[hs] at h hM h1
        have h2:=Ii (A8:=A8) (g:=B6 A8 (A4 A8 f b) B.length) (λa B=>Ja (hf b) _ a B) l [] B1;have key:=λP r aM=>Jw (A8:=A8) (g:=B6 A8 (A4 A8 f b) B.length) (λa B=>Ja (hf b) _ a B) (P:=P) (lo:=B.length+1) (M:=M) l [] B1 r aM
        simp only[Bd,Bt,Bz,CQ] at h1 h hM;rcases hc:CY A8 (B6 A8 (A4 A8 f b) B.length) l [] B1 with ⟨_|o,B2⟩
        .grind
        .rw[hc] at h hM h2 key
         simp only at h hM h2 key;cases hb:A8 o.length with
         | true=>grind
         | false=>
          rw[hb] at h;cases h;have ZQ:=ih (sub B.length 0 body) (B++[b]) M q l (λi h1 h2=>hq i AB h2) (cM AB body 0 (E8 (λi hi=>by grind) _ ht.2.2.2.1)) (by rw[hs]) AB;have zy:=vN B.length body 0;refine key (Pq q (wt (.mk 6 n i [b,body]))) r ?_ AA rfl hM AD;intro a ha B' r' hlo h' iP;obtain⟨ta,sa⟩:=ZQ a ha;have hsa:=BK sa zy;have hwt:wt (.mk 6 n i [b,body])=wt body+max 1 (cv body)*wt b:=rfl;have hca:=ZP f (sub B.length 0 body) (B++[b]) l (by rw[hs]) a ha;rw[iQ] at hca;rw[B6] at h' iP;rw[hwt];cases ho:DT B.length true a with
          | true=>
           rw[ho] at h';cases h';intro p hp;rw[Df.1 hp];exact⟨ta,AA⟩
          | false=>
           rw[ho] at h' iP;simp only[AK] at h' iP;have hcs:BX (·==(B.length:Int)) a<=cA a:=S3 (λ_ _=>rfl) a;refine XM (A8:=A8) (hf b) (lo:=B.length+1) (M:=M) (W:=wt b) (q:=q) ?_ _ a B' r' ta ?_ hlo h' iP
           .intro B3 r3 hlo3 h3' hM3 c K7
            have:=ih b B3 M (λi=>q i&&!(i==(B.length:Int))) r3 (λi h1 h2=>by grind) (E8 (λi hi=>by grind) _ ht.2.2.1) h3' hM3 c K7;refine⟨E8 (λi hi=>by grind) _ this.1,(Ph (v:=B.length) AD c false this.1).2,this.2⟩
           .have:BX (·==(B.length:Int)) a*wt b<=max 1 (cv body)*wt b:=B5 _ AA
            omega
end
section
variable {A8:Nat->Bool}
theorem Ij {α:Type} {g:α->List Ty->Fw} (hg:∀a B,B<+:(g a B).2):∀(l:List α) (out B:List Ty),B<+:(CY A8 g l out B).2
 | [],_,_=>C9 _
 | a::l,out,B=>by
  have h:=hg a B;rw[CY];rcases hr:g a B with ⟨_|r,B1⟩
  .grind
  .rw[hr] at h
   simp only at h ⊢;cases A8 (out++r).length with
   | true=>exact h
   | false=>exact h.trans (Ij hg l (out++r) B1)
theorem IB {ex:List Ty->Fw} (hx:∀B,B<+:(ex B).2) (v:Nat):∀(f:Nat) (t:Ty) (B:List Ty),B<+:(CN A8 ex v f t B).2
 | 0,_,_=>C9 _
 | f+1,t,B=>by
  have h:=hx B;rw[CN];cases DT v false t with
  | false=>simp
  | true=>
   rcases hr:ex B with ⟨_|r,B1⟩
   .grind
   .rw[hr] at h
    exact h.trans (Ij (λc B=>IB hx v f _ B) r [] B1)
theorem LK {ex:List Ty->Fw} (hx:∀B,B<+:(ex B).2) (v:Nat) (t:Ty) (B:List Ty):B<+:(B6 A8 ex v t B).2:=by grind[B6,IB]
theorem Po {ex:Ty->List Ty->Fw} (hx:∀t B,B<+:(ex t B).2):∀(l out:List Ty) (ok:Bool) (B:List Ty),B<+:(Gm ex l out ok B).2
 | [],_,_,_=>C9 _
 | t::l,out,ok,B=>by
  have h:=hx t B;rw[Gm];rcases hr:ex t B with ⟨_|r,B1⟩
  .rw[hr] at h
   exact h.trans (Po hx l out false B1)
  .rw[hr] at h
   exact h.trans (Po hx l (out++r) ok B1)
theorem UR {ex:Ty->List Ty->Fw} (hx:∀t B,B<+:(ex t B).2):∀(l:List Ty) (out:List (List Ty)) (B:List Ty),B<+:(E4 ex l out B).2
 | [],_,_=>C9 _
 | t::l,out,B=>by
  have h:=hx t B;rw[E4];rcases hr:ex t B with ⟨_|r,B1⟩
  .grind
  .rw[hr] at h
   exact h.trans (UR hx l (out++[r]) B1)
theorem Fc:∀(f:Nat) (t:Ty) (B:List Ty),B<+:(A4 A8 f t B).2
 | 0,_,_=>C9 _
 | f+1,.mk k n i ts,B=>by
  have hf:=Fc f;rw[A4];cases k==0||k==2||k==7 with
  | true=>simp
  | false=>
   simp only[AK];cases k==4 with
   | true=>
    grind[Po]
   | false=>
    simp only[AK];cases k==3 with
    | true=>
     grind[UR]
    | false=>
     simp only[AK];cases k==6 with
     | false=>simp
     | true=>
      simp only[AM]
      match ts with
      | []=>exact C9 _
      | [_]=>exact C9 _
      | _::_::_::_=>exact C9 _
      | [b,body]=>
       grind[bX,List.prefix_append,Ij,LK]
theorem Jz (h0:A8 0=false):∀(f:Nat) (t:Ty) (B r:List Ty),(A4 A8 f t B).1=some r->A8 r.length=false
 | 0,_,_,_,h=>by cases h
 | f+1,.mk k n i ts,B,r,h=>by
  rw[A4] at h;cases sA:k==0||k==2||k==7 with
  | true=>
   grind
  | false=>
   rw[sA] at h;simp only[AK] at h;cases Mb:k==4 with
   | true=>
    grind
   | false=>
    rw[Mb] at h;simp only[AK] at h;cases MW:k==3 with
    | true=>
     rw[MW] at h;simp only[AM] at h;rcases hs:E4 (A4 A8 f) ts [] B with ⟨_|ls,B1⟩
     .grind
     .rw[hs] at h
      simp only at h;cases he:ls.any List.isEmpty with
      | true=>grind
      | false=>
       rw[he] at h;simp only[AK] at h;cases hc:DY A8 ls [[]] with
       | none=>grind
       | some all=>
        rw[hc] at h;simp only at h;cases hb:A8 all.length with
        | true=>grind
        | false=>grind
    | false=>
     rw[MW] at h;simp only[AK] at h;cases ZD:k==6 with
     | false=>
      grind
     | true=>
      rw[ZD] at h;simp only[AM] at h
      match ts with
      | []=>cases h; omega
      | [_]=>cases h; omega
      | _::_::_::_=>cases h; omega
      | [b,body]=>
       grind[bX]
end
mutual
def inp:Ty->Bool
 | .mk k _ _ ts=>bif k==0 then ts.isEmpty else bif k==3||k==4||k==6 then US ts else true
def US:List Ty->Bool
 | []=>true
 | t::l=>inp t&&US l
end
mutual
def pat:Ty->Bool
 | .mk k _ _ ts=>bif k==7||k==2 then true else bif k==3 then M5 ts else ts.isEmpty
def M5:List Ty->Bool
 | []=>true
 | t::l=>pat t&&M5 l
end
theorem UT:∀{l:List Ty} {t:Ty},US l=true->t∈l->inp t=true
 | [],_,_,h=>by cases h
 | a::l,t,h,ht=>by
  simp only[US,AH] at h;rcases A5.1 ht with rfl|ht
  .grind
  .exact UT h.2 ht
theorem R1:∀(l m:List Ty),M5 (l++m)=(M5 l&&M5 m)
 | [],m=>by rfl
 | t::l,m=>by simp[M5,R1 l m,Le]
mutual
theorem lW (v:Nat):∀(t:Ty) (u:Nat),inp t=true->inp (sub v u t)=true
 | .mk k n i ts,u,h=>by
  rw[inp] at h;rw[sub];cases h5:k==5 with
  | true=>
   have:k=5:=AB;subst this;simp only[AM];cases i==(u:Int) with
   | true=>rfl
   | false=>cases decide ((u:Int)<i) <;> rfl
  | false=>
   simp only[AK];rw[inp];cases h0:k==0 with
   | true=>
    rw[h0] at h;simp only[AM,GM] at h ⊢;rw[h];rfl
   | false=>
    rw[h0] at h;simp only[AK] at h ⊢;cases h3:(k==3||k==4||k==6) with
    | true=>
     rw[h3] at h;exact cU v ts u k 0 h
    | false=>rfl
theorem cU (v:Nat):∀(l:List Ty) (u:Nat) (k:Int) (j:Nat),US l=true->US (Kk v u k j l)=true
 | [],_,_,_,_=>rfl
 | t::l,u,k,j,h=>by
  simp only[US,AH] at h;simp only[Kk,US,AH];exact⟨lW v t _ h.1,cU v l u k (j+1) h.2⟩
end
mutual
theorem S4 {m:Int->Bool} {b:Ty} (hb:pat b=true):∀(t:Ty) (k:Nat),pat t=true->pat (Ip m b t k)=true
 | .mk c n i ts,k,h=>by
  have h':=h;rw[pat] at h;rw[Ip];cases h7:c==7 with
  | true=>
   grind
  | false=>
   rw[h7] at h;cases h3:c==3 with
   | false=>grind
   | true=>
    have:c=3:=AB;subst this;exact cV hb ts k h
theorem cV {m:Int->Bool} {b:Ty} (hb:pat b=true):∀(l:List Ty) (k:Nat),M5 l=true->M5 (KG m b l k)=true
 | [],_,_=>rfl
 | t::l,k,h=>by
  simp only[M5,AH] at h;rw[KG];cases decide (k<BX m t) with
  | true=>
   simp only[AM,M5,AH];exact⟨S4 hb t k h.1,h.2⟩
  | false=>
   simp only[AK,M5,AH];exact⟨h.1,cV hb l _ h.2⟩
end
mutual
theorem ZR {v:Nat}:∀t:Ty,pat t=true->DT v true t=false->DT v false t=decide (0<BX (·==(v:Int)) t)
 | .mk k n i ts,hp,h=>by
  rw[DT] at h;rw[pat] at hp;rw[DT,BX];cases h7:k==7 with
  | true=>
   grind
  | false=>
   rw[h7] at h hp;simp only[AK,CZ,Gt,GL] at h hp ⊢;cases h2:k==2 with
   | true=>
    grind
   | false=>
    rw[h2] at h hp;simp only[O1,AK] at h hp;cases h3:k==3 with
    | true=>
     rw[h3] at hp;exact cW ts hp h
    | false=>
     rw[h3] at hp;simp only[AK,GM] at hp;subst hp;rfl
theorem cW {v:Nat}:∀l:List Ty,M5 l=true->F7 v true l=false->F7 v false l=decide (0<Cc (·==(v:Int)) l)
 | [],_,_=>rfl
 | t::l,hp,h=>by
  simp only[M5,AH] at hp;simp only[F7,Gu] at h;rw[F7,ZR t hp.1 h.1,cW l hp.2 h.2,Cc]
  grind
end
mutual
theorem ZS {v:Nat} {m:Int->Bool} {b:Ty} (hb:DT v true b=false):∀(t:Ty) (k:Nat),DT v true t=false->DT v true (Ip m b t k)=false
 | .mk c n i ts,k,h=>by
  have h':=h;rw[DT] at h;rw[Ip];cases h7:c==7 with
  | true=>
   grind
  | false=>
   rw[h7] at h;cases h3:c==3 with
   | false=>grind
   | true=>
    have:c=3:=AB;subst this;exact cX hb ts k h
theorem cX {v:Nat} {m:Int->Bool} {b:Ty} (hb:DT v true b=false):∀(l:List Ty) (k:Nat),F7 v true l=false->F7 v true (KG m b l k)=false
 | [],_,_=>rfl
 | t::l,k,h=>by
  simp only[F7,Gu] at h;rw[KG];cases decide (k<BX m t) with
  | true=>
   simp only[AM,F7,Gu];exact⟨ZS hb t k h.1,h.2⟩
  | false=>
   simp only[AK,F7,Gu];exact⟨h.1,cX hb l _ h.2⟩
end
section
variable {A8:Nat->Bool}
theorem UU {α:Type} {g:α->List Ty->Fw} {P:Ty->Prop}:∀(l:List α) (out B:List Ty) (r:List Ty),(∀a∈l,∀B r,(g a B).1=some r->∀p∈r,P p)->(CY A8 g l out B).1=some r->(∀p∈out,P p)->∀p∈r,P p
 | [],out,B,r,_,h,ho=>by grind[CY]
 | a::l,out,B,r,hg,h,ho=>by
  have h2:=hg a AD B;rw[CY] at h;rcases hr:g a B with ⟨_|s,B1⟩
  .grind
  .rw[hr] at h h2
   simp only at h h2;cases hb:A8 (out++s).length with
   | true=>grind
   | false=>
    rw[hb] at h;refine UU l (out++s) B1 r (λa ha=>hg a AB) h ?_
    grind
theorem XP {ex:List Ty->Fw} (hr:∀B r,(ex B).1=some r->∀c∈r,pat c=true) {v:Nat}:∀(f:Nat) (t:Ty) (B r:List Ty),pat t=true->(CN A8 ex v f t B).1=some r->∀p∈r,pat p=true
 | 0,t,B,r,ht,h=>by grind[CN]
 | f+1,t,B,r,ht,h=>by
  have h2:=hr B;rw[CN] at h;cases ho:DT v false t with
  | false=>
   grind
  | true=>
   rw[ho] at h;simp only[AM] at h;rcases he:ex B with ⟨_|cs,B1⟩
   .grind
   .rw[he] at h h2
    simp only at h h2;exact UU cs [] B1 r (λc hc B' r' h'=>XP hr f _ B' r' (S4 (h2 cs rfl c hc) t 0 ht) h') h AD
theorem UW {ex:Ty->List Ty->Fw} {P:Ty->Prop}:∀(l out:List Ty) (ok:Bool) (B:List Ty),(∀t∈l,∀B r,(ex t B).1=some r->∀p∈r,P p)->(∀p∈out,P p)->∀p∈(Gm ex l out ok B).1.1,P p
 | [],_,_,_,_,ho=>ho
 | t::l,out,ok,B,hg,ho=>by
  have h2:=hg t AD B;rw[Gm];rcases hr:ex t B with ⟨_|s,B1⟩
  .exact UW l out false B1 (λa ha=>hg a AB) ho
  .rw[hr] at h2
   refine UW l (out++s) ok B1 (λa ha=>hg a AB) ?_
   grind
theorem cY {ex:Ty->List Ty->Fw} {P:Ty->Prop}:∀(l:List Ty) (out:List (List Ty)) (B:List Ty) (r:List (List Ty)),(∀t∈l,∀B r,(ex t B).1=some r->∀p∈r,P p)->(E4 ex l out B).1=some r->(∀o∈out,∀p∈o,P p)->∀o∈r,∀p∈o,P p
 | [],out,B,r,_,h,ho=>by grind[E4]
 | t::l,out,B,r,hg,h,ho=>by
  have h2:=hg t AD B;rw[E4] at h;rcases hr:ex t B with ⟨_|s,B1⟩
  .grind
  .rw[hr] at h h2
   refine cY l (out++[s]) B1 r (λa ha=>hg a AB) h ?_
   grind
theorem XQ:∀(ls out r:List (List Ty)),(∀l∈ls,∀p∈l,pat p=true)->DY A8 ls out=some r->(∀p∈out,M5 p=true)->∀p∈r,M5 p=true
 | [],out,r,_,h,ho=>by grind[DY]
 | l::ls,out,r,hl,h,ho=>by
  rw[DY] at h;cases hb:A8 (out.flatMap λp=>l.map λx=>p++[x]).length with
  | true=>grind
  | false=>
   rw[hb] at h;refine XQ ls _ r (λa ha=>hl a AB) h ?_
   grind[R1,M5]
theorem Pr:∀(f:Nat) (t:Ty) (B r:List Ty),inp t=true->(A4 A8 f t B).1=some r->∀p∈r,pat p=true
 | 0,_,_,_,_,h=>by cases h
 | f+1,.mk k n i ts,B,r,hi,h=>by
  have ih:=Pr f;rw[inp] at hi;rw[A4] at h;cases sA:k==0||k==2||k==7 with
  | true=>
   rw[sA] at h;cases hb:A8 1 with
   | true=>grind
   | false=>
    rw[hb] at h;cases h;intro p hp;rw[Df.1 hp];have:k=0\/k=2\/k=7:=AB;rcases this with rfl|rfl|rfl
    all_goals assumption
  | false=>
   rw[sA] at h;simp only[AK] at h;have h0:(k==0)=false:=AB;rw[h0] at hi;simp only[AK] at hi;cases Mb:k==4 with
   | true=>
    rw[Mb] at h hi;simp only[AM,Dv,D6] at h hi;have key:=UW (P:=λp=>pat p=true) ts [] true B (λt hm B' r' h'=>ih t B' r' (UT hi hm) h') AD
    grind
   | false=>
    rw[Mb] at h hi;simp only[AK,Bool.or_false] at h hi;cases MW:k==3 with
    | true=>
     rw[MW] at h hi;simp only[AM,D6] at h hi;have key:=λr=>cY (P:=λp=>pat p=true) ts [] B r (λt hm B' r' h'=>ih t B' r' (UT hi hm) h')
     rcases hs:E4 (A4 A8 f) ts [] B with ⟨_|ls,B1⟩
     .grind
     .rw[hs] at h key
      simp only at h key;cases he:ls.any List.isEmpty with
      | true=>grind
      | false=>
       rw[he] at h;simp only[AK] at h;cases hc:DY A8 ls [[]] with
       | none=>grind
       | some all=>
        rw[hc] at h;simp only at h;cases hb:A8 all.length with
        | true=>grind
        | false=>
         rw[hb] at h;cases h;intro p hp;obtain⟨a,ha,rfl⟩:=CR.1 hp;exact XQ ls _ all (key ls rfl AD) hc (by simp[M5]) a ha
    | false=>
     rw[MW] at h hi;simp only[AK,GL] at h hi;cases ZD:k==6 with
     | false=>
      grind
     | true=>
      rw[ZD] at h hi;simp only[AM] at h hi
      match ts,hi with
      | [],_=>cases h; simp
      | [_],_=>cases h; simp
      | _::_::_::_,_=>cases h; simp
      | [b,body],hi=>
       simp only[US,AH] at hi;simp only[bX] at h;have hl:=ih (sub B.length 0 body) (B++[b]);rcases hs:A4 A8 f (sub B.length 0 body) (B++[b]) with ⟨_|l,B1⟩
       .grind
       .rw[hs] at h hl
        simp only at h hl;have hl':=hl l (lW _ _ 0 hi.2.1) rfl;have key:=λr h1=>UU (A8:=A8) (g:=B6 A8 (A4 A8 f b) B.length) (P:=λp=>pat p=true) l [] B1 r h1
        grind[B6,XP]
end
attribute [local simp] Ia Mt Js KW ER Fh Eo wO setCells IM D5 DF Ce E2 alive DX KF Tl gY HW JM HI Ib Lr JN oY kj okB oZ oa oc od og fP oh oo oq ot ou ow oz o5 o6 o7 o8 okF o9 pE pF pG pH V7 pI Qm Qn Qo Qp pJ pK pL pM pN pO pP pQ pR pS Hu pT kn pU pV pW pX pY pZ pg pn pq pz Cp
def BP (v:Ty) (x:AV):Prop:=match v with
 | .mk k n i ts=>∃a,x=.agg [AG k,SS n,AG i,a]/\BE a (Ad ts)
theorem A7.Fj {v:Ty} {x:AV} (h:A7 v x):BP v x:=by
 obtain⟨k,n,i,ts⟩:=v;obtain⟨a,rfl,ha⟩:=h;exact⟨a,rfl,.inl ha⟩
theorem BP.closed {v:Ty} {x:AV} (h:BP v x) (bs:List (List AV)) (n:Nat):∃x',close bs n 0 x=some x'/\A7 v x':=by
 obtain⟨k,c,i,ts⟩:=v;obtain⟨a,rfl,ha⟩:=h;obtain⟨a',h1,h2⟩:=ha.closed bs n;exact⟨.agg [AG k,SS c,AG i,a'],by simp[h1],⟨a',rfl,h2⟩⟩
abbrev Z4:List AV:=[AG 0,SS [],AG 0,.AE []]
theorem FU (l m:List Ty):Ad (l++m)=Ad l++Ad m:=by simp[Ic]
theorem HD {l:List Ty} {r:List PV} (h:r∈Ad l):r.length=4:=by grind[Ic,Al]
theorem E9 {t:Ty} {x:AV} (h:BP t x) {s:AQ} {K:AV->AQ->Prop} (hK:K (.AE [Aj t]) s):HJ false s 4 [(AG 0),(SS []),(AG 0),(.AE [])] 1 [(0,4,x)] K:=by
 obtain⟨k,n,i,ts⟩:=t;obtain⟨a,rfl,ha⟩:=h;simp only[Aj] at hK;simp[HJ,Fu,CI,ha.ok,ha.KB];omega
theorem ZT {L:BL} {s:AQ} {a:AV} {es:List Ty} {t:Ty} {K:AV->AQ->Prop} (ha:Dl 0 s.ts 25 a (Ad es)) (Ee:L.rt=0) (hl:es.length<2 ^ 38) (h:∀a' ts',Dl 0 ts' 25 a' (Ad (es++[t]))->K a' ⟨s.bs,ts'⟩) :
  Ik false L s 25 4 56 a (.AE [Aj t]) K:=by
 have hl':(Ad es).length=es.length:=Aa es;have:=M6 (L:=L) (bs:=s.bs) (ts:=[]) (x:=s.ts) (e:=25) (k:=4) (bytes:=56) (a:=a) (rows:=Ad es) (row:=Aj t) (K:=K) AB AA (λr hr=>HD hr) (Al t) AA (DE t) AA AA (by grind[FU,Ad])
 simp_all
theorem C2 {L:BL} {s:AQ} {id off:Nat} {v:AV} {cs:List AV} {K:AQ->Prop} (hb:s.bs[id]?=some cs) (ho:off<cs.length) (hc:cellsOf v=[v]) (hro:L.ro<=id) (hok:BD v=true) (hn:L.n0<=id\/Jf v=true) (h:K ⟨s.bs.set id (cs.set off v),s.ts⟩):IM L s 1 (.ptr id off) v K:=by
 simp only[IM,hb,wO,hc];refine⟨⟨rfl,by simp; omega,hro,by simp[hok],hn.imp (λh=>h) λh=>by simp[Iq,h],AA⟩,?_⟩;simpa[setCells] using h
theorem Gp {lo:Nat} {ts:List (Nat×Nat)} {k:Nat} {a:AV} {es:List Ty} (h:Dl lo ts k a (Ad es)):Tel.Dg a a=true:=by
 rcases h with rfl|⟨t,rfl,_⟩
 all_goals simp[*,Tel.Dg,DR]
theorem EA (a b:Nat):Tel.Dg (.ptr a b) (.ptr a b)=true:=by simp[Tel.Dg]
theorem Ai {bs:List (List AV)} {j:Nat} {c:List AV} (h:bs[j]?=some c) (b:List AV):(bs++[b])[j]?=some c:=AB
theorem Ax (bs:List (List AV)) (b:List AV):(bs++[b])[bs.length]?=some b:=AD
theorem BQ {bs:List (List AV)} {j k:Nat} {c b:List AV} (h:bs[j]?=some c) (hn:k≠j):(bs.set k b)[j]?=some c:=AB
theorem BZ {bs:List (List AV)} {j:Nat} {c b:List AV} (h:bs[j]?=some c):(bs.set j b)[j]?=some b:=AB
section
variable {R:RT}
theorem Ca {s:AQ} {t:Ty} {K:AV->Prop} (hK:K (.agg ((Aj t).map .pv))):D5 (env R) s (some 4) (.Cw (Aj t) 0) K:=by
 simp only[D5,DF,JC];refine⟨by rw[Bm,Al]; omega,?_⟩;rw[CU (by rw[Bm,Al]; omega)];exact hK
theorem iR {ts:List Ty} {a:AV} (ha:A2 a (Ad ts)) (hl:Ac ts<2 ^ 38) {k i:Int} {n:List UInt8} (ih:∀t∈ts,Af (env R) 146 [.agg ((Aj t).map .pv)] λr=>A7 t r) {Post:AV->Prop} (hP:∀r,A7 (.mk k n i ts) r->Post r) :
  ∀(j q:Nat) (s:AQ) (b:AV),q+j=ts.length->s.bs[1]?=some Z4->s.bs[2]?=some [AG k,SS n,AG i,b]->Dl 0 s.ts 25 b (Ad (ts.take q))->vO R 0 0 0 (.ptr 1 0) (.ptr 2 0) a (AG ts.length) (AG q) s (QP Post):=by
 have Tn:=BV ts;intro j
 induction j with
 | zero=>
  intro q s b hi h1 h2 hb;refine vQ (Ao ?_);rw[Az AA];refine Ay (AHE (Ag h2 rfl (Bq h1 rfl rfl AI (AN _) (by simp[hb.A1.ok]) (.inl (AN _)) (Ag (BZ h1) rfl ?_))));rw[CU AA] at hb;obtain⟨r,h3,h4⟩:=BP.closed (v:=.mk k n i ts) ⟨b,rfl,hb.A1⟩ (s.bs.set 1 [AG k,SS n,AG i,b]) 0;exact⟨r,h3,hP r h4⟩
 | succ j D1=>
  intro q s b hi h1 h2 hb;refine vQ (Ao ?_);rw[Ar AA];obtain⟨t,ht⟩:∃t,ts[q]?=some t:=⟨_,Au AA⟩;refine A9 (AHF (BM ha (row:=Aj t) AA (by grind[BJ]) (Al t) AA (Ca ?_)));have hm:=ih t (A3 ht);have hro:((Aj t).map AV.pv).all BD=true:=DE t;have hrl:((Aj t).map AV.pv).length=4:=by grind[Al]
  generalize (Aj t).map AV.pv=row at hm hro hrl;obtain⟨bs,tk⟩:=s;simp only[Ia] at *;have l1:=(BH.1 h1).1;have l2:=(BH.1 h2).1;refine Bq (Ax bs Z4) hrl rfl AI (AN _) hro (.inl (AN _)) ?_;have e:(bs++[Z4]).set bs.length row=bs++[row]:=AD;rw[e];have g1:=Ai h1 row;have g2:=Ai h2 row;refine AO (AX g2) (AZ g2 rfl (Ag (Ax bs row) hrl (AL hm ?_)));intro v hv;refine E9 hv.Fj ⟨AI,ZT hb rfl AB ?_⟩;intro b' GH hb';have hqt:ts.take q++[t]=ts.take (q+1):=by grind[List.take_add_one]
  rw[hqt] at hb';refine AO (AX g2) (C2 g2 AD hb'.A1.cells (AN _) hb'.A1.ok (.inl (AN _)) ?_);refine⟨AO (AX g2) (EA _ _),AZ g2 rfl (Gp hb),AHG (Ba AA AA ?_)⟩;have:=D1 (q+1) ⟨(bs++[row]).set 2 [AG k,SS n,AG i,b'],GH⟩ b' AA (BQ g1 AI) (BZ g2) hb'
  grind
mutual
theorem UX:∀(t:Ty),size t<2 ^ 38->∀(x:AV),A7 t x->Af (env R) 146 [x] λr=>A7 t r
 | .mk k n i ts,h,x,hx=>by
  obtain⟨a,rfl,ha⟩:=hx;simp only[size] at h;have ih:=R2 ts AA;refine AYF (u0:=.agg [AG k,SS n,AG i,a]) (by simp[ha.close]) (AHH ?_);refine Bx rfl (by simp[ha.ok]) (Bj (Ag rfl rfl (Bj (Bq (old:=Z4) rfl rfl rfl AI (AN _) (by simp[ha.ok]) (.inl (AN _)) ?_))));refine AO rfl (C2 (off:=3) rfl (AY 4) rfl (AN _) rfl (.inl (AN _)) (AO rfl (AZ rfl rfl (Aq (n:=ts.length) (by rw[ha.BA,Aa]) ?_))));exact iR ha AA ih (λr hr=>hr) ts.length 0 _ (.AE []) AA rfl rfl (.inl rfl)
theorem R2:∀(l:List Ty),Ac l<2 ^ 38->∀t∈l,Af (env R) 146 [.agg ((Aj t).map .pv)] λr=>A7 t r
 | [],_,_,h=>by cases h
 | e::l,h,t,hm=>by
  simp only[Ac] at h;rcases A5.1 hm with h' | h'
  .rw[h']
   exact UX e AA _ (A7.Bi e)
  .exact R2 l AA t h'
end
end
theorem lX {L:BL} {s:AQ} {a:AV} {es:List Ty} {t:Ty} {K:AV->AQ->Prop} (ha:Dl L.rt s.ts 25 a (Ad es)) (hle:L.rt<=s.ts.length) (hl:es.length<2 ^ 38) (h:∀a' ts',Dl L.rt ts' 25 a' (Ad (es++[t]))->L.rt<=ts'.length->K a' ⟨s.bs,ts'⟩) :
  Ik false L s 25 4 56 a (.AE [Aj t]) K:=by
 have hl':(Ad es).length=es.length:=Aa es;have htl:(s.ts.take L.rt).length=L.rt:=AB;have e:s.ts.take L.rt++s.ts.drop L.rt=s.ts:=List.take_append_drop _ _;have:=M6 (L:=L) (bs:=s.bs) (ts:=s.ts.take L.rt) (x:=s.ts.drop L.rt) (e:=25) (k:=4) (bytes:=56) (a:=a) (rows:=Ad es) (row:=Aj t) (K:=K) AB AA (λr hr=>HD hr) (Al t) AA (DE t) AA AA (by grind[FU,Ad])
 simp_all
theorem L3 {m:Nat} {ts:List (Nat×Nat)} {k:Nat} {a:AV} {rows:List (List PV)} (h:Dl m ts k a rows) (bs:List (List AV)) (n:Nat):∃a',close bs n m a=some a'/\A2 a' rows:=by
 rcases h with rfl|⟨t,rfl,_,h2⟩
 .simp[*,A2.AE]
 .have:¬ t<m:=by omega
  exact⟨.pv (.list rows),by grind[close],.list _⟩
theorem M7 (t:Ty):Tel.Dg (.agg ((Aj t).map .pv)) (.agg ((Aj t).map .pv))=true:=by
 cases t
 grind[Aj,Tel.Dg,JG,NZ,FQ,IP,DR]
theorem BI.set {s:AQ} (h:BI s) {j:Nat} {c:List AV} (hc:Ah s.bs.length c=true) (ts:List (Nat×Nat)):BI ⟨s.bs.set j c,ts⟩:=by
 intro b hb;simp only[O4];rcases kD hb with hb|rfl
 .exact h b hb
 omega
mutual
def R3:Ty->Bool
 | .mk k _ i ts=>(!(k==5)||(ts.isEmpty&&decide (-(2 ^ 60)<=i)&&decide (i<2 ^ 60)))&&Pt ts
def Pt:List Ty->Bool
 | []=>true
 | t::l=>R3 t&&Pt l
end
abbrev AOg (p:Nat):AV:=.func (.func 122) [] [.ptr p 0]
section
variable {R:RT}
theorem AHI (i u:Int) (hu:0<=u) (hi:i<2 ^ 60) (p:Nat) {s:AQ} (hs:BI s) (hp:p<s.bs.length) (L:BL) :
  BW (env R) L 122 [AG i,AG u,.ptr p 0] s (.tuple [bif i==u then .ptr p 0 else .pv (.sc (.pointer none)),AG (bif i==u then 0 else bif decide (u<i) then i-1 else i)]) s:=by
 have fin:∀(rr:Bool) (x:AV) (n:Int),(x=.ptr p 0\/x=.pv (.sc (.pointer none)))->QM rr s.bs.length (λv s'=>v=.tuple [x,AG n]/\s'=s) (.tuple [x,AG n]) s:=by
  intro rr x n hx;have e:s.bs.take s.bs.length=s.bs:=NK;refine J0 (ds:=[x,AG n]) ?_ ?_ ?_
  .rw[e,C3]
   exact hs
  .grind[BR,close]
  simp
 obtain⟨v,s',⟨rfl,rfl⟩,hc⟩:=AYG (R:=R) (L:=L) (s:=s) (t0:=AG i) (t1:=AG u) (t2:=.ptr p 0) (Post:=λv s'=>v=.tuple [bif i==u then .ptr p 0 else .pv (.sc (.pointer none)),AG (bif i==u then 0 else bif decide (u<i) then i-1 else i)]/\s'=s) AR (AHJ (A0 (by
  cases he:(i==u) with
  | true=>simp[*]
  | false=>
   refine Ay (F8 ?_)
   by_cases hlt:u<i
   .have:i>u:=hlt
    rw[Ar this];exact A9 (Hf AA AA (fin _ _ _ (.inr rfl)))
   .have:¬ i>u:=hlt
    rw[Az this];exact Ay (AHK (fin _ _ _ (.inr rfl))))))
 omega
theorem Gw (k:Int) (n:List UInt8) (i:Int) (ts:List Ty) (h:k≠7):ren (.mk k n i ts)=.mk k n i (CA ts):=by grind[ren]
theorem vR {p:Nat} {cp:List AV} {fn:AV} {ts ls:List Ty} {a:AV} (ha:A2 a (Ad ts)) (hl:ts.length<2 ^ 38) (SN:ls.length=ts.length) {k i:Int} {n:List UInt8} {u:Nat} (hu:u<2 ^ 60)
  {s0:AQ} (hs0:BI s0) (hp:s0.bs[p]?=some cp)
  (ih:∀(q:Nat) (t l:Ty),ts[q]?=some t->ls[q]?=some l->∀s,BI s->s.bs[p]?=some cp->∃r,A7 l r/\∀L,BW (env R) L 121 [.agg ((Aj t).map .pv),AG (u+EE k q:Nat),fn] s r s)
  {i':Int} {Post:AV->Prop} (hP:∀r,A7 (.mk k n i' ls) r->Post r) :
  ∀(j q:Nat) (s:AQ) (b:AV),q+j=ts.length->BI s->s.bs[p]?=some cp->s.bs[s0.bs.length]?=some [AG k,SS n,AG i,a]->s.bs[s0.bs.length+1]?=some Z4->s.bs[s0.bs.length+2]?=some [AG k,SS n,AG i',b] ->
   Dl s0.ts.length s.ts 25 b (Ad (ls.take q))->s0.ts.length<=s.ts.length ->
   vS R s0.bs.length s0.bs.length s0.ts.length (AG u) fn (.ptr s0.bs.length 0) (.ptr (s0.bs.length+1) 0) (.ptr (s0.bs.length+2) 0) a (AG ts.length) (AG q) s (QI s0.bs.length s0.ts.length Post):=by
 intro j
 induction j with
 | zero=>
  intro q s b hi hs h0 h1 h2 h3 hb hle;refine vT (Ao ?_);rw[Az AA];refine Ay (AHL (Ag h3 rfl (Bq h2 rfl rfl AI AD (by simp[hb.A1.ok]) (.inl AD) (Ag (BZ h2) rfl ?_))));rw[CU AA] at hb;obtain⟨b',c1,c2⟩:=L3 hb (s.bs.set (s0.bs.length+1) [AG k,SS n,AG i',b]) s0.bs.length;exact⟨.agg [AG k,SS n,AG i',b'],by simp[c1],hP _ ⟨b',rfl,c2⟩⟩
 | succ j D1=>
  intro q s b hi hs h0 h1 h2 h3 hb hle;refine vT (Ao ?_);rw[Ar AA];obtain⟨t,ht⟩:∃t,ts[q]?=some t:=⟨_,Au AA⟩;obtain⟨l,vU⟩:∃l,ls[q]?=some l:=⟨_,Au AA⟩;have hrl:((Aj t).map AV.pv).length=4:=by grind[Al]
  have hro:=DE t
  have Ku:Ah (s.bs.length+1) ((Aj t).map AV.pv)=true:=by
   obtain⟨k1,n1,i1,t1⟩:=t;rfl
  refine A9 (AHM (BM ha (row:=Aj t) AA (by simp[*,BJ]) (Al _) AA (Ca (Bj ?_))));have fT:=ih q t l ht vU;have MN:=M7 t;generalize (Aj t).map AV.pv=row at hrl hro Ku fT MN;obtain⟨bs,tk⟩:=s;have l3:=(BH.1 h3).1;simp only at *;refine Bq (Ax bs Z4) hrl rfl AI (by simp[Ce]; omega) hro (.inl (by simp[Ce]; omega)) ?_;have e:(bs++[Z4]).set bs.length row=bs++[row]:=AD;rw[e];have g0:=Ai h0 row;have g1:=Ai h1 row;have g2:=Ai h2 row;have g3:=Ai h3 row;have hs':BI ⟨bs++[row],tk⟩:=BI.app (s:=⟨bs,tk⟩) hs Ku;have hbn:=Qr k q;have aO:Af (env R) 119 [.agg [AG k,SS n,AG i,a],AG q] λr=>r=AG (EE k q):=Ls ha q
  obtain⟨r,Tk,Ng⟩:=fT ⟨bs++[row],tk⟩ hs' g0;refine AO (AX g3) (AZ g3 rfl (Ag (Ax bs row) hrl (Ag g1 rfl (AL aO ?_))));rintro _ rfl;refine Ba AA AA ?_;have e1:((u:Int)+(EE k q:Nat))=((u+EE k q:Nat):Int):=AA;rw[e1];refine⟨r,_,Ng _,E9 Tk.Fj ⟨AI,lX hb hle AB ?_⟩⟩;intro b' GH hb' hle';have er:ls.take q++[l]=ls.take (q+1):=by grind[List.take_add_one]
  rw[er] at hb';refine AO (AX g3) (C2 g3 AD hb'.A1.cells AD hb'.A1.ok (.inl AD) ?_);refine⟨AO (AX g3) (EA _ _),AO (AX g3) (EA _ _),AZ g3 rfl (Gp hb),AZ g3 rfl (Gp hb),Ag (Ax bs row) hrl MN,AHN (Ba AA AA ?_)⟩;have lp:=(BH.1 hp).1;have:=D1 (q+1) ⟨(bs++[row]).set (s0.bs.length+2) [AG k,SS n,AG i',b'],GH⟩ b' AA ?_ ?_ (BQ g1 AA) (BQ g2 AA) (BZ g3) hb' hle'
  .grind
  .exact BI.set (s:=⟨bs++[row],tk⟩) hs' (by simp[Ah,Aw,hb'.A1.Aw]) _
  grind[BQ]
end
theorem L4 {k i:Int} {n:List UInt8} {ts:List Ty} (h:valid (.mk k n i ts)=true):(n.head?==some 36)=false/\n.length<2 ^ 40:=by
 simp only[valid,AH] at h;have nil:n=[]->(n.head?==some 36)=false/\n.length<2 ^ 40:=AB;rcases LF h.1 with ⟨_,h2,_⟩|⟨_,h2,_⟩|rfl|⟨_,h2,_⟩|⟨_,h2,_⟩|⟨_,h2,_⟩|⟨_,h2,_⟩
 .grind
 .grind
 .have h1:=h.1
  simp[root,shape] at h1;obtain⟨_,⟨⟨h3,_⟩,_⟩,_⟩:=h1;unfold Mw at h3;simp only[AH,Cy] at h3;refine⟨?_,AA⟩;rcases n with _|⟨c,w⟩
  .rfl
  .have h4:=h3.1.2
   simp only at h4;rw[Oz];intro h5;have h5:c=36:=AB;rw[h5] at h4;exact absurd h4 AI
 all_goals grind
theorem LL {n:List UInt8} {i:Int} {ts:List Ty} (h:valid (.mk 5 n i ts)=true):i<=200:=by grind[valid,root,shape]
theorem Dz (σ:List Nat) (u:Nat) {k i:Int} {n:List UInt8} {ts:List Ty} (hv:valid (.mk k n i ts)=true):(k=5/\n=[]/\ts=[]/\0<=i/\i<=200/\((∃v∈σ,inst σ u (.mk k n i ts)=ph v)\/inst σ u (.mk k n i ts)=.mk 5 [] i []))\/((k==5)=false/\inst σ u (.mk k n i ts)=.mk k n i (Dd σ u k 0 ts)):=by
 by_cases h5:k=5
 .subst h5
  obtain⟨rfl,rfl,h0⟩:=EY hv;refine .inl ⟨rfl,rfl,rfl,h0,LL hv,?_⟩
  grind[inst]
 grind[inst]
mutual
theorem Gq {q:Int->Bool} {σ:List Nat} (hσ:∀x∈σ,q x=true):∀(t:Ty) (u:Nat),valid t=true->E7 q (inst σ u t)=true
 | .mk k n i ts,u,hv=>by
  rcases Dz σ u hv with ⟨rfl,rfl,rfl,h0,h1,⟨v,h2,h3⟩|h3⟩|⟨b5,h3⟩
  .grind[E7]
  .grind[E7,EG]
  .have h7:(k==7)=false:=by grind[G1]
   have hn:=L4 hv;simp only[valid,AH] at hv;rw[h3,E7,h7,XR hσ ts u k 0 hv.2]
   grind
theorem XR {q:Int->Bool} {σ:List Nat} (hσ:∀x∈σ,q x=true):∀(l:List Ty) (u:Nat) (k:Int) (j:Nat),BC l=true->EG q (Dd σ u k j l)=true
 | [],_,_,_,_=>rfl
 | t::l,u,k,j,hv=>by
  simp only[BC,AH] at hv;rw[Dd,EG,Gq hσ t _ hv.1,XR hσ l u k (j+1) hv.2];rfl
end
mutual
theorem UY (σ:List Nat):∀(t:Ty) (u:Nat),valid t=true->R3 (inst σ u t)=true
 | .mk k n i ts,u,hv=>by
  rcases Dz σ u hv with ⟨rfl,rfl,rfl,h0,h1,⟨v,h2,h3⟩|h3⟩|⟨b5,h3⟩
  .rw[h3]
   rfl
  .rw[h3,R3]
   have e1:decide (-(2 ^ 60)<=i)=true:=Ar AA;have e2:decide (i<2 ^ 60)=true:=Ar AA;rw[e1,e2];rfl
  .simp only[valid,AH] at hv
   rw[h3,R3,b5,XS σ ts u k 0 hv.2];rfl
theorem XS (σ:List Nat):∀(l:List Ty) (u:Nat) (k:Int) (j:Nat),BC l=true->Pt (Dd σ u k j l)=true
 | [],_,_,_,_=>rfl
 | t::l,u,k,j,hv=>by
  simp only[BC,AH] at hv;rw[Dd,Pt,UY σ t _ hv.1,XS σ l u k (j+1) hv.2];rfl
end
mutual
theorem lY (σ:List Nat):∀(t:Ty) (u:Nat),valid t=true->cv (inst σ u t)=cv t
 | .mk k n i ts,u,hv=>by
  rcases Dz σ u hv with ⟨rfl,rfl,rfl,h0,h1,⟨v,h2,h3⟩|h3⟩|⟨b5,h3⟩
  .rw[h3]
   rfl
  .rw[h3]
  .simp only[valid,AH] at hv
   rw[h3,cv,cv,UZ σ ts u k 0 hv.2]
theorem UZ (σ:List Nat):∀(l:List Ty) (u:Nat) (k:Int) (j:Nat),BC l=true->MR (Dd σ u k j l)=MR l
 | [],_,_,_,_=>rfl
 | t::l,u,k,j,hv=>by
  simp only[BC,AH] at hv;rw[Dd,MR,MR,lY σ t _ hv.1,UZ σ l u k (j+1) hv.2]
end
mutual
theorem Jb (σ:List Nat):∀(t:Ty) (u:Nat),valid t=true->size (inst σ u t)=size t/\depth (inst σ u t)=depth t/\wt (inst σ u t)=wt t/\inp (inst σ u t)=true
 | .mk k n i ts,u,hv=>by
  rcases Dz σ u hv with ⟨rfl,rfl,rfl,h0,h1,⟨v,h2,h3⟩|h3⟩|⟨b5,h3⟩
  .rw[h3]
   exact⟨rfl,rfl,rfl,rfl⟩
  .rw[h3]
   exact⟨rfl,rfl,rfl,rfl⟩
  .have Sz:=hv
   simp only[valid,AH] at hv;obtain⟨e1,e2,e3,e4⟩:=Ua σ ts u k 0 hv.2;rw[h3];refine⟨by grind[size],by grind[depth],by grind[wt,UZ],?_⟩;rw[inp,e4];cases b0:(k==0) with
   | false=>simp
   | true=>
    have:k=0:=AB;subst this;rcases LF hv.1 with ⟨_,_,_,rfl⟩|h|h|h|h|h|h
    .rfl
    all_goals omega
theorem Ua (σ:List Nat):∀(l:List Ty) (u:Nat) (k:Int) (j:Nat),BC l=true->Ac (Dd σ u k j l)=Ac l/\Cf (Dd σ u k j l)=Cf l/\sI (Dd σ u k j l)=sI l/\US (Dd σ u k j l)=true
 | [],_,_,_,_=>⟨rfl,rfl,rfl,rfl⟩
 | t::l,u,k,j,hv=>by
  simp only[BC,AH] at hv;obtain⟨e1,e2,e3,e4⟩:=Jb σ t (u+EE k j) hv.1;obtain⟨f1,f2,f3,f4⟩:=Ua σ l u k (j+1) hv.2
  grind[Dd,Ac,Cf,sI,US]
end
mutual
theorem Jc:∀(t:Ty),valid t=true->ren t=t
 | .mk k n i ts,hv=>by
  have h7:(k==7)=false:=by grind[G1]
  simp only[valid,AH] at hv;rw[ren,h7,Ub ts hv.2];rfl
theorem Ub:∀(l:List Ty),BC l=true->CA l=l
 | [],_=>rfl
 | t::l,hv=>by
  simp only[BC,AH] at hv;rw[CA,Jc t hv.1,Ub l hv.2]
end
theorem C8 {t:Ty} (hv:valid t=true) (hc:CP 0 t=true):inst [] 0 t=t:=JP [] t 0 hv hc
section
variable {R:RT}
theorem lZ {s:AQ} {m:Option Nat} {K:AV->Prop} (h:K (BB false)):cZ s (Uc (.pv (.sc (.pointer none)))) m .neq (.pv (.sc (.pointer none))) (.pv (.sc (.pointer none))) K:=Be
theorem AA2 {s:AQ} {n:Option Nat} {id off:Nat} {K:AV->Prop} (ha:alive s id=true) (h:K (BB true)):cZ s n (some 0) .neq (.ptr id off) (.pv (.sc (.pointer none))) K:=by
 simp only[cZ,Ud,Gt];refine⟨?_,h⟩
 simp_all[sameKind,EI]
def GZ (s:AQ) (c d:List AV):AQ:=⟨s.bs++[c]++[Z4]++[d],s.ts⟩
theorem Il {s:AQ} {c d:List AV}:(GZ s c d).bs[s.bs.length]?=some c/\(GZ s c d).bs[s.bs.length+1]?=some Z4/\(GZ s c d).bs[s.bs.length+2]?=some d:=by simp[*,GZ]
theorem Ue {s:AQ} {c d:List AV} {p:Nat} {x:List AV} (h:s.bs[p]?=some x):(GZ s c d).bs[p]?=some x:=Ai (Ai (Ai h _) _) _
theorem S5 {s:AQ} (hs:BI s) {c d:List AV} (hc:Ah 0 c=true) (hd:Ah 0 d=true):BI (GZ s c d):=by
 intro b hb;simp only[GZ,B4,Df] at hb;rcases hb with ((hb|rfl)|rfl)|rfl
 .exact Bp (by simp[GZ]) b (hs b hb)
 .exact Bp AD _ hc
 .rfl
 .exact Bp AD _ hd
theorem LM {s:AQ} {u:Nat} {fn:AV} (hfn:close [] 0 0 fn=none) {k' i':Int} {n':List UInt8} {a:AV} {rows:List (List PV)} {Post:AV->Prop} (ha:A2 a rows)
  (hh:ER (BB (k'==5)) (
   E2 (GZ s [AG k',SS n',AG i',a] [AG k',SS n',AG i',.AE []]) (.ptr s.bs.length 0) 2 λa19=>
   D5 (env R) (GZ s [AG k',SS n',AG i',a] [AG k',SS n',AG i',.AE []]) none a19 λa20=>
   He (env R) (Ce (env R) 121 s.bs.length s.bs.length s.ts.length) (fn) [a20,AG u] (GZ s [AG k',SS n',AG i',a] [AG k',SS n',AG i',.AE []]) λa22 Ug=>
   JM a22 0 λa23=>
   JM a22 1 λa24=>
   cZ Ug (Uc a23) (some 0) .neq a23 (.pv (.sc (.pointer none))) λa26=>
   ER a26 (
   JN Ug a23 λa28=>
   D5 (env R) Ug (some 4) a28 λa29=>
   He (env R) (Ce (env R) 121 s.bs.length s.bs.length s.ts.length) (.func (.func 146) [] []) [a29] Ug λa30 qO=>
   IM (Ce (env R) 121 s.bs.length s.bs.length s.ts.length) qO 4 (.ptr (s.bs.length+1) 0) a30 λqN=>
   D5 (env R) qN (some 4) (.ptr (s.bs.length+1) 0) λr=>
   QI s.bs.length s.ts.length Post r qN) (
   iT R s.bs.length s.bs.length s.ts.length (AG u) (fn) (.ptr s.bs.length 0) (.ptr (s.bs.length+1) 0) (.ptr (s.bs.length+2) 0) a24 Ug (QI s.bs.length s.ts.length Post))) (
   ZU R s.bs.length s.bs.length s.ts.length (AG u) (fn) (.ptr s.bs.length 0) (.ptr (s.bs.length+1) 0) (.ptr (s.bs.length+2) 0) (GZ s [AG k',SS n',AG i',a] [AG k',SS n',AG i',.AE []]) (QI s.bs.length s.ts.length Post))) :
  ∃r,Post r/\∀L,BW (env R) L 121 [.agg [AG k',SS n',AG i',a],AG u,fn] s r s:=by
 refine i121 (by simp[*]) (AHQ ?_);refine Bx (cs:=[AG k',SS n',AG i',a]) rfl (by simp[ha.ok]) (Bj ?_);refine Ag (cs:=[AG k',SS n',AG i',a]) (Ai (Ax _ _) _) rfl (Bj ?_);refine Bq (old:=Z4) (Ax _ _) rfl rfl AI AD (by simp[ha.ok]) (.inl AD) ?_;have e:((s.bs++[[AG k',SS n',AG i',a]]++[Z4]++[Z4]).set (s.bs++[[AG k',SS n',AG i',a]]++[Z4]).length [AG k',SS n',AG i',a])=(GZ s [AG k',SS n',AG i',a] [AG k',SS n',AG i',a]).bs:=by grind[GZ]
 have l1:(s.bs++[[AG k',SS n',AG i',a]]++[Z4]).length=s.bs.length+2:=AD;have l2:(s.bs++[[AG k',SS n',AG i',a]]).length=s.bs.length+1:=AD;simp only at e l1 l2 ⊢;rw[e];simp only[l1,l2];obtain⟨g0,g1,g2⟩:=Il (s:=s) (c:=[AG k',SS n',AG i',a]) (d:=[AG k',SS n',AG i',a]);refine AO (AX g2) (C2 (off:=3) g2 (AY 4) rfl AD rfl (.inl AD) ?_);have e2:(GZ s [AG k',SS n',AG i',a] [AG k',SS n',AG i',a]).bs.set (s.bs.length+2) ([AG k',SS n',AG i',a].set 3 (.AE []))=(GZ s [AG k',SS n',AG i',a] [AG k',SS n',AG i',.AE []]).bs:=by simp[*,GZ]
 show E2 ⟨(GZ s [AG k',SS n',AG i',a] [AG k',SS n',AG i',a]).bs.set (s.bs.length+2) ([AG k',SS n',AG i',a].set 3 (.AE [])),s.ts⟩ _ _ _
 rw[e2];obtain⟨g0,g1,g2⟩:=Il (s:=s) (c:=[AG k',SS n',AG i',a]) (d:=[AG k',SS n',AG i',.AE []]);exact AO (AX g0) (AZ g0 rfl (A0 hh))
theorem Pu {s:AQ} {p:Nat} {cp:List AV} {fn:AV} {ts ls:List Ty} {a:AV} (ha:A2 a (Ad ts)) (hl:ts.length<2 ^ 38) (SN:ls.length=ts.length) {k i0 i':Int} {n:List UInt8} {u:Nat} (hu:u<2 ^ 60) (hs:BI s) (hp:s.bs[p]?=some cp)
  (ih:∀(q:Nat) (t l:Ty),ts[q]?=some t->ls[q]?=some l->∀s,BI s->s.bs[p]?=some cp->∃r,A7 l r/\∀L,BW (env R) L 121 [.agg ((Aj t).map .pv),AG (u+EE k q:Nat),fn] s r s)
  {Post:AV->Prop} (hP:∀r,A7 (.mk k n i' ls) r->Post r) :
  ZU R s.bs.length s.bs.length s.ts.length (AG u) fn (.ptr s.bs.length 0) (.ptr (s.bs.length+1) 0) (.ptr (s.bs.length+2) 0) (GZ s [AG k,SS n,AG i0,a] [AG k,SS n,AG i',.AE []]) (QI s.bs.length s.ts.length Post):=by
 obtain⟨g0,g1,g2⟩:=Il (s:=s) (c:=[AG k,SS n,AG i0,a]) (d:=[AG k,SS n,AG i',.AE []]);exact AHR (AO (AX g0) (AZ g0 rfl (Aq (n:=ts.length) (by rw[ha.BA,Aa]) (vR ha hl SN hu hs hp ih hP ts.length 0 _ (.AE []) AA (S5 hs (by simp[Ah,Aw,ha.Aw]) AR) (Ue hp) g0 g1 g2 (.inl rfl) (AY _)))))
theorem vV {s:AQ} {fn:AV} {u:Nat} {n:List UInt8} {i i':Int} {a:AV} (ha:A2 a []) (hu:u<2 ^ 60) (hs:BI s) {p:Nat} {cp:List AV} (hp:s.bs[p]?=some cp) {Post:AV->Prop} (hP:∀r,A7 (.mk 5 n i' []) r->Post r) :
  iT R s.bs.length s.bs.length s.ts.length (AG u) fn (.ptr s.bs.length 0) (.ptr (s.bs.length+1) 0) (.ptr (s.bs.length+2) 0) (AG i') (GZ s [AG 5,SS n,AG i,a] [AG 5,SS n,AG i,.AE []]) (QI s.bs.length s.ts.length Post):=by
 obtain⟨g0,g1,g2⟩:=Il (s:=s) (c:=[AG 5,SS n,AG i,a]) (d:=[AG 5,SS n,AG i,.AE []]);refine AHS (AO (AX g2) (C2 g2 AD rfl AD rfl (.inl AD) ?_));have e3:(GZ s [AG 5,SS n,AG i,a] [AG 5,SS n,AG i,.AE []]).bs.set (s.bs.length+2) ([AG 5,SS n,AG i,.AE []].set 2 (AG i'))=(GZ s [AG 5,SS n,AG i,a] [AG 5,SS n,AG i',.AE []]).bs:=by simp[*,GZ]
 show ZU R _ _ _ _ _ _ _ _ ⟨(GZ s [AG 5,SS n,AG i,a] [AG 5,SS n,AG i,.AE []]).bs.set (s.bs.length+2) ([AG 5,SS n,AG i,.AE []].set 2 (AG i')),s.ts⟩ _
 rw[e3];exact Pu (ts:=[]) (ls:=[]) ha AD rfl hu hs hp AD hP
theorem lf {v u:Nat} {k:Int}:∀(ts:List Ty) (b q:Nat) (l:Ty),(CA (Kk v u k b ts))[q]?=some l->∃t,ts[q]?=some t/\(CA ts)[q]?=some (ren t)/\l=ren (sub v (u+EE k (b+q)) t)
 | [],_,_,_,h=>by grind[Kk,CA]
 | t::ts,b,0,l,h=>by grind[Kk,CA]
 | t::ts,b,q+1,l,h=>by
  simp only[Kk,CA,IJ] at h ⊢;obtain⟨t',h1,h2,h3⟩:=lf ts (b+1) q l h
  grind
theorem cg {v u:Nat} {k:Int}:∀(ts:List Ty) (b:Nat),(CA (Kk v u k b ts)).length=(CA ts).length
 | [],_=>rfl
 | t::ts,b=>by simp[Kk,CA,cg ts (b+1)]
mutual
theorem cj {N v p:Nat}:∀(t:Ty),size t<2 ^ 38->FH N t=true->R3 t=true->∀(u:Nat),u+size t<2 ^ 60->∀(x:AV),A7 (ren t) x->∀(s:AQ),BI s->s.bs[p]?=some [AG 2,SS (36::HK v),AG 0,.AE []] ->
  ∃r,A7 (ren (sub v u t)) r/\∀L,BW (env R) L 121 [x,AG u,AOg p] s r s
 | .mk k n i ts,h,ht,Uh,u,hu,x,hx,s,hs,hp=>by
  have Kt:=(BH.1 hp).1;simp only[size] at h hu;rw[FH] at ht;rw[R3] at Uh
  by_cases h7:k=7
  .subst h7
   simp only[CW,AM,AH,GM] at ht;have hts:=ht.1;subst hts;have er:ren (.mk 7 n i [])=.mk 2 (36::HK i.toNat) 0 []:=rfl;have es:ren (sub v u (.mk 7 n i []))=.mk 2 (36::HK i.toNat) 0 []:=rfl;rw[er] at hx;rw[es];obtain⟨a,rfl,ha⟩:=hx;exact LM rfl ha (Ay (Pu (ts:=[]) (ls:=[]) ha AD rfl AA hs hp AD λr hr=>hr))
  .have er:=Gw k n i ts h7
   rw[er] at hx;obtain⟨a,rfl,ha⟩:=hx
   by_cases h5:k=5
   .subst h5
    simp only[CW,NP,GL,AH,GM] at Uh;have hts:=Uh.1.1.1;have hi:i<2 ^ 60:=AB;subst hts;refine LM rfl ha (A9 ?_);obtain⟨g0,g1,g2⟩:=Il (s:=s) (c:=[AG 5,SS n,AG i,a]) (d:=[AG 5,SS n,AG i,.AE []]);have hok:BI (GZ s [AG 5,SS n,AG i,a] [AG 5,SS n,AG i,.AE []]):=S5 hs (by simp[Ah,Aw,ha.Aw]) AR;have gp:=Ue (c:=[AG 5,SS n,AG i,a]) (d:=[AG 5,SS n,AG i,.AE []]) hp;refine AO (AX g0) (AZ g0 rfl ?_);refine⟨_,_,AHI i u AA hi p hok AB _,B9 rfl (B9 rfl ?_)⟩;have SP:sub v u (.mk 5 n i [])=bif i==(u:Int) then ph v else bif decide ((u:Int)<i) then .mk 5 n (i-1) [] else .mk 5 n i []:=AR
    rw[SP];cases he:(i==(u:Int)) with
    | true=>
     simp only[AM];refine AA2 (AX gp) (A9 (C1 (AX gp) (Ag gp rfl ?_)));have hc:=UX (R:=R) (ren (ph v)) Be (.agg [AG 2,SS (36::HK v),AG 0,.AE []]) ⟨_,rfl,.AE _⟩;refine AL hc ?_;rintro w ⟨b,rfl,hb⟩;refine Bq g1 rfl rfl AI AD (by simp[hb.ok]) (.inl AD) (Ag (BZ g1) rfl ?_);exact⟨.agg [AG 2,SS (36::HK v),AG 0,b],by simp[hb.close],⟨b,rfl,hb⟩⟩
    | false=>
     simp only[AK];refine lZ (Ay (vV ha AA hs hp λr hr=>?_));cases hd:decide ((u:Int)<i) with
     | true=>rw[hd] at hr; exact hr
     | false=>rw[hd] at hr; exact hr
   .have b5:(k==5)=false:=by grind
    have b7:(k==7)=false:=AB;have es:ren (sub v u (.mk k n i ts))=.mk k n i (CA (Kk v u k 0 ts)):=by grind[sub,Gw]
    rw[es];refine LM rfl ha ?_;rw[b5];rw[b7] at ht;simp only[AK,AH] at ht Uh;have Tn:=BV ts;refine Ay (Pu ha (by grind[Bo]) (cg ts 0) AA hs hp ?_ λr hr=>hr);intro q t l hq vU s' hs' hp';obtain⟨t',h1,h2,h3⟩:=lf ts 0 q l vU;rw[h2] at hq;cases hq;rw[h3];have hbn:=Qr k q;rw[CQ];exact XT ts AA ht.2.2 Uh.2 (u+EE k q) AA t' (A3 h1) s' hs' hp'
theorem XT {N v p:Nat}:∀(l:List Ty),Ac l<2 ^ 38->Gc N l=true->Pt l=true->∀(u:Nat),u+Ac l<2 ^ 60->∀t∈l,∀(s:AQ),BI s->s.bs[p]?=some [AG 2,SS (36::HK v),AG 0,.AE []] ->
  ∃r,A7 (ren (sub v u t)) r/\∀L,BW (env R) L 121 [.agg ((Aj (ren t)).map .pv),AG u,AOg p] s r s
 | [],_,_,_,_,_,_,h=>by cases h
 | e::l,h,ht,Uh,u,hu,t,hm=>by
  simp only[Ac] at h hu;simp only[Gc,AH] at ht;simp only[Pt,AH] at Uh;rcases A5.1 hm with h' | h'
  .rw[h']
   exact cj e AA ht.1 Uh.1 u AA _ (A7.Bi _)
  .exact XT l AA ht.2 Uh.2 u AA t h'
end
theorem SQ {N v:Nat} {t:Ty} (h:size t<2 ^ 38) (ht:FH N t=true) (hv:R3 t=true) {x:AV} (hx:A7 (ren t) x):Af (env R) 89 [x,phA v] λr=>A7 (ren (sub v 0 t)) r:=by
 obtain⟨k',n',i',ts',hr⟩:∃k n i ts,ren t=.mk k n i ts:=by
  obtain⟨k,n,i,ts⟩:=ren t;exact⟨k,n,i,ts,rfl⟩
 have hx':=hx;rw[hr] at hx;obtain⟨a,rfl,ha⟩:=hx;refine e89 (u0:=.agg [AG k',SS n',AG i',a]) (u1:=phA v) (by simp[ha.close,BR,close]) (AOh ?_);refine Bx (cs:=[AG k',SS n',AG i',a]) rfl (by simp[ha.ok]) (Bx (cs:=[AG 2,SS (36::HK v),AG 0,.AE []]) rfl AD (Bj (Ag (cs:=[AG k',SS n',AG i',a]) rfl rfl ?_)))
 have hs:BI ⟨[[AG k',SS n',AG i',a],[AG 2,SS (36::HK v),AG 0,.AE []],Z4],[]⟩:=by
  intro b hb;simp only[A5,Ep,Er] at hb;rcases hb with rfl|rfl|rfl <;> simp[Ah,Aw,ha.Aw]
 obtain⟨r,h1,h2⟩:=cj (R:=R) (v:=v) (p:=1) t h ht hv 0 AA _ hx' ⟨[[AG k',SS n',AG i',a],[AG 2,SS (36::HK v),AG 0,.AE []],Z4],[]⟩ hs rfl;refine⟨r,_,h2 _,?_⟩;have aM:=h1
 obtain⟨k2,n2,i2,I6,Ng⟩:∃k n i ts,ren (sub v 0 t)=.mk k n i ts:=by
  obtain⟨k,n,i,ts⟩:=ren (sub v 0 t);simp
 rw[Ng] at h1;obtain⟨b,rfl,hb⟩:=h1;refine Bq (old:=Z4) (id:=2) rfl rfl rfl AI (AN _) (by simp[hb.ok]) (.inl (AN _)) (Ag (cs:=[AG k2,SS n2,AG i2,b]) rfl rfl ?_);exact⟨.agg [AG k2,SS n2,AG i2,b],by simp[hb.close],aM⟩
end
mutual
def lsh:Ty->Bool
 | .mk _ _ _ ts=>decide (ts.length<2 ^ 38)&&WC ts
def WC:List Ty->Bool
 | []=>true
 | t::l=>lsh t&&WC l
end
mutual
theorem vW:∀t:Ty,size t<2 ^ 38->lsh t=true
 | .mk k n i ts,h=>by
  simp only[size] at h;have Tn:=BV ts;rw[lsh,lg ts AA,Ar AA];rfl
theorem lg:∀l:List Ty,Ac l<2 ^ 38->WC l=true
 | [],_=>by rw[WC]
 | t::l,h=>by
  simp only[Ac] at h;rw[WC,vW t AA,lg l AA];rfl
end
def shT (t:Ty):Prop:=lsh t=true/\size t<2 ^ 59
theorem shT.of {t:Ty} (h:size t<2 ^ 38):shT t:=⟨vW t h,AA⟩
section
variable {R:RT}
abbrev AOi (p:Nat):AV:=.func (.func 134) [] [.ptr p 0]
theorem AHT (i u:Int) (h0:-(2 ^ 60)<=i) (h1:i<2 ^ 60) (h2:0<=u) (h3:u<2 ^ 60) (p:Nat) {s:AQ} (hs:BI s) (hp:s.bs[p]?=some [.AE []]) (L:BL) :
  BW (env R) L 134 [AG i,AG u,.ptr p 0] s (.tuple [.pv (.sc (.pointer none)),AG i]) s:=by
 have fin:∀(rr:Bool),QM rr s.bs.length (λv s'=>v=.tuple [.pv (.sc (.pointer none)),AG i]/\s'=s) (.tuple [.pv (.sc (.pointer none)),AG i]) s:=by
  intro rr;have e:s.bs.take s.bs.length=s.bs:=NK;refine J0 (ds:=[.pv (.sc (.pointer none)),AG i]) ?_ ?_ ?_
  .rw[e,C3]
   exact hs
  all_goals simp
 obtain⟨v,s',⟨rfl,rfl⟩,hc⟩:=AYJ (R:=R) (L:=L) (s:=s) (t0:=AG i) (t1:=AG u) (t2:=.ptr p 0) (Post:=λv s'=>v=.tuple [.pv (.sc (.pointer none)),AG i]/\s'=s) AR (AHU (Hf AA AA (Ko (by
  by_cases h:i>=u
  .rw[Ar h]
   refine Ak (Ak (AZ hp rfl (Ak (Aq (n:=0) rfl (Ak (Ao (pk ?_)))))));rw[Az AA];exact Ay (vX (fin _))
  .rw[Az h]
   exact B8 (B8 (B8 (B8 (pk (Ay (vX (fin _)))))))))))
 omega
mutual
theorem XU {p:Nat}:∀(t:Ty),lsh t=true->R3 t=true->∀(u:Nat),u+size t<2 ^ 60->∀(x:AV),A7 t x->∀(s:AQ),BI s->s.bs[p]?=some [.AE []] ->
  ∃r,A7 t r/\∀L,BW (env R) L 121 [x,AG u,AOi p] s r s
 | .mk k n i ts,h,Uh,u,hu,x,hx,s,hs,hp=>by
  simp only[size] at hu;rw[lsh,AH,Cy] at h;obtain⟨hl38,h⟩:=h;rw[R3] at Uh;obtain⟨a,rfl,ha⟩:=hx
  by_cases h5:k=5
  .subst h5
   simp only[CW,NP,GL,AH,GM,Cy] at Uh;have hts:=Uh.1.1.1;subst hts;refine LM rfl ha (A9 ?_);obtain⟨g0,g1,g2⟩:=Il (s:=s) (c:=[AG 5,SS n,AG i,a]) (d:=[AG 5,SS n,AG i,.AE []]);have hok:BI (GZ s [AG 5,SS n,AG i,a] [AG 5,SS n,AG i,.AE []]):=S5 hs (by simp[Ah,Aw,ha.Aw]) AR;exact AO (AX g0) (AZ g0 rfl ⟨_,_,AHT i u Uh.1.1.2 Uh.1.2 AA AA p hok (Ue hp) _,B9 rfl (B9 rfl (lZ (Ay (vV ha AA hs hp λr hr=>hr))))⟩)
  .have b5:(k==5)=false:=by grind
   refine LM rfl ha ?_;rw[b5];simp only[AH] at Uh;have Tn:=BV ts;refine Ay (Pu ha AA rfl AA hs hp ?_ λr hr=>hr);intro q t l hq vU s' hs' hp';rw[hq] at vU;cases vU;have hbn:=Qr k q;exact Ui ts h Uh.2 (u+EE k q) AA t (A3 hq) s' hs' hp'
theorem Ui {p:Nat}:∀(l:List Ty),WC l=true->Pt l=true->∀(u:Nat),u+Ac l<2 ^ 60->∀t∈l,∀(s:AQ),BI s->s.bs[p]?=some [.AE []] ->
  ∃r,A7 t r/\∀L,BW (env R) L 121 [.agg ((Aj t).map .pv),AG u,AOi p] s r s
 | [],_,_,_,_,_,h=>by cases h
 | e::l,h,Uh,u,hu,t,hm=>by
  simp only[Ac] at hu;rw[WC,AH] at h;simp only[Pt,AH] at Uh;rcases A5.1 hm with h' | h'
  .rw[h']
   exact XU e h.1 Uh.1 u AA _ (A7.Bi _)
  .exact Ui l h.2 Uh.2 u AA t h'
end
theorem ZV {t:Ty} (h:shT t) (hv:R3 t=true) {x:AV} (hx:A7 t x):Af (env R) 107 [x,.AE []] λr=>A7 t r:=by
 obtain⟨k,n,i,ts⟩:=t;have hx':=hx;obtain⟨a,rfl,ha⟩:=hx;refine AYK (u0:=.agg [AG k,SS n,AG i,a]) (u1:=.AE []) (by simp[ha.close,BR,close]) (AHV ?_);refine Bx (cs:=[AG k,SS n,AG i,a]) rfl (by simp[ha.ok]) (Bx (cs:=[.AE []]) rfl AD (Bj (Ag (cs:=[AG k,SS n,AG i,a]) rfl rfl ?_)))
 have hs:BI ⟨[[AG k,SS n,AG i,a],[.AE []],Z4],[]⟩:=by
  intro b hb;simp only[A5,Ep,Er] at hb;rcases hb with rfl|rfl|rfl <;> simp[Ah,Aw,ha.Aw]
 obtain⟨r,h1,h2⟩:=XU (R:=R) (p:=1) (.mk k n i ts) h.1 hv 0 (by have:=h.2; omega) _ hx' ⟨[[AG k,SS n,AG i,a],[.AE []],Z4],[]⟩ hs rfl;refine⟨r,_,h2 _,?_⟩;obtain⟨b,rfl,hb⟩:=h1;refine Bq (old:=Z4) (id:=2) rfl rfl rfl AI (AN _) (by simp[hb.ok]) (.inl (AN _)) (Ag (cs:=[AG k,SS n,AG i,b]) rfl rfl ?_);exact⟨.agg [AG k,SS n,AG i,b],by simp[hb.close],⟨b,rfl,hb⟩⟩
theorem R4 {t:Ty} (h:shT t) (hv:R3 t=true) {x:AV} (hx:A7 t x):Af (env R) 70 [x] λr=>A7 t r:=by
 obtain⟨k,n,i,ts⟩:=t;have hx':=hx;obtain⟨a,rfl,ha⟩:=hx;refine e70 (u0:=.agg [AG k,SS n,AG i,a]) (by simp[ha.close]) (AOj ?_);refine Bx (cs:=[AG k,SS n,AG i,a]) rfl (by simp[ha.ok]) (Bj (Ag (cs:=[AG k,SS n,AG i,a]) rfl rfl (AL (ZV h hv hx') ?_)));rintro r ⟨b,rfl,hb⟩;refine Bq (old:=Z4) (id:=1) rfl rfl rfl AI (AN _) (by simp[hb.ok]) (.inl (AN _)) (Ag (cs:=[AG k,SS n,AG i,b]) rfl rfl ?_);exact⟨.agg [AG k,SS n,AG i,b],by simp[hb.close],⟨b,rfl,hb⟩⟩
end
theorem Pv {n:Int} {s:AQ} {K:AV->AQ->Prop} (hK:K (.AE [[.sc (.int .i64 n)]]) s):HJ false s 1 [(AG 0)] 1 [(0,1,AG n)] K:=by
 simp[HJ,Fu,CI];exact hK
theorem AA3 {L:BL} {s:AQ} {a:AV} {l:List Int} {n:Int} {K:AV->AQ->Prop} (ha:Dl 0 s.ts 3 a (Ab l)) (Ee:L.rt=0) (hl:l.length<2 ^ 40) (h:∀a' ts',Dl 0 ts' 3 a' (Ab (l++[n]))->K a' ⟨s.bs,ts'⟩) :
  Ik false L s 3 1 8 a (.AE [[.sc (.int .i64 n)]]) K:=by
 have hl':=BF l;have:=M6 (L:=L) (bs:=s.bs) (ts:=[]) (x:=s.ts) (e:=3) (k:=1) (bytes:=8) (a:=a) (rows:=Ab l) (row:=[.sc (.int .i64 n)]) (K:=K) AB AA (by grind[Ab]) rfl AA AD AA AA (by grind[Ab])
 simp_all
theorem DI {bs:List (List AV)} {n:Nat} (h:n<=bs.length) (b:List AV):(bs++[b]).take n=bs.take n:=YT h
theorem CD {bs X:List (List AV)} {n j:Nat} {v:List AV} (h:bs.take n=X) (hj:X[j]?=some v):bs[j]?=some v:=AB
theorem EU {bs X:List (List AV)} {n j:Nat} {c:List AV} (h:bs.take n=X):(bs.set j c).take n=X.set j c:=by grind[List.take_set]
theorem ZW {rr:Bool} {A:Nat} {c:List AV} {s0:AQ} {bs:List (List AV)} {ts:List (Nat×Nat)} {Post:AV->AQ->Prop} (h0:BI s0) (hT:bs.take s0.bs.length=s0.bs.set A c) (hc:Ah s0.bs.length c=true) (hP:Post (.tuple []) ⟨s0.bs.set A c,ts⟩):QM rr s0.bs.length Post (.tuple []) ⟨bs,ts⟩:=by
 refine J0 (ds:=[]) ?_ rfl ?_
 .have:=BI.set h0 hc ts (j:=A)
  rw[C3];intro b hb;have:=this b AB
  grind
 grind
section
variable {R:RT}
abbrev iU (A F:Nat):AV:=.func (.func 56) [] [.ptr A 0,.ptr F 0]
def vY (R:RT) (A F:Nat) (x:AV) (l m:List Int) (s:AQ):Prop:=∀(L:BL) (c:AV),L.ro=0->L.rt=0->s.bs[A]?=some [c]->Dl 0 s.ts 3 c (Ab l) ->
 ∃v s',(∃c' ts',Dl 0 ts' 3 c' (Ab (l++m))/\v=.tuple []/\s'=⟨s.bs.set A [c'],ts'⟩)/\BW (env R) L 56 [x,.ptr A 0,.ptr F 0] s v s'
theorem vZ {A F:Nat} {ts:List Ty} {a:AV} (ha:A2 a (Ad ts)) (hl:ts.length<2 ^ 38) {l:List Int} {s0:AQ} (hs0:BI s0) (hA:A<s0.bs.length) (hF:s0.bs[F]?=some [iU A F]) (hAF:A≠F)
  (ih:∀t∈ts,∀(l:List Int) (s:AQ),BI s->s.bs[F]?=some [iU A F]->l.length+(Ae t).length<2 ^ 40->vY R A F (.agg ((Aj t).map .pv)) l (Ae t) s)
  (hb:l.length+(Bk ts).length<2 ^ 40) {rr:Bool} {Post:AV->AQ->Prop} (hP:∀c' ts',Dl 0 ts' 3 c' (Ab (l++Bk ts))->Post (.tuple []) ⟨s0.bs.set A [c'],ts'⟩) :
  ∀(j q:Nat) (done:List Int) (bs:List (List AV)) (tk:List (Nat×Nat)) (c:AV),q+j=ts.length->done++Bk (ts.drop q)=l++Bk ts->BI ⟨bs,tk⟩->s0.bs.length<=bs.length->bs.take s0.bs.length=s0.bs.set A [c]->Dl 0 tk 3 c (Ab done) ->
   ADI R 0 0 0 (.ptr F 0) a (AG ts.length) (AG q) ⟨bs,tk⟩ (QM rr s0.bs.length Post):=by
 intro j
 induction j with
 | zero=>
  intro q done bs tk c hi hd hs hn hT hc;refine ADJ (Ao ?_);rw[Az AA];rw[CH AA,Bk,HO] at hd;refine Ay (ZW hs0 hT (by simp[Ah,hc.A1.Aw]) (hP c tk ?_))
  grind
 | succ j D1=>
  intro q done bs tk c hi hd hs hn hT hc;refine ADJ (Ao ?_);rw[Ar AA];obtain⟨t,ht⟩:∃t,ts[q]?=some t:=⟨_,Au AA⟩;have hrl:((Aj t).map AV.pv).length=4:=by grind[Al]
  have hro:=DE t
  have Ku:Ah (bs.length+1) ((Aj t).map AV.pv)=true:=by
   obtain⟨k1,n1,i1,t1⟩:=t;rfl
  refine A9 (AOl (BM ha (row:=Aj t) AA (by grind[BJ]) (Al _) AA (Ca (Bj ?_))));have fT:=ih t (A3 ht);have hdr:ts.drop q=t::ts.drop (q+1):=drop_cons ht;rw[hdr,Bk,<-Du] at hd;have hdl:=Bg List.length hd;simp only[Bd] at hdl;generalize (Aj t).map AV.pv=row at hrl hro Ku fT;refine Bq (Ax bs Z4) hrl rfl AI (AN _) hro (.inl (AN _)) ?_;have e:(bs++[Z4]).set bs.length row=bs++[row]:=AD;rw[e];have gF:(s0.bs.set A [c])[F]?=some [iU A F]:=AB;have gA:(s0.bs.set A [c])[A]?=some [c]:=by rw[CX AA]
  have hs':BI ⟨bs++[row],tk⟩:=BI.app (s:=⟨bs,tk⟩) hs Ku;have iV:=(DI hn row).trans hT;obtain⟨v,s',⟨c',ts',h1,rfl,rfl⟩,h3⟩:=fT done ⟨bs++[row],tk⟩ hs' (CD iV gF) AA (Ce (env R) 56 0 0 0) c rfl rfl (CD iV gA) hc;refine AZ (Ai (CD hT gF) row) rfl (Ag (Ax bs row) hrl ⟨_,_,h3,AOm (Ba AA AA ?_)⟩);have qP:=EU (j:=A) (c:=[c']) iV;rw[IK] at qP;exact D1 (q+1) (done++Ae t) _ ts' c' AA hd (BI.set (s:=⟨bs++[row],tk⟩) hs' (by simp[Ah,Aw,h1.A1.Aw]) _) AB qP h1
mutual
theorem cm {A F:Nat} (hAF:A≠F):∀(t:Ty),size t<2 ^ 38->∀(x:AV),A7 t x->∀(l:List Int) (s:AQ),BI s->s.bs[F]?=some [iU A F]->l.length+(Ae t).length<2 ^ 40->vY R A F x l (Ae t) s
 | .mk k n i ts,h,x,hx,l,s,hs,hF,hb,L,c,hro,Ee,hA,hc=>by
  obtain⟨a,rfl,ha⟩:=hx;simp only[size] at h;rw[Ae] at hb ⊢;have lA:=(BH.1 hA).1;have Tn:=BV ts;refine m56 (by simp[DK,Fx]) ?_;rw[hro,Ee];have hs1:BI ⟨s.bs++[[AG k,SS n,AG i,a]],s.ts⟩:=BI.app hs (by simp[Ah,Aw,ha.Aw]);have g:=Ax s.bs [AG k,SS n,AG i,a];refine AOn (Bx (cs:=[AG k,SS n,AG i,a]) rfl (by simp[ha.ok]) (AO (AX g) (AZ g rfl (A0 ?_))));have gA:=Ai hA [AG k,SS n,AG i,a];have same:s.bs.set A [c]=s.bs:=by grind[List.set_getElem_self]
  have tkn:(s.bs++[[AG k,SS n,AG i,a]]).take s.bs.length=s.bs.set A [c]:=AB;cases h5:(k==5) with
  | true=>
   rw[h5] at hb;refine A9 (AZ gA rfl (AO (AX g) (AZ g rfl (Pv ⟨AI,AA3 hc rfl AA λc' ts' K7=>?_⟩))));refine C2 gA AD K7.A1.cells (AN _) K7.A1.ok (.inl (AN _)) ?_;have hT:=EU (j:=A) (c:=[c']) tkn;rw[IK] at hT;exact ZW hs hT (by simp[Ah,K7.A1.Aw]) ⟨c',ts',K7,rfl,rfl⟩
  | false=>
   refine Ay (A0 ?_);cases h3:(k==3) with
   | true=>
    rw[h5,h3] at hb;refine A9 (AO (AX g) (AZ g rfl (Aq (n:=ts.length) (by rw[ha.BA,Aa]) ?_)));exact vZ (l:=l) ha AA hs lA hF hAF (λt hm l s hs hF hb=>XV hAF ts AA t hm l s hs hF hb) hb (λc' ts' K7=>⟨c',ts',K7,rfl,rfl⟩) ts.length 0 l _ s.ts c AA AD hs1 AD tkn hc
   | false=>
    refine Ay (ZW hs tkn (by simp[Ah,hc.A1.Aw]) ⟨c,s.ts,?_,rfl,rfl⟩)
    grind
theorem XV {A F:Nat} (hAF:A≠F):∀(ts:List Ty),Ac ts<2 ^ 38->∀t∈ts,∀(l:List Int) (s:AQ),BI s->s.bs[F]?=some [iU A F]->l.length+(Ae t).length<2 ^ 40->vY R A F (.agg ((Aj t).map .pv)) l (Ae t) s
 | [],_,_,h=>by cases h
 | e::l,h,t,hm=>by
  simp only[Ac] at h;rcases A5.1 hm with h' | h'
  .rw[h']
   exact cm hAF e AA _ (A7.Bi _)
  .exact XV hAF l AA t h'
end
def Di (b:Br):List PV:=.list (Ad b.bounds)::Aj b.body
def MX (b:Br) (x:AV):Prop:=∃a y,x=.agg (a::y)/\A2 a (Ad b.bounds)/\A7 b.body (.agg y)
theorem MX.Bi (b:Br):MX b (.agg ((Di b).map .pv)):=⟨_,_,rfl,.list _,A7.Bi _⟩
theorem ZX {E:Env} {s:AQ} {id:Nat} {a:AV} {cs:List AV} {K:AV->Prop} (hb:s.bs[id]?=some (a::cs)) (hk:cs.length=4) (h:K (.agg cs)):D5 E s (some 4) (.ptr id 1) K:=by
 simp only[D5,hb,wO,DF];refine⟨by simp[hk],?_⟩
 show K (.agg (cs.take 4))
 rw[CU AA];exact h
theorem A7.cells {t:Ty} {y:List AV} (h:A7 t (.agg y)):y.length=4/\y.all BD=true/\Ah 0 y=true/\∀bs n m,BR bs n m y=some y:=by
 obtain⟨k,n,i,ts⟩:=t;obtain⟨a,hy,ha⟩:=h;cases hy;exact⟨rfl,by simp[ha.ok],by simp[Ah,Aw,ha.Aw],λbs n m=>by simp[ha.close,BR,close]⟩
theorem FV {b:Br} (h:size b.body<2 ^ 38) (hc:(Ae b.body).length<2 ^ 40) {x:AV} (hx:MX b x):Af (env R) 23 [x] λr=>A2 r (Ab (Ae b.body)):=by
 obtain⟨a,y,rfl,ha,hy⟩:=hx;obtain⟨h4,hok,hid,Ff⟩:=hy.cells;refine e23 (u0:=.agg (a::y)) (by simp[BR,close,ha.close,Ff]) (AOo ?_);refine Bx (cs:=a::y) rfl (by simp[ha.ok]; grind) (Bj (Bj ?_));refine C2 (id:=2) (off:=0) (cs:=[.pv (.sc .nilFunc)]) rfl AI rfl (AN _) rfl (.inl (AN _)) ?_;refine AZ (id:=2) rfl rfl (AO (AX (c:=a) (cs:=y) rfl) ?_)
 show D5 _ _ _ (.ptr 0 1) _
 refine ZX rfl h4 ?_
 have hs:BI ⟨[a::y,[.AE []],[iU 1 2]],[]⟩:=by
  intro c hc;simp only[A5,Ep,Er] at hc;rcases hc with rfl|rfl|rfl
  .exact Bp (AN _) _ (by simp[Ah,ha.Aw,hid])
  all_goals rfl
 obtain⟨v,s',⟨c',ts',h1,rfl,rfl⟩,h3⟩:=cm (R:=R) (A:=1) (F:=2) AI b.body h _ hy [] ⟨[a::y,[.AE []],[iU 1 2]],[]⟩ hs rfl AB (Ce (env R) 23 0 0 0) (.AE []) rfl rfl rfl (.inl rfl);refine⟨_,_,h3,AZ (id:=1) rfl rfl ?_⟩;obtain⟨r,c1,c2⟩:=L3 h1 _ 0;exact⟨r,c1,AB⟩
theorem Px {b:Br} (h:size b.body<2 ^ 38) (hl:b.bounds.length<2 ^ 38) (hc:(Ae b.body).length<2 ^ 40) {x:AV} (hx:MX b x):Af (env R) 46 [x] λr=>r=BB (decide (b.bounds.length<=6)&&decide ((Ae b.body).length<=3)):=by
 have hx':=hx;obtain⟨a,y,rfl,ha,hy⟩:=hx;obtain⟨h4,hok,hid,Ff⟩:=hy.cells;refine e46 (u0:=.agg (a::y)) (by simp[BR,close,ha.close,Ff]) (AOp ?_);have g:∀ts,(AQ.mk [a::y] ts).bs[0]?=some (a::y):=λ_=>rfl
 refine Bx (cs:=a::y) rfl (by simp[ha.ok]; grind) (AO (AX (g _)) (AZ (g _) rfl (Aq (n:=b.bounds.length) (by rw[ha.BA,Aa]) (ZM ?_))))
 by_cases h6:b.bounds.length<=6
 .rw[Ar AA]
  refine Ak (Ag (g _) AB (Ak (AL (FV h hc hx') λr hr=>Ak (Aq (n:=(Ae b.body).length) (by rw[hr.BA,BF]) (Ak (ZM (pk ?_)))))));refine⟨_,rfl,?_⟩;rw[Ar h6];have:(((Ae b.body).length:Int)<=3)<->((Ae b.body).length<=3):=AA
  grind
 .rw[Az AA]
  refine B8 (B8 (B8 (B8 (pk ⟨_,rfl,?_⟩))))
  grind
theorem Dy {s:AQ} {p:PV} {K:AV->Prop} (hK:K (.pv p)):D5 (env R) s none (.Cw [p] 0) K:=by simp[*]
def ixI (n:Int) (l:List Int):Int:=match l.findIdx? (·==n) with
 | some j=>j
 | none=>-1
theorem iW {l:List Int} {n:Int} (hl:l.length<2 ^ 40) {b:AV} (hb:BE b (Ab l)):Af (env R) 93 [b,AG n] λr=>r=AG (ixI n l):=by
 obtain⟨a,Ff,ha⟩:=hb.closed [] 0;refine e93 (u0:=a) (u1:=AG n) (by simp[*]) (AOq (Aq (n:=l.length) (by rw[ha.BA,BF]) ?_))
 suffices H:∀(j q:Nat),q+j=l.length->(∀p,p<q->l[p]?≠some n)->ADK R 0 0 0 a (AG n) (AG l.length) (AG q) ⟨[],[]⟩ (QP λr=>r=AG (ixI n l)) from H l.length 0 AA (λp hp=>by omega)
 intro j
 induction j with
 | zero=>
  intro q hi hn;refine ADL (Ao ?_);rw[Az AA];refine Ay (AOr ⟨_,rfl,?_⟩)
  grind[List.getElem?_of_mem,ixI]
 | succ j D1=>
  intro q hi hn;refine ADL (Ao ?_);rw[Ar AA];obtain⟨m,hm⟩:∃m,l[q]?=some m:=⟨_,Au AA⟩;refine A9 (AOs (BM ha (row:=[.sc (.int .i64 m)]) AA (by simp[*,Ab]) rfl AA ?_));refine Dy ?_;refine A0 ?_;cases he:n==m with
  | true=>
   refine A9 ⟨_,rfl,?_⟩;have:l.findIdx? (·==n)=some q:=by grind[List.findIdx?_eq_some_iff_getElem]
   rw[ixI,this]
  | false=>
   refine Ay (AOt (Ba AA AA (D1 (q+1) AA ?_)))
   grind
end
def tok:AV->Option Nat
 | .own t _=>some t
 | _=>none
def Cd (a a':AV) (ts ts':List (Nat×Nat)):Prop:=ts.length<=ts'.length/\(∀t,t<ts.length->tok a≠some t->ts'[t]?=ts[t]?)/\(tok a'=tok a\/∃t,tok a'=some t/\ts.length<=t)
theorem Cd.refl (a:AV) (ts:List (Nat×Nat)):Cd a a ts ts:=⟨AY _,λ_ _ _=>rfl,.inl rfl⟩
theorem Cd.trans {a b c:AV} {ts tu tv:List (Nat×Nat)} (h:Cd a b ts tu) (k:Cd b c tu tv):Cd a c ts tv:=by
 obtain⟨h1,h2,h3⟩:=h;obtain⟨k1,k2,k3⟩:=k;refine⟨BK h1 k1,λt ht ha=>?_,?_⟩
 all_goals grind
def DS (b:AV) (ts:List (Nat×Nat)):Prop:=∀t,tok b=some t->ts.length<=t
theorem DS.Py {b b':AV} {ts0 ts ts':List (Nat×Nat)} (h:DS b ts0) (hc:Cd b b' ts ts') (hl:ts0.length<=ts.length):DS b' ts0:=by
 intro t ht;rcases hc.2.2 with h1|⟨u,h1,h2⟩
 .exact h t (by rw[<-h1,ht])
 grind
theorem Cd.side {a a' b b':AV} {ts0 ts ts':List (Nat×Nat)} (h:Cd a a' ts0 ts) (k:Cd b b' ts ts') (hb:DS b ts0):Cd a a' ts0 ts':=by
 obtain⟨h1,h2,h3⟩:=h;obtain⟨k1,k2,k3⟩:=k;refine⟨BK h1 k1,λt ht ha=>?_,h3⟩;rw[k2 t AA λhb'=>?_,h2 t ht ha];have:=hb t hb';omega
def SR (a b:AV):Prop:=∀t,tok a=some t->tok b≠some t
theorem SR.symm {a b:AV} (h:SR a b):SR b a:=λt h1 h2=>h t h2 h1
theorem Dl.ve {lo:Nat} {ts:List (Nat×Nat)} {k:Nat} {a:AV} {rows:List (List PV)} (h:Dl lo ts k a rows) {t:Nat} (ht:tok a=some t):t<ts.length:=by
 rcases h with rfl|⟨u,rfl,h1,_⟩
 .cases ht
 .cases ht
  grind
theorem SR.Py {a a' b:AV} {lo k:Nat} {ts ts':List (Nat×Nat)} {rows:List (List PV)} (h:SR a b) (hc:Cd a a' ts ts') (hb:Dl lo ts k b rows):SR a' b:=by
 intro t ht hbt;rcases hc.2.2 with h1|⟨u,h1,h2⟩
 .exact h t (by rw[<-h1,ht]) hbt
 .rw[h1] at ht
  cases ht;have:=Dl.ve hb hbt;omega
theorem Cd.keep {a a' b:AV} {lo k:Nat} {ts ts':List (Nat×Nat)} {rows:List (List PV)} (hc:Cd a a' ts ts') (hb:Dl lo ts k b rows) (h:SR a b):Dl lo ts' k b rows:=by
 rcases hb with rfl|⟨t,rfl,h1,h2⟩
 .exact .inl rfl
 .refine .inr ⟨t,rfl,?_,h2⟩
  rw[hc.2.1 t (BH.1 h1).1 λha=>h t ha rfl];omega
theorem SR.AE (a:AV) (rows:List (List PV)):SR a (.AE rows):=λ_ _ h=>by cases h
theorem DS.AE (ts:List (Nat×Nat)) (rows:List (List PV)):DS (.AE rows) ts:=λ_ h=>by cases h
theorem Q4 {L:BL} {s:AQ} {e:Nat} {k bytes:Nat} {a y:AV} {rows m:List (List PV)} {K:AV->AQ->Prop} (ha:Dl 0 s.ts e a rows) (Ee:L.rt=0) (hrows:∀r∈rows,r.length=k) (hm:∀r∈m,r.length=k) (hk:0<k)
  (hy:C6 s k y=some (m.flatten.map .pv)) (hok:(m.flatten.map AV.pv).all BD=true) (hb:(rows.length+m.length)*bytes<=2 ^ 45) (MU:rows.length+m.length<=2 ^ 45)
  (h:∀a' ts',Dl 0 ts' e a' (rows++m)->Cd a a' s.ts ts'->K a' ⟨s.bs,ts'⟩):Ik false L s e k bytes a y K:=by
 obtain⟨bs,ts⟩:=s;have hall:(rows.all λr=>r.length==k)=true:=AB;unfold Ik;rw[hy];have hfl:=M8 m hm;have hby:=F9 m hm;cases hc:m.flatten with
 | nil=>
  have hm0:m=[]:=by
   cases m with
   | nil=>rfl
   | cons r m=>
    grind
  subst hm0;have:=h a ts AB (Cd.refl _ _);rcases ha with rfl|⟨t,rfl,h1,h2⟩ <;> simp[*]
 | cons c cs=>
  have hmap:m.flatten.map AV.pv=.pv c::cs.map .pv:=AB
  have hl:(AV.pv c::cs.map .pv).length / k=m.length:=by
   rw[<-hmap,Bm,hfl,Nat.mul_div_cancel _ hk]
  have htp:Cp (AV.pv c::cs.map .pv)=some m.flatten:=by grind[LN]
  rw[hmap] at hok;simp only[wO,CO,hok,hl,htp,hby];refine⟨Ap,?_⟩;rcases ha with rfl|⟨t,rfl,h1,h2⟩
  .refine⟨⟨hb,MU,hall⟩,?_⟩
   refine h (.own ts.length (rows++m)) (ts++[(rows.length+m.length,e)]) (.inr ⟨_,rfl,AD,AN _⟩) ⟨AD,λt ht _=>?_,.inr ⟨_,rfl,AY _⟩⟩;rw[CT ht]
  .refine⟨⟨hb,MU,h1,AA,hall⟩,?_⟩
   have hlt:t<ts.length:=(BH.1 h1).1;refine h (.own t (rows++m)) (ts.set t (rows.length+m.length,e)) (.inr ⟨_,rfl,AB,h2⟩) ⟨AD,λu hu hn=>?_,.inl rfl⟩;rw[GJ];intro htu;exact hn (by rw[htu]; rfl)
theorem qQ (t:Ty):(([Aj t].flatten).map AV.pv).all BD=true:=by grind[DE]
theorem JS {L:BL} {s:AQ} {a:AV} {es:List Ty} {t:Ty} {K:AV->AQ->Prop} (ha:Dl 0 s.ts 25 a (Ad es)) (Ee:L.rt=0) (hl:es.length<2 ^ 38) (h:∀a' ts',Dl 0 ts' 25 a' (Ad (es++[t]))->Cd a a' s.ts ts'->K a' ⟨s.bs,ts'⟩) :
  Ik false L s 25 4 56 a (.AE [Aj t]) K:=by
 have hl':=Aa es;have hm:∀r∈[Aj t],r.length=4:=by simp[Al]
 refine Q4 (m:=[Aj t]) ha Ee (λr hr=>HD hr) hm AA (Dh (.inl (.AE _)) hm) (qQ t) AB AB λa' ts' h1 h2=>h a' ts' ?_ h2
 grind[FU,Ad]
theorem cq {L:BL} {s:AQ} {a:AV} {l:List Int} {n:Int} {K:AV->AQ->Prop} (ha:Dl 0 s.ts 3 a (Ab l)) (Ee:L.rt=0) (hl:l.length<2 ^ 40) (h:∀a' ts',Dl 0 ts' 3 a' (Ab (l++[n]))->Cd a a' s.ts ts'->K a' ⟨s.bs,ts'⟩) :
  Ik false L s 3 1 8 a (.AE [[.sc (.int .i64 n)]]) K:=by
 have hl':=BF l;have hm:∀r∈[[PV.sc (.int .i64 n)]],r.length=1:=AD;refine Q4 (m:=[[.sc (.int .i64 n)]]) ha Ee DW hm AA (Dh (.inl (.AE _)) hm) AD AB AB λa' ts' h1 h2=>h a' ts' ?_ h2
 grind[Ab]
theorem cr {rr:Bool} {A:Nat} {c:List AV} {cs ds:List AV} {s0:AQ} {bs:List (List AV)} {ts:List (Nat×Nat)} {Post:AV->AQ->Prop} (h0:BI s0) (hT:bs.take s0.bs.length=s0.bs.set A c) (hc:Ah s0.bs.length c=true) (Ff:BR bs s0.bs.length ts.length cs=some ds) (hP:Post (.agg ds) ⟨s0.bs.set A c,ts⟩):QM rr s0.bs.length Post (.agg cs) ⟨bs,ts⟩:=by
 refine ZY (ds:=ds) ?_ Ff ?_
 .have:=BI.set h0 hc ts (j:=A)
  rw[C3];intro b hb;have:=this b AB
  grind
 grind
theorem Cj {bs:List (List AV)} {n j:Nat} {c:List AV} (h:n<=j):(bs.set j c).take n=bs.take n:=by grind[List.take_set,List.set_eq_of_length_le]
theorem BP.JT {v:Ty} {cs:List AV} (h:BP v (.agg cs)) (bs:List (List AV)) (n m:Nat):∃ds,BR bs n m cs=some ds/\BP v (.agg ds):=by
 obtain⟨k,c,i,ts⟩:=v;obtain⟨a,hcs,ha⟩:=h;cases hcs;obtain⟨a',h1,h2⟩:=ha.close bs n m;exact⟨[AG k,SS c,AG i,a'],by simp[*],⟨a',rfl,h2⟩⟩
abbrev iX (o:List Nat):List Int:=o.map λ(x:Nat)=>(x:Int)
theorem AA5 (o:List Nat) {i:Int} (h:0<=i):ixI i (iX o)=match o.findIdx? (·==i.toNat) with
  | some j=>(j:Int)
  | none=>-1:=by
 rw[ixI,List.findIdx?_map];have:((λx:Int=>x==i)∘λx:Nat=>(x:Int))=λx:Nat=>x==i.toNat:=AB
 grind
section
variable {R:RT}
abbrev cu (P A F:Nat):AV:=.func (.func 91) [] [.ptr P 0,.ptr A 0,.ptr F 0]
structure WD (P A F e:Nat) (B:List Ty) (bs:List (List AV)):Prop where
 hP:bs[P]?=some [.ptr e 0]
 hF:bs[F]?=some [cu P A F]
 he:∃c cs,bs[e]?=some (c::cs)/\BE c (Ad B)
 nP:A≠P
 nF:A≠F
 ne:A≠e
theorem WD.of {P A F e:Nat} {B:List Ty} {bs bs':List (List AV)} (h:WD P A F e B bs) (hk:∀j c,j≠A->bs[j]?=some c->bs'[j]?=some c):WD P A F e B bs':=by
 obtain⟨c,cs,h1,h2⟩:=h.he;exact⟨hk _ _ h.nP.symm h.hP,hk _ _ h.nF.symm h.hF,⟨c,cs,hk _ _ h.ne.symm h1,h2⟩,h.nP,h.nF,h.ne⟩
theorem WD.tk {P A F e n:Nat} {B:List Ty} {bs bs':List (List AV)} {c:List AV} (h:WD P A F e B bs) (hT:bs'.take n=bs.set A c):WD P A F e B bs':=
 h.of λj d hj hd=>CD hT AB
def vg (R:RT) (P A F N:Nat) (x:AV) (o:List Nat) (t:Ty) (s:AQ):Prop:=∀(L:BL) (c:AV),L.ro=0->L.rt=0->s.bs[A]?=some [c]->Dl 0 s.ts 3 c (Ab (iX o)) ->
 ∃v s',(∃c' ts' ds,Dl 0 ts' 3 c' (Ab (iX (LG N t o).2))/\Cd c c' s.ts ts'/\v=.agg ds/\BP (ren (LG N t o).1) (.agg ds)/\s'=⟨s.bs.set A [c'],ts'⟩)/\BW (env R) L 91 [x,.ptr P 0,.ptr A 0,.ptr F 0] s v s'
theorem vh {P A F e N:Nat} {B ts:List Ty} (hN:B.length=N) {a:AV} (ha:BE a (Ad (CA ts))) (hl:ts.length<2 ^ 38) {k i:Int} {n:List UInt8} (hk7:k≠7) {o0:List Nat} {c0:AV} {s0:AQ} (hs0:BI s0) (hA:A<s0.bs.length) (hE:WD P A F e B s0.bs)
  (ih:∀t∈ts,∀(o:List Nat) (s:AQ),BI s->WD P A F e B s.bs->o.length+size t<2 ^ 40->vg R P A F N (.agg ((Aj (ren t)).map .pv)) o t s)
  (hlen:∀t∈ts,∀o,(LG N t o).2.length<=o.length+size t) (hb:o0.length+Ac ts<2 ^ 40) {rr:Bool} {Post:AV->AQ->Prop}
  (hP:∀c' ts' ds,Dl 0 ts' 3 c' (Ab (iX (G2 N ts o0).2))->Cd c0 c' s0.ts ts'->BP (.mk k n i (CA (G2 N ts o0).1)) (.agg ds)->Post (.agg ds) ⟨s0.bs.set A [c'],ts'⟩) :
  ∀(j q:Nat) (o:List Nat) (done:List Ty) (bs:List (List AV)) (tk:List (Nat×Nat)) (b c:AV),q+j=ts.length->done++(G2 N (ts.drop q) o).1=(G2 N ts o0).1->(G2 N (ts.drop q) o).2=(G2 N ts o0).2->done.length=q->o.length+Ac (ts.drop q)<=o0.length+Ac ts ->
   BI ⟨bs,tk⟩->bs.take s0.bs.length=s0.bs.set A [c]->bs[s0.bs.length]?=some [AG k,SS n,AG i,a]->bs[s0.bs.length+1]?=some Z4->bs[s0.bs.length+2]?=some [AG k,SS n,AG i,b] ->
   Dl 0 tk 3 c (Ab (iX o))->Dl 0 tk 25 b (Ad (CA done))->Cd c0 c s0.ts tk->DS b s0.ts->SR c b ->
   ADN R 0 0 0 (.ptr F 0) (.ptr (s0.bs.length+1) 0) (.ptr (s0.bs.length+2) 0) a (AG ts.length) (AG q) ⟨bs,tk⟩ (QM rr s0.bs.length Post):=by
 have Tn:=BV ts;intro j
 induction j with
 | zero=>
  intro q o done bs tk b c hi hd1 TZ hdl ho hs hT h0 h1 h2 hc Yp hC hfr KE;refine ADO (Ao ?_);rw[Az AA];rw[CH AA,G2,HO] at hd1;rw[CH AA,G2] at TZ;simp only at hd1 TZ;rw[hd1] at Yp;rw[TZ] at hc;refine Ay (AOu (Ag h2 rfl (Bq h1 rfl rfl AI (AN _) (by simp[Yp.A1.ok]) (.inl (AN _)) (Ag (BZ h1) rfl ?_))));obtain⟨ds,c1,c2⟩:=BP.JT (v:=.mk k n i (CA (G2 N ts o0).1)) (cs:=[AG k,SS n,AG i,b]) ⟨b,rfl,Yp.A1⟩ (bs.set (s0.bs.length+1) [AG k,SS n,AG i,b]) s0.bs.length tk.length;exact cr hs0 ((Cj AA).trans hT) (by simp[Ah,hc.A1.Aw]) c1 (hP c tk ds hc hC c2)
 | succ j D1=>
  intro q o done bs tk b c hi hd1 TZ hdl ho hs hT h0 h1 h2 hc Yp hC hfr KE;refine ADO (Ao ?_);rw[Ar AA];obtain⟨t,ht⟩:∃t,ts[q]?=some t:=⟨_,Au AA⟩;have Ee:(CA ts)[q]?=some (ren t):=by grind[Bo]
  have Pz:=A3 ht;have hrl:((Aj (ren t)).map AV.pv).length=4:=by grind[Al]
  have hro:=DE (ren t)
  have Ku:Ah (bs.length+1) ((Aj (ren t)).map AV.pv)=true:=by
   obtain⟨k1,n1,i1,t1⟩:=ren t;rfl
  refine A9 (AOv (BS ha (row:=Aj (ren t)) AA (by simp[*,BJ]) (Al _) AA (Ca (Bj ?_))));have fT:=ih t Pz;have hdr:ts.drop q=t::ts.drop (q+1):=drop_cons ht;rw[hdr,G2] at hd1 TZ;rw[hdr,Ac] at ho;generalize (Aj (ren t)).map AV.pv=row at hrl hro Ku fT;refine Bq (Ax bs Z4) hrl rfl AI (AN _) hro (.inl (AN _)) ?_;have e:(bs++[Z4]).set bs.length row=bs++[row]:=AD;rw[e];have l2:=(BH.1 h2).1;have Mi:s0.bs.length<=bs.length:=AA;have iV:=(DI Mi row).trans hT;have hs':BI ⟨bs++[row],tk⟩:=BI.app (s:=⟨bs,tk⟩) hs Ku;have gA:(s0.bs.set A [c])[A]?=some [c]:=by rw[CX AA]
  have gF:(s0.bs.set A [c])[F]?=some [cu P A F]:=by rw[GJ hE.nF]; exact hE.hF
  obtain⟨v,s',⟨c',ts',ds,r1,r2,rfl,r4,rfl⟩,r6⟩:=fT o ⟨bs++[row],tk⟩ hs' (hE.tk iV) AA (Ce (env R) 91 0 0 0) c rfl rfl (CD iV gA) hc;have g1:=Ai h1 row;have g2:=Ai h2 row;have g0:=Ai h0 row;have sJ:((bs++[row]).set A [c'])[s0.bs.length+2]?=some [AG k,SS n,AG i,b]:=BQ g2 AA;refine AO (AX g2) (AZ g2 rfl (AZ (Ai (CD hT gF) row) rfl (Ag (Ax bs row) hrl ⟨_,_,r6,E9 r4 ⟨AI,JS (r2.keep Yp KE) rfl ?_ ?_⟩⟩)))
  .grind[Bo]
  .intro b' GH hb' K7
   have er:CA done++[ren (LG N t o).1]=CA (done++[(LG N t o).1]):=by simp[Bo]
   rw[er] at hb';refine AO (AX sJ) (C2 sJ AD hb'.A1.cells (AN _) hb'.A1.ok (.inl (AN _)) ?_);refine⟨AO (AX sJ) (EA _ _),AZ sJ rfl (Gp Yp),AOw (Ba AA AA ?_)⟩;have ADP:SR b c':=(KE.Py r2 Yp).symm;have qP:(((bs++[row]).set A [c']).set (s0.bs.length+2) [AG k,SS n,AG i,b']).take s0.bs.length=s0.bs.set A [c']:=by simp[*,Cj,EU]
   have hs2:BI ⟨(bs++[row]).set A [c'],ts'⟩:=BI.set (s:=⟨bs++[row],tk⟩) hs' (by simp[Ah,Aw,r1.A1.Aw]) _;have:=hlen t Pz o
   have fin:=D1 (q+1) (LG N t o).2 (done++[(LG N t o).1]) _ GH b' c' AA (by simp[*]) TZ AB AA
    (BI.set (s:=⟨(bs++[row]).set A [c'],ts'⟩) hs2 (by simp[Ah,Aw,hb'.A1.Aw]) _) qP (BQ (BQ g0 AA) AA) (BQ (BQ g1 AA) AA) (BZ sJ)
    (K7.keep r1 ADP) hb' ((hC.trans r2).side K7 hfr) (hfr.Py K7 (BK hC.1 r2.1)) (ADP.Py K7 r1).symm
   grind
end
end Go.Proofs.YtpgfpakdnijngaaGreatDoor
