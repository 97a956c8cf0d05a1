/-
  The program's patterns: names, placeholders, sizes.
-/
import Derived.Test.YtpgfpakdnijngaaGreatDoorTB
import Derived.Test.YtpgfpakdnijngaaGreatDoorTA
set_option linter.all false
namespace Go.Proofs.YtpgfpakdnijngaaGreatDoor
open Go.Tel
mutual
def FD (q:Int->Bool):Ty->Bool
 | .mk k n i ts=>bif k==7 then ts.isEmpty&&q i else !(n.head?==some 36)&&(decide (n.length<2 ^ 40)&&EG q ts)
def EG (q:Int->Bool):List Ty->Bool
 | []=>true
 | t::l=>FD q t&&EG q l
end
mutual
theorem Ga {q q':Int->Bool} (h:∀i,q i=true->q' i=true):∀t:Ty,FD q t=true->FD q' t=true
 | .mk k n i ts,ht=>by
  rw[FD] at ht ⊢;cases h7:k==7 with
  | true=>
   grind
  | false=>
   rw[h7] at ht;simp only[AL,AI] at ht ⊢;exact⟨ht.1,ht.2.1,Uq h ts ht.2.2⟩
theorem Uq {q q':Int->Bool} (h:∀i,q i=true->q' i=true):∀l:List Ty,EG q l=true->EG q' l=true
 | [],_=>rfl
 | t::l,ht=>by
  simp only[EG,AI] at ht ⊢;exact⟨Ga h t ht.1,Uq h l ht.2⟩
end
theorem Xs {q:Int->Bool}:∀{l:List Ty} {t:Ty},EG q l=true->t∈l->FD q t=true
 | [],_,_,h=>by cases h
 | a::l,t,h,ht=>by
  simp only[EG,AI] at h;rcases A3.1 ht with rfl|ht
  .grind
  .exact Xs h.2 ht
theorem P4 {q:Int->Bool}:∀(l m:List Ty),EG q (l++m)=(EG q l&&EG q m)
 | [],m=>by rfl
 | t::l,m=>by simp[EG,P4 l m,Lo]
mutual
theorem dX {q:Int->Bool} {v:Nat} (hv:q v=true):∀(t:Ty) (u:Nat),FD q t=true->FD q (sub v u t)=true
 | .mk k n i ts,u,h=>by
  rw[FD] at h;rw[sub];cases h5:k==5 with
  | true=>
   grind[FD]
  | false=>
   simp only[AL];rw[FD];cases h7:k==7 with
   | true=>
    rw[h7] at h;simp only[AN,AI,GN] at h ⊢;rw[h.1];exact⟨rfl,h.2⟩
   | false=>
    rw[h7] at h;simp only[AL,AI] at h ⊢;exact⟨h.1,h.2.1,Xt hv ts u k 0 h.2.2⟩
theorem Xt {q:Int->Bool} {v:Nat} (hv:q v=true):∀(l:List Ty) (u:Nat) (k:Int) (j:Nat),EG q l=true->EG q (Kw v u k j l)=true
 | [],_,_,_,_=>rfl
 | t::l,u,k,j,h=>by
  simp only[EG,AI] at h;simp only[Kw,EG,AI];exact⟨dX hv t _ h.1,Xt hv l u k (j+1) h.2⟩
end
mutual
theorem Ur {q m:Int->Bool} {b:Ty} (hb:FD q b=true):∀(t:Ty) (k:Nat),FD q t=true->FD q (Ky m b t k)=true
 | .mk c n i ts,k,h=>by
  have h':=h;rw[FD] at h;rw[Ky];cases h7:c==7 with
  | true=>
   grind
  | false=>
   rw[h7] at h;simp only[AL,AI] at h ⊢;cases c==3 with
   | true=>
    rw[AN,FD,h7];simp only[AL,AI];exact⟨h.1,h.2.1,Xu hb ts k h.2.2⟩
   | false=>grind
theorem Xu {q m:Int->Bool} {b:Ty} (hb:FD q b=true):∀(l:List Ty) (k:Nat),EG q l=true->EG q (KR m b l k)=true
 | [],_,_=>rfl
 | t::l,k,h=>by
  simp only[EG,AI] at h;rw[KR];cases decide (k<Bb m t) with
  | true=>
   simp only[AN,EG,AI];exact⟨Ur hb t k h.1,h.2⟩
  | false=>
   simp only[AL,EG,AI];exact⟨h.1,Xu hb l _ h.2⟩
end
mutual
theorem TU {m:Int->Bool} {b:Ty}:∀(t:Ty) (k:Nat),k<Bb m t->Bb m (Ky m b t k)+1=Bb m t+Bb m b/\size (Ky m b t k)<=size t+size b
 | .mk c n i ts,k,h=>by
  rw[Bb] at h;rw[Ky];cases h7:c==7 with
  | true=>
   grind[Bb]
  | false=>
   rw[h7] at h;simp only[AL] at h ⊢;cases h3:c==3 with
   | false=>grind
   | true=>
    rw[h3] at h;simp only[AN] at h ⊢;have:=dY (m:=m) (b:=b) ts k h
    grind[Bb,size]
theorem dY {m:Int->Bool} {b:Ty}:∀(l:List Ty) (k:Nat),k<Cg m l->Cg m (KR m b l k)+1=Cg m l+Bb m b/\Ac (KR m b l k)<=Ac l+size b
 | [],k,h=>by grind[Cg]
 | t::l,k,h=>by
  rw[Cg] at h;rw[KR]
  by_cases hk:k<Bb m t
  .have:=TU (m:=m) (b:=b) t k hk
   grind[Cg,Ac]
  .have:=dY (m:=m) (b:=b) l (k-Bb m t) AA
   grind[Cg,Ac]
end
mutual
theorem wV {m:Int->Bool} {b:Ty}:∀(t:Ty) (k:Nat),Bb m t<=k->Ky m b t k=t
 | .mk c n i ts,k,h=>by
  rw[Bb] at h;rw[Ky];cases h7:c==7 with
  | true=>
   grind
  | false=>
   rw[h7] at h;simp only[AL] at h ⊢;cases h3:c==3 with
   | false=>rfl
   | true=>
    rw[h3] at h;simp only[AN] at h ⊢;rw[Xv ts k h]
theorem Xv {m:Int->Bool} {b:Ty}:∀(l:List Ty) (k:Nat),Cg m l<=k->KR m b l k=l
 | [],_,_=>rfl
 | t::l,k,h=>by
  rw[Cg] at h;rw[KR,A2 AA,AL,Xv (m:=m) (b:=b) l (k-Bb m t) AA]
end
mutual
theorem P5 {q:Int->Bool} {v:Nat} (hv:q v=false):∀(t:Ty) (inv:Bool),FD q t=true->Cw v inv t=false/\Bb (·==(v:Int)) t=0
 | .mk k n i ts,inv,h=>by
  rw[FD] at h;rw[Cw,Bb];cases h7:k==7 with
  | true=>
   grind
  | false=>
   rw[h7] at h;simp only[AL,AI] at h ⊢;have:=Xw hv ts (inv&&!(k==2)) h.2.2
   grind
theorem Xw {q:Int->Bool} {v:Nat} (hv:q v=false):∀(l:List Ty) (inv:Bool),EG q l=true->ET v inv l=false/\Cg (·==(v:Int)) l=0
 | [],_,_=>⟨rfl,rfl⟩
 | t::l,inv,h=>by
  simp only[EG,AI] at h;have h1:=P5 hv t inv h.1;have h2:=Xw hv l inv h.2
  grind[ET,Cg]
end
section
variable {BC:Nat->Bool}
theorem Iv {α:Type} {g:α->List Ty->F9} (hg:∀a B,B.length<=(g a B).2.length):∀(l:List α) (out B:List Ty),B.length<=(Cj BC g l out B).2.length
 | [],_,_=>AY _
 | a::l,out,B=>by
  have h:=hg a B;rw[Cj];rcases hr:g a B with ⟨_|r,B1⟩
  .grind
  .rw[hr] at h
   simp only at h ⊢;cases BC (out++r).length with
   | true=>exact h
   | false=>exact BM h (Iv hg l (out++r) B1)
theorem J5 {α:Type} {g:α->List Ty->F9} (hm:∀a B,B.length<=(g a B).2.length) {P:Ty->Prop} {lo M:Nat}:∀(l:List α) (out B:List Ty) (r:List Ty),(∀a∈l,∀B r,lo<=B.length->(g a B).1=some r->(g a B).2.length<=M->∀p∈r,P p) ->
  lo<=B.length->(Cj BC g l out B).1=some r->(Cj BC g l out B).2.length<=M->(∀p∈out,P p)->∀p∈r,P p
 | [],out,B,r,_,_,h,_,ho=>by grind[Cj]
 | a::l,out,B,r,hg,hlo,h,hM,ho=>by
  have h1:=hm a B;have h2:=hg a AD B;rw[Cj] at h hM;rcases hr:g a B with ⟨_|s,B1⟩
  .grind
  .rw[hr] at h hM h1 h2
   simp only at h hM h1 h2;cases hb:BC (out++s).length with
   | true=>grind
   | false=>
    rw[hb] at h hM;simp only[AL] at h hM;have h3:=Iv (BC:=BC) hm l (out++s) B1;refine J5 hm l (out++s) B1 r (λa ha=>hg a AB) AA h hM ?_
    grind
theorem IL {ex:List Ty->F9} (hx:∀B,B.length<=(ex B).2.length) (v:Nat):∀(f:Nat) (t:Ty) (B:List Ty),B.length<=(CQ BC ex v f t B).2.length
 | 0,_,_=>AY _
 | f+1,t,B=>by
  have h:=hx B;rw[CQ];cases Cw v false t with
  | false=>simp
  | true=>
   rcases hr:ex B with ⟨_|r,B1⟩
   .grind
   .rw[hr] at h
    exact BM h (Iv (λc B=>IL hx v f _ B) r [] B1)
theorem Xx {ex:List Ty->F9} (hx:∀B,B.length<=(ex B).2.length) {v lo M W S:Nat} {q:Int->Bool} (hr:∀B r,lo<=B.length->(ex B).1=some r->(ex B).2.length<=M->∀c∈r,FD q c=true/\Bb (·==(v:Int)) c=0/\size c<=W) :
  ∀(f:Nat) (t:Ty) (B r:List Ty),FD q t=true->size t+Bb (·==(v:Int)) t*W<=S->lo<=B.length->(CQ BC ex v f t B).1=some r->(CQ BC ex v f t B).2.length<=M->∀p∈r,FD q p=true/\size p<=S
 | 0,t,B,r,ht,hS,_,h,_=>by grind[CQ]
 | f+1,t,B,r,ht,hS,hlo,h,hM=>by
  have h1:=hx B;have h2:=hr B;rw[CQ] at h hM;cases ho:Cw v false t with
  | false=>
   grind
  | true=>
   rw[ho] at h hM;simp only[AN] at h hM;rcases he:ex B with ⟨_|cs,B1⟩
   .grind
   .rw[he] at h hM h1 h2
    simp only at h hM h1 h2;have h3:=Iv (BC:=BC) (g:=λc B=>CQ BC ex v f (Ky (·==(v:Int)) c t 0) B) (λc B=>IL hx v f _ B) cs [] B1;have h4:=h2 cs hlo rfl AA;refine J5 (λc B=>IL hx v f _ B) (lo:=lo) cs [] B1 r ?_ AA h hM AD;intro c hc B' r' ux h' jY;obtain⟨c1,c2,c3⟩:=h4 c hc;refine Xx hx hr f _ B' r' (Ur c1 t 0 ht) ?_ ux h' jY
    by_cases hk:0<Bb (·==(v:Int)) t
    .obtain⟨d1,d2⟩:=TU (b:=c) t 0 hk
     have:Bb (·==(v:Int)) t*W=Bb (·==(v:Int)) (Ky (·==(v:Int)) c t 0)*W+W:=AB;omega
    grind[wV]
end
def wx:List Nat->List Nat->Nat
 | [b,c],[_,d]=>c+max 1 d*b
 | _,_=>0
mutual
def wt:Ty->Nat
 | .mk k _ _ ts=>bif k==6 then wx (tW ts) (MT ts) else bif k==3||k==4 then 1+(tW ts).sum else 1+Ac ts
def tW:List Ty->List Nat
 | []=>[]
 | t::l=>wt t::tW l
end
theorem ABt {l m p:List Nat} (h:CE (·<=·) l m):wx l p<=wx m p:=by
 match l,m,h with
 | [],[],_=>simp
 | [_],[_],_=>exact AY _
 | [b,c],[b',c'],h=>
  obtain⟨h1,h2,_⟩:=h
  match p with
  | []=>exact AY _
  | [_]=>exact AY _
  | [_,d]=>exact Nat.add_le_add h2 (E1 _ h1)
  | _::_::_::_=>exact AY _
 | _::_::_::_,[_,_],h=>exact h.2.2.elim
 | [_,_],_::_::_::_,h=>exact h.2.2.elim
 | _::_::_::_,_::_::_::_,_=>
  match p with
  | []=>exact AY _
  | [_]=>exact AY _
  | [_,_]=>exact AY _
  | _::_::_::_=>exact AY _
mutual
theorem jZ (v:Nat):∀(t:Ty) (u:Nat),cv (sub v u t)=cv t
 | .mk k n i ts,u=>by
  rw[sub];cases h5:k==5 with
  | true=>
   have:k=5:=AB;subst this;simp only[AN];cases i==(u:Int) with
   | true=>rfl
   | false=>cases decide ((u:Int)<i) <;> rfl
  | false=>simp only[AL,cv,aA v ts u k 0]
theorem aA (v:Nat):∀(l:List Ty) (u:Nat) (k:Int) (j:Nat),MT (Kw v u k j l)=MT l
 | [],_,_,_=>rfl
 | t::l,u,k,j=>by rw[Kw,MT,MT,jZ v t _,aA v l u k (j+1)]
end
theorem Us:∀{l m:List Nat},CE (·<=·) l m->l.sum<=m.sum
 | [],[],_=>AY _
 | a::l,b::m,h=>by
  have:=Us h.2;have:=h.1
  grind
mutual
theorem wW (v:Nat):∀(t:Ty) (u:Nat),size (sub v u t)<=size t
 | .mk k n i ts,u=>by
  rw[sub];cases k==5 with
  | true=>
   grind[size,Ac]
  | false=>
   have:=RK v ts u k 0
   grind[size]
theorem RK (v:Nat):∀(l:List Ty) (u:Nat) (k:Int) (j:Nat),Ac (Kw v u k j l)<=Ac l
 | [],_,_,_=>AY _
 | t::l,u,k,j=>by
  have h1:=wW v t (u+ER k j);have h2:=RK v l u k (j+1)
  grind[Kw,Ac]
end
mutual
theorem wX (v:Nat):∀(t:Ty) (u:Nat),wt (sub v u t)<=wt t
 | .mk k n i ts,u=>by
  rw[sub];cases h5:k==5 with
  | true=>
   grind[wt,Ac]
  | false=>
   have h1:=RK v ts u k 0;have h2:=mb v ts u k 0;have h3:=ABt (p:=MT ts) h2;have h4:=Us h2
   grind[wt,aA]
theorem mb (v:Nat):∀(l:List Ty) (u:Nat) (k:Int) (j:Nat),CE (·<=·) (tW (Kw v u k j l)) (tW l)
 | [],_,_,_=>trivial
 | t::l,u,k,j=>⟨wX v t _,mb v l u k (j+1)⟩
end
mutual
theorem P6 (m:Int->Bool):∀t:Ty,Bb m t<=size t
 | .mk c n i ts=>by
  have:=OJ m ts
  grind[Bb,size]
theorem OJ (m:Int->Bool):∀l:List Ty,Cg m l<=Ac l
 | []=>AY _
 | t::l=>by
  have h1:=P6 m t;have h2:=OJ m l
  grind[Cg,Ac]
end
section
variable {BC:Nat->Bool}
theorem Jg {ex:List Ty->F9} (hx:∀B,B.length<=(ex B).2.length) (v:Nat) (t:Ty) (B:List Ty):B.length<=(B8 BC ex v t B).2.length:=by grind[B8,IL]
theorem P7 {ex:Ty->List Ty->F9} (hx:∀t B,B.length<=(ex t B).2.length):∀(l out:List Ty) (ok:Bool) (B:List Ty),B.length<=(HV ex l out ok B).2.length
 | [],_,_,_=>AY _
 | t::l,out,ok,B=>by
  have h:=hx t B;rw[HV];rcases hr:ex t B with ⟨_|r,B1⟩
  .rw[hr] at h
   exact BM h (P7 hx l out false B1)
  .rw[hr] at h
   exact BM h (P7 hx l (out++r) ok B1)
theorem Ut {ex:Ty->List Ty->F9} (hx:∀t B,B.length<=(ex t B).2.length):∀(l:List Ty) (out:List (List Ty)) (B:List Ty),B.length<=(FA ex l out B).2.length
 | [],_,_=>AY _
 | t::l,out,B=>by
  have h:=hx t B;rw[FA];rcases hr:ex t B with ⟨_|r,B1⟩
  .grind
  .rw[hr] at h
   exact BM h (Ut hx l (out++[r]) B1)
theorem J6:∀(f:Nat) (t:Ty) (B:List Ty),B.length<=(BE BC f t B).2.length
 | 0,_,_=>AY _
 | f+1,.mk k n i ts,B=>by
  have hf:=J6 f;rw[BE];cases k==0||k==2||k==7 with
  | true=>simp
  | false=>
   simp only[AL];cases k==4 with
   | true=>
    grind[P7]
   | false=>
    simp only[AL];cases k==3 with
    | true=>
     grind[Ut]
    | false=>
     simp only[AL];cases k==6 with
     | false=>simp
     | true=>
      simp only[AN]
      match ts with
      | []=>exact AY _
      | [_]=>exact AY _
      | _::_::_::_=>exact AY _
      | [b,body]=>
       grind[dA,Iv,Jg]
end
section
variable {BC:Nat->Bool}
def Pq (q:Int->Bool) (W:Nat) (p:Ty):Prop:=FD q p=true/\size p<=W
theorem Pq.le {q:Int->Bool} {W V:Nat} {p:Ty} (h:Pq q W p) (hl:W<=V):Pq q V p:=⟨h.1,BM h.2 hl⟩
theorem M7 {ex:Ty->List Ty->F9} (hx:∀t B,B.length<=(ex t B).2.length) {P:Ty->Prop} {lo M:Nat}:∀(l out:List Ty) (ok:Bool) (B:List Ty),(∀t∈l,∀B r,lo<=B.length->(ex t B).1=some r->(ex t B).2.length<=M->∀p∈r,P p) ->
  lo<=B.length->(HV ex l out ok B).2.length<=M->(∀p∈out,P p)->∀p∈(HV ex l out ok B).1.1,P p
 | [],_,_,_,_,_,_,ho=>ho
 | t::l,out,ok,B,hg,hlo,hM,ho=>by
  have h1:=hx t B;have h2:=hg t AD B;rw[HV] at hM ⊢;rcases hr:ex t B with ⟨_|s,B1⟩
  .rw[hr] at hM h1
   exact M7 hx l out false B1 (λa ha=>hg a AB) AB hM ho
  .rw[hr] at hM h1 h2
   simp only at hM h1 h2 ⊢;have h3:=P7 hx l (out++s) ok B1;refine M7 hx l (out++s) ok B1 (λa ha=>hg a AB) AA hM ?_
   grind
def Cho (P:Nat->Ty->Prop):List (List Ty)->List Nat->Prop:=CE λl w=>∀p∈l,P w p
theorem P8 {ex:Ty->List Ty->F9} (hx:∀t B,B.length<=(ex t B).2.length) {P:Nat->Ty->Prop} {w:Ty->Nat} {lo M:Nat}:∀(l:List Ty) (out:List (List Ty)) (ws:List Nat) (B:List Ty) (r:List (List Ty)),(∀t∈l,∀B r,lo<=B.length->(ex t B).1=some r->(ex t B).2.length<=M->∀p∈r,P (w t) p) ->
  lo<=B.length->(FA ex l out B).1=some r->(FA ex l out B).2.length<=M->Cho P out ws->Cho P r (ws++l.map w)
 | [],out,ws,B,r,_,_,h,_,ho=>by grind[FA]
 | t::l,out,ws,B,r,hg,hlo,h,hM,ho=>by
  have h1:=hx t B;have h2:=hg t AD B;rw[FA] at h hM;rcases hr:ex t B with ⟨_|s,B1⟩
  .grind
  .rw[hr] at h hM h1 h2
   simp only at h hM h1 h2;have h3:=Ut hx l (out++[s]) B1;have:=P8 hx (P:=P) (w:=w) (lo:=lo) (M:=M) l (out++[s]) (ws++[w t]) B1 r (λa ha=>hg a AB) AA h hM (ho.append ⟨h2 s hlo rfl AA,Ai⟩)
   grind
theorem Xy {q:Int->Bool}:∀(ls:List (List Ty)) (ws:List Nat) (out r:List (List Ty)) (W:Nat),Cho (Pq q) ls ws->Dy BC ls out=some r->(∀p∈out,EG q p=true/\Ac p<=W)->∀p∈r,EG q p=true/\Ac p<=W+ws.sum
 | [],ws,out,r,W,hc,h,ho=>by grind[Dy]
 | l::ls,[],_,_,_,hc,_,_=>hc.elim
 | l::ls,w::ws,out,r,W,hc,h,ho=>by
  rw[Dy] at h;cases hb:BC (out.flatMap λp=>l.map λx=>p++[x]).length with
  | true=>grind
  | false=>
   rw[hb] at h;simp only[AL] at h;intro p hp
   have:=Xy ls ws _ r (W+w) hc.2 h (by
    intro p hp;obtain⟨a,ha,hp⟩:=Nc.1 hp;obtain⟨x,hx,rfl⟩:=Cv.1 hp;have h1:=ho a ha;have h2:=hc.1 x hx;refine⟨?_,?_⟩
    .rw[P4,h1.1]
     simp[EG,h2.1]
    .have:∀(l:List Ty) (x:Ty),Ac (l++[x])=Ac l+size x:=by
      intro l x
      induction l with
      | nil=>simp[Ac]
      | cons y l ih=>grind[Ac]
     rw[this];have:=h2.2;omega) p hp
   grind
end
mutual
theorem TV {m p:Int->Bool} (h:∀i,m i=true->p i=true):∀t:Ty,Bb m t<=Bb p t
 | .mk c n i ts=>by
  have:=dZ h ts
  grind[Bb]
theorem dZ {m p:Int->Bool} (h:∀i,m i=true->p i=true):∀l:List Ty,Cg m l<=Cg p l
 | []=>AY _
 | t::l=>by
  have h1:=TV h t;have h2:=dZ h l
  grind[Cg]
end
mutual
theorem dh {m q:Int->Bool} {b:Ty}:∀(t:Ty) (k:Nat),Bb q (Ky m b t k)<=Bb q t+Bb q b
 | .mk c n i ts,k=>by
  have ih:=Xz (m:=m) (q:=q) (b:=b) ts k
  grind[Ky,Bb]
theorem Xz {m q:Int->Bool} {b:Ty}:∀(l:List Ty) (k:Nat),Cg q (KR m b l k)<=Cg q l+Bb q b
 | [],_=>AO _
 | t::l,k=>by
  rw[KR];cases decide (k<Bb m t) with
  | true=>
   have:=dh (m:=m) (q:=q) (b:=b) t k
   grind[Cg]
  | false=>
   have:=Xz (m:=m) (q:=q) (b:=b) l (k-Bb m t)
   grind[Cg]
end
theorem P9 (q:Int->Bool):∀(l m:List Ty),Cg q (l++m)=Cg q l+Cg q m
 | [],m=>by simp[Cg]
 | t::l,m=>by rw[DD,Cg,Cg,P9 q l m]; omega
section
variable {BC:Nat->Bool}
abbrev cA:Ty->Nat:=Bb λ_=>true
theorem dm {ex:List Ty->F9} (hx:∀B,B.length<=(ex B).2.length) {v C:Nat} (hr:∀B r,(ex B).1=some r->∀c∈r,cA c<=C) :
  ∀(f:Nat) (t:Ty) (B r:List Ty),(CQ BC ex v f t B).1=some r->∀p∈r,cA p<=cA t+f*C
 | 0,t,B,r,h=>by grind[CQ]
 | f+1,t,B,r,h=>by
  have h2:=hr B;rw[CQ] at h;cases ho:Cw v false t with
  | false=>
   grind
  | true=>
   rw[ho] at h;simp only[AN] at h;rcases he:ex B with ⟨_|cs,B1⟩
   .grind
   .rw[he] at h h2
    simp only at h h2;refine J5 (λc B=>IL hx v f _ B) (lo:=0) cs [] B1 r ?_ (AO _) h (AY _) AD;intro c hc B' r' _ h' _ p hp;have h3:=dm hx hr f _ B' r' h' p hp
    grind[dh]
theorem RL {q:Int->Bool}:∀(ls:List (List Ty)) (ws:List Nat) (out r:List (List Ty)) (W:Nat),Cho (λw p=>Bb q p<=w) ls ws->Dy BC ls out=some r->(∀p∈out,Cg q p<=W)->∀p∈r,Cg q p<=W+ws.sum
 | [],ws,out,r,W,hc,h,ho=>by grind[Dy]
 | l::ls,[],_,_,_,hc,_,_=>hc.elim
 | l::ls,w::ws,out,r,W,hc,h,ho=>by
  rw[Dy] at h;cases hb:BC (out.flatMap λp=>l.map λx=>p++[x]).length with
  | true=>grind
  | false=>
   rw[hb] at h;simp only[AL] at h;intro p hp
   have:=RL ls ws _ r (W+w) hc.2 h (by
    intro p hp;obtain⟨a,ha,hp⟩:=Nc.1 hp;obtain⟨x,hx,rfl⟩:=Cv.1 hp;have h1:=ho a ha;have h2:Bb q x<=w:=hc.1 x hx
    grind[P9,Cg]) p hp
   grind
theorem aB:∀(f:Nat) (t:Ty) (B r:List Ty),(BE BC f t B).1=some r->∀p∈r,cA p<=cv t
 | 0,_,_,_,h=>by cases h
 | f+1,.mk k n i ts,B,r,h=>by
  have hf:=λt B=>J6 (BC:=BC) f t B
  have ih:=aB f;rw[BE] at h;cases h0:k==0||k==2||k==7 with
  | true=>
   grind[Bb,cv]
  | false=>
   rw[h0] at h;simp only[AL] at h;cases h4:k==4 with
   | true=>
    have hk:k=4:=AB;subst hk;rw[h4] at h;simp only[AN] at h;have key:=M7 hf (P:=λp=>cA p<=cv (.mk 4 n i ts)) (lo:=0) (M:=(HV (BE BC f) ts [] true B).2.length) ts [] true B (λt hm B' r _ h _ p hp=>BM (ih t B' r h p hp) (by simp[*,cv,RH,Dz,Ed])) (AO _) (AY _) AD
    grind
   | false=>
    rw[h4] at h;simp only[AL] at h;cases h3:k==3 with
    | true=>
     have hk:k=3:=AB;subst hk;rw[h3] at h;simp only[AN] at h;have key:=λr h=>P8 hf (P:=λw p=>cA p<=w) (w:=cv) (lo:=0) (M:=(FA (BE BC f) ts [] B).2.length) ts [] [] B r (λt _ B' r _ h _ p hp=>ih t B' r h p hp) (AO _) h (AY _) Ai
     rcases hs:FA (BE BC f) ts [] B with ⟨_|ls,B1⟩
     .grind
     .rw[hs] at h key
      simp only at h key;cases he:ls.any List.isEmpty with
      | true=>
       grind
      | false=>
       rw[he] at h;simp only[AL] at h;cases hc:Dy BC ls [[]] with
       | none=>grind
       | some all=>
        rw[hc] at h;simp only at h;cases hb:BC all.length with
        | true=>grind
        | false=>
         rw[hb] at h;cases h;intro p hp;obtain⟨a,ha,rfl⟩:=Cv.1 hp;have h5:=RL (q:=λ_=>true) ls _ _ all 0 (key ls rfl) hc (by simp[Cg]) a ha
         grind[Bb,cv,RH]
    | false=>
     rw[h3] at h;simp only[AL] at h;cases h6:k==6 with
     | false=>
      grind
     | true=>
      have hk:k=6:=AB;subst hk;rw[h6] at h;simp only[AN] at h
      match ts with
      | []=>cases h; simp
      | [_]=>cases h; simp
      | _::_::_::_=>cases h; simp
      | [b,body]=>
       simp only[dA] at h;rcases hs:BE BC f (sub B.length 0 body) (B++[b]) with ⟨_|l,B1⟩
       .grind
       .rw[hs] at h
        have aC:=ih (sub B.length 0 body) (B++[b]) l (by rw[hs]);rw[jZ] at aC;have key:=λr h1 h=>J5 (BC:=BC) (g:=B8 BC (BE BC f b) B.length) (λa B=>Jg (hf b) _ a B) (P:=λp=>cA p<=cv (.mk 6 n i [b,body])) (lo:=0) (M:=(Cj BC (B8 BC (BE BC f b) B.length) l [] B1).2.length) l [] B1 r h1 (AO _) h (AY _) AD
        simp only at h;rcases hc:Cj BC (B8 BC (BE BC f b) B.length) l [] B1 with ⟨_|o,B2⟩
        .grind
        .rw[hc] at h key
         simp only at h key;cases hb:BC o.length with
         | true=>grind
         | false=>
          rw[hb] at h;cases h;refine key r (λa ha B' r' _ h' _ p hp=>?_) rfl;have e:cv (.mk 6 n i [b,body])=cv body*(cv b+1):=rfl;have ha1:=aC a ha;rw[e,TE];rw[B8] at h';cases ho:Cw B.length true a with
          | true=>
           grind
          | false=>
           rw[ho] at h';simp only[AL] at h';have h7:=dm (BC:=BC) (hf b) (C:=cv b) (λB r h=>ih b B r h) _ a B' r' h' p hp;have h8:Bb (·==(B.length:Int)) a<=cA a:=TV (λ_ _=>rfl) a;have h9:Bb (·==(B.length:Int)) a*cv b<=cv body*cv b:=B5 _ AA;omega
end
section
variable {BC:Nat->Bool}
theorem I9:∀l:List Ty,tW l=l.map wt
 | []=>rfl
 | t::l=>by rw[tW,I9 l]; rfl
theorem dn {k i:Int} {n:List UInt8} {ts:List Ty} (h:(k==0||k==2||k==7)=true):wt (.mk k n i ts)=size (.mk k n i ts):=by grind[wt,size]
theorem Iw:∀(f:Nat) (t:Ty) (B:List Ty) (M:Nat) (q:Int->Bool) (r:List Ty),(∀i:Int,(B.length:Int)<=i->i<M->q i=true)->FD (λi=>q i&&decide (i<B.length)) t=true ->
  (BE BC f t B).1=some r->(BE BC f t B).2.length<=M->∀p∈r,Pq q (wt t) p
 | 0,_,_,_,_,_,_,_,h,_=>by cases h
 | f+1,.mk k n i ts,B,M,q,r,hq,ht,h,hM=>by
  have hf:=λt B=>J6 (BC:=BC) f t B
  have ih:=Iw f;have htq:FD q (.mk k n i ts)=true:=Ga (λi hi=>by grind) _ ht;rw[BE] at h hM;cases h0:k==0||k==2||k==7 with
  | true=>
   rw[h0] at h;simp only[AN] at h;cases hb:BC 1 with
   | true=>grind
   | false=>
    rw[hb] at h;cases h;intro p hp;rw[Dl.1 hp];exact⟨htq,by grind[dn]⟩
  | false=>
   rw[h0] at h hM;simp only[AL] at h hM;have h7:(k==7)=false:=AB;rw[FD,h7] at ht;simp only[AL,AI] at ht
   have part:∀t∈ts,∀(B' r:List Ty),B.length<=B'.length->(BE BC f t B').1=some r->(BE BC f t B').2.length<=M->∀p∈r,Pq q (wt t) p:=by
    intro t hm B' r hl h hM;refine ih t B' M q r (λi h1 h2=>hq i AA h2) (Ga (λi hi=>?_) _ (Xs ht.2.2 hm)) h hM
    grind
   have wle:∀t∈ts,wt t<=(tW ts).sum:=by
    intro t hm;rw[I9];exact Dz (Cv.2 ⟨t,hm,rfl⟩)
   cases h4:k==4 with
   | true=>
    have hk:k=4:=AB;subst hk;rw[h4] at h hM;simp only[AN] at h hM;have key:=M7 hf (P:=Pq q (wt (.mk 4 n i ts))) (lo:=B.length) (M:=M) ts [] true B (λt hm B' r hl h hM p hp=>(part t hm B' r hl h hM p hp).le (by grind[wt])) (AY _)
    grind
   | false=>
    rw[h4] at h hM;simp only[AL] at h hM;cases h3:k==3 with
    | true=>
     have hk:k=3:=AB;subst hk;rw[h3] at h hM;simp only[AN] at h hM;have key:=λr=>P8 hf (P:=Pq q) (w:=wt) (lo:=B.length) (M:=M) ts [] [] B r part (AY _)
     rcases hs:FA (BE BC f) ts [] B with ⟨_|ls,B1⟩
     .grind
     .rw[hs] at h hM key
      simp only at h hM key;cases he:ls.any List.isEmpty with
      | true=>
       grind
      | false=>
       rw[he] at h hM;simp only[AL] at h hM;cases hc:Dy BC ls [[]] with
       | none=>grind
       | some all=>
        rw[hc] at h hM;simp only at h hM;cases hb:BC all.length with
        | true=>grind
        | false=>
         rw[hb] at h;cases h;intro p hp;obtain⟨a,ha,rfl⟩:=Cv.1 hp;have h5:=Xy (q:=q) ls _ _ all 0 (key ls rfl hM Ai) hc (by simp[EG,Ac]) a ha;refine⟨by grind[FD],?_⟩
         grind[wt,I9,size]
    | false=>
     rw[h3] at h hM;simp only[AL] at h hM;cases h6:k==6 with
     | false=>
      grind
     | true=>
      have hk:k=6:=AB;subst hk;rw[h6] at h hM;simp only[AN] at h hM
      match ts,part,ht with
      | [],_,_=>cases h; simp
      | [_],_,_=>cases h; simp
      | _::_::_::_,_,_=>cases h; simp
      | [b,body],part,ht=>
       simp only[dA] at h hM;have h1:=hf (sub B.length 0 body) (B++[b]);simp only[EG,AI] at ht;rcases hs:BE BC f (sub B.length 0 body) (B++[b]) with ⟨_|l,B1⟩
       .grind
       .rw[hs] at h hM h1
        have h2:=Iv (BC:=BC) (g:=B8 BC (BE BC f b) B.length) (λa B=>Jg (hf b) _ a B) l [] B1;have key:=λP r bV=>J5 (BC:=BC) (g:=B8 BC (BE BC f b) B.length) (λa B=>Jg (hf b) _ a B) (P:=P) (lo:=B.length+1) (M:=M) l [] B1 r bV
        simp only[Bo,B4,B6,CI] at h1 h hM;rcases hc:Cj BC (B8 BC (BE BC f b) B.length) l [] B1 with ⟨_|o,B2⟩
        .grind
        .rw[hc] at h hM h2 key
         simp only at h hM h2 key;cases hb:BC o.length with
         | true=>grind
         | false=>
          rw[hb] at h;cases h;have aC:=ih (sub B.length 0 body) (B++[b]) M q l (λi h1 h2=>hq i AB h2) (dX AB body 0 (Ga (λi hi=>by grind) _ ht.2.2.2.1)) (by rw[hs]) AB;have pg:=wX B.length body 0;refine key (Pq q (wt (.mk 6 n i [b,body]))) r ?_ AA rfl hM AD;intro a ha B' r' hlo h' jY;obtain⟨ta,sa⟩:=aC a ha;have hsa:=BM sa pg;have hwt:wt (.mk 6 n i [b,body])=wt body+max 1 (cv body)*wt b:=rfl;have hca:=aB f (sub B.length 0 body) (B++[b]) l (by rw[hs]) a ha;rw[jZ] at hca;rw[B8] at h' jY;rw[hwt];cases ho:Cw B.length true a with
          | true=>
           rw[ho] at h';cases h';intro p hp;rw[Dl.1 hp];exact⟨ta,AA⟩
          | false=>
           rw[ho] at h' jY;simp only[AL] at h' jY;have hcs:Bb (·==(B.length:Int)) a<=cA a:=TV (λ_ _=>rfl) a;refine Xx (BC:=BC) (hf b) (lo:=B.length+1) (M:=M) (W:=wt b) (q:=q) ?_ _ a B' r' ta ?_ hlo h' jY
           .intro B3 r3 hlo3 h3' hM3 c LH
            have:=ih b B3 M (λi=>q i&&!(i==(B.length:Int))) r3 (λi h1 h2=>by grind) (Ga (λi hi=>by grind) _ ht.2.2.1) h3' hM3 c LH;refine⟨Ga (λi hi=>by grind) _ this.1,(P5 (v:=B.length) AD c false this.1).2,this.2⟩
           .have:Bb (·==(B.length:Int)) a*wt b<=max 1 (cv body)*wt b:=B5 _ AA
            omega
end
section
variable {BC:Nat->Bool}
theorem Iy {α:Type} {g:α->List Ty->F9} (hg:∀a B,B<+:(g a B).2):∀(l:List α) (out B:List Ty),B<+:(Cj BC g l out B).2
 | [],_,_=>C4 _
 | a::l,out,B=>by
  have h:=hg a B;rw[Cj];rcases hr:g a B with ⟨_|r,B1⟩
  .grind
  .rw[hr] at h
   simp only at h ⊢;cases BC (out++r).length with
   | true=>exact h
   | false=>exact h.trans (Iy hg l (out++r) B1)
theorem IM {ex:List Ty->F9} (hx:∀B,B<+:(ex B).2) (v:Nat):∀(f:Nat) (t:Ty) (B:List Ty),B<+:(CQ BC ex v f t B).2
 | 0,_,_=>C4 _
 | f+1,t,B=>by
  have h:=hx B;rw[CQ];cases Cw v false t with
  | false=>simp
  | true=>
   rcases hr:ex B with ⟨_|r,B1⟩
   .grind
   .rw[hr] at h
    exact h.trans (Iy (λc B=>IM hx v f _ B) r [] B1)
theorem LU {ex:List Ty->F9} (hx:∀B,B<+:(ex B).2) (v:Nat) (t:Ty) (B:List Ty):B<+:(B8 BC ex v t B).2:=by grind[B8,IM]
theorem QA {ex:Ty->List Ty->F9} (hx:∀t B,B<+:(ex t B).2):∀(l out:List Ty) (ok:Bool) (B:List Ty),B<+:(HV ex l out ok B).2
 | [],_,_,_=>C4 _
 | t::l,out,ok,B=>by
  have h:=hx t B;rw[HV];rcases hr:ex t B with ⟨_|r,B1⟩
  .rw[hr] at h
   exact h.trans (QA hx l out false B1)
  .rw[hr] at h
   exact h.trans (QA hx l (out++r) ok B1)
theorem Uu {ex:Ty->List Ty->F9} (hx:∀t B,B<+:(ex t B).2):∀(l:List Ty) (out:List (List Ty)) (B:List Ty),B<+:(FA ex l out B).2
 | [],_,_=>C4 _
 | t::l,out,B=>by
  have h:=hx t B;rw[FA];rcases hr:ex t B with ⟨_|r,B1⟩
  .grind
  .rw[hr] at h
   exact h.trans (Uu hx l (out++[r]) B1)
theorem GD:∀(f:Nat) (t:Ty) (B:List Ty),B<+:(BE BC f t B).2
 | 0,_,_=>C4 _
 | f+1,.mk k n i ts,B=>by
  have hf:=GD f;rw[BE];cases k==0||k==2||k==7 with
  | true=>simp
  | false=>
   simp only[AL];cases k==4 with
   | true=>
    grind[QA]
   | false=>
    simp only[AL];cases k==3 with
    | true=>
     grind[Uu]
    | false=>
     simp only[AL];cases k==6 with
     | false=>simp
     | true=>
      simp only[AN]
      match ts with
      | []=>exact C4 _
      | [_]=>exact C4 _
      | _::_::_::_=>exact C4 _
      | [b,body]=>
       grind[dA,List.prefix_append,Iy,LU]
theorem LV (h0:BC 0=false):∀(f:Nat) (t:Ty) (B r:List Ty),(BE BC f t B).1=some r->BC r.length=false
 | 0,_,_,_,h=>by cases h
 | f+1,.mk k n i ts,B,r,h=>by
  rw[BE] at h;cases tM:k==0||k==2||k==7 with
  | true=>
   grind
  | false=>
   rw[tM] at h;simp only[AL] at h;cases MZ:k==4 with
   | true=>
    grind
   | false=>
    rw[MZ] at h;simp only[AL] at h;cases MU:k==3 with
    | true=>
     rw[MU] at h;simp only[AN] at h;rcases hs:FA (BE BC f) ts [] B with ⟨_|ls,B1⟩
     .grind
     .rw[hs] at h
      simp only at h;cases he:ls.any List.isEmpty with
      | true=>grind
      | false=>
       rw[he] at h;simp only[AL] at h;cases hc:Dy BC ls [[]] with
       | none=>grind
       | some all=>
        rw[hc] at h;simp only at h;cases hb:BC all.length with
        | true=>grind
        | false=>grind
    | false=>
     rw[MU] at h;simp only[AL] at h;cases Zy:k==6 with
     | false=>
      grind
     | true=>
      rw[Zy] at h;simp only[AN] at h
      match ts with
      | []=>cases h; omega
      | [_]=>cases h; omega
      | _::_::_::_=>cases h; omega
      | [b,body]=>
       grind[dA]
end
mutual
def inp:Ty->Bool
 | .mk k _ _ ts=>bif k==0 then ts.isEmpty else bif k==3||k==4||k==6 then Uv ts else true
def Uv:List Ty->Bool
 | []=>true
 | t::l=>inp t&&Uv l
end
mutual
def pat:Ty->Bool
 | .mk k _ _ ts=>bif k==7||k==2 then true else bif k==3 then M8 ts else ts.isEmpty
def M8:List Ty->Bool
 | []=>true
 | t::l=>pat t&&M8 l
end
theorem Uw:∀{l:List Ty} {t:Ty},Uv l=true->t∈l->inp t=true
 | [],_,_,h=>by cases h
 | a::l,t,h,ht=>by
  simp only[Uv,AI] at h;rcases A3.1 ht with rfl|ht
  .grind
  .exact Uw h.2 ht
theorem SH:∀(l m:List Ty),M8 (l++m)=(M8 l&&M8 m)
 | [],m=>by rfl
 | t::l,m=>by simp[M8,SH l m,Lo]
mutual
theorem mg (v:Nat):∀(t:Ty) (u:Nat),inp t=true->inp (sub v u t)=true
 | .mk k n i ts,u,h=>by
  rw[inp] at h;rw[sub];cases h5:k==5 with
  | true=>
   have:k=5:=AB;subst this;simp only[AN];cases i==(u:Int) with
   | true=>rfl
   | false=>cases decide ((u:Int)<i) <;> rfl
  | false=>
   simp only[AL];rw[inp];cases h0:k==0 with
   | true=>
    rw[h0] at h;simp only[AN,GN] at h ⊢;rw[h];rfl
   | false=>
    rw[h0] at h;simp only[AL] at h ⊢;cases h3:(k==3||k==4||k==6) with
    | true=>
     rw[h3] at h;exact dw v ts u k 0 h
    | false=>rfl
theorem dw (v:Nat):∀(l:List Ty) (u:Nat) (k:Int) (j:Nat),Uv l=true->Uv (Kw v u k j l)=true
 | [],_,_,_,_=>rfl
 | t::l,u,k,j,h=>by
  simp only[Uv,AI] at h;simp only[Kw,Uv,AI];exact⟨mg v t _ h.1,dw v l u k (j+1) h.2⟩
end
mutual
theorem TW {m:Int->Bool} {b:Ty} (hb:pat b=true):∀(t:Ty) (k:Nat),pat t=true->pat (Ky m b t k)=true
 | .mk c n i ts,k,h=>by
  have h':=h;rw[pat] at h;rw[Ky];cases h7:c==7 with
  | true=>
   grind
  | false=>
   rw[h7] at h;cases h3:c==3 with
   | false=>grind
   | true=>
    have:c=3:=AB;subst this;exact dx hb ts k h
theorem dx {m:Int->Bool} {b:Ty} (hb:pat b=true):∀(l:List Ty) (k:Nat),M8 l=true->M8 (KR m b l k)=true
 | [],_,_=>rfl
 | t::l,k,h=>by
  simp only[M8,AI] at h;rw[KR];cases decide (k<Bb m t) with
  | true=>
   simp only[AN,M8,AI];exact⟨TW hb t k h.1,h.2⟩
  | false=>
   simp only[AL,M8,AI];exact⟨h.1,dx hb l _ h.2⟩
end
mutual
theorem aD {v:Nat}:∀t:Ty,pat t=true->Cw v true t=false->Cw v false t=decide (0<Bb (·==(v:Int)) t)
 | .mk k n i ts,hp,h=>by
  rw[Cw] at h;rw[pat] at hp;rw[Cw,Bb];cases h7:k==7 with
  | true=>
   grind
  | false=>
   rw[h7] at h hp;simp only[AL,CY,Gv,GL] at h hp ⊢;cases h2:k==2 with
   | true=>
    grind
   | false=>
    rw[h2] at h hp;simp only[PG,AL] at h hp;cases h3:k==3 with
    | true=>
     rw[h3] at hp;exact dy ts hp h
    | false=>
     rw[h3] at hp;simp only[AL,GN] at hp;subst hp;rfl
theorem dy {v:Nat}:∀l:List Ty,M8 l=true->ET v true l=false->ET v false l=decide (0<Cg (·==(v:Int)) l)
 | [],_,_=>rfl
 | t::l,hp,h=>by
  simp only[M8,AI] at hp;simp only[ET,Gw] at h;rw[ET,aD t hp.1 h.1,dy l hp.2 h.2,Cg]
  grind
end
mutual
theorem aE {v:Nat} {m:Int->Bool} {b:Ty} (hb:Cw v true b=false):∀(t:Ty) (k:Nat),Cw v true t=false->Cw v true (Ky m b t k)=false
 | .mk c n i ts,k,h=>by
  have h':=h;rw[Cw] at h;rw[Ky];cases h7:c==7 with
  | true=>
   grind
  | false=>
   rw[h7] at h;cases h3:c==3 with
   | false=>grind
   | true=>
    have:c=3:=AB;subst this;exact dz hb ts k h
theorem dz {v:Nat} {m:Int->Bool} {b:Ty} (hb:Cw v true b=false):∀(l:List Ty) (k:Nat),ET v true l=false->ET v true (KR m b l k)=false
 | [],_,_=>rfl
 | t::l,k,h=>by
  simp only[ET,Gw] at h;rw[KR];cases decide (k<Bb m t) with
  | true=>
   simp only[AN,ET,Gw];exact⟨aE hb t k h.1,h.2⟩
  | false=>
   simp only[AL,ET,Gw];exact⟨h.1,dz hb l _ h.2⟩
end
section
variable {BC:Nat->Bool}
theorem Ux {α:Type} {g:α->List Ty->F9} {P:Ty->Prop}:∀(l:List α) (out B:List Ty) (r:List Ty),(∀a∈l,∀B r,(g a B).1=some r->∀p∈r,P p)->(Cj BC g l out B).1=some r->(∀p∈out,P p)->∀p∈r,P p
 | [],out,B,r,_,h,ho=>by grind[Cj]
 | a::l,out,B,r,hg,h,ho=>by
  have h2:=hg a AD B;rw[Cj] at h;rcases hr:g a B with ⟨_|s,B1⟩
  .grind
  .rw[hr] at h h2
   simp only at h h2;cases hb:BC (out++s).length with
   | true=>grind
   | false=>
    rw[hb] at h;refine Ux l (out++s) B1 r (λa ha=>hg a AB) h ?_
    grind
theorem X0 {ex:List Ty->F9} (hr:∀B r,(ex B).1=some r->∀c∈r,pat c=true) {v:Nat}:∀(f:Nat) (t:Ty) (B r:List Ty),pat t=true->(CQ BC ex v f t B).1=some r->∀p∈r,pat p=true
 | 0,t,B,r,ht,h=>by grind[CQ]
 | f+1,t,B,r,ht,h=>by
  have h2:=hr B;rw[CQ] at h;cases ho:Cw v false t with
  | false=>
   grind
  | true=>
   rw[ho] at h;simp only[AN] at h;rcases he:ex B with ⟨_|cs,B1⟩
   .grind
   .rw[he] at h h2
    simp only at h h2;exact Ux cs [] B1 r (λc hc B' r' h'=>X0 hr f _ B' r' (TW (h2 cs rfl c hc) t 0 ht) h') h AD
theorem Uy {ex:Ty->List Ty->F9} {P:Ty->Prop}:∀(l out:List Ty) (ok:Bool) (B:List Ty),(∀t∈l,∀B r,(ex t B).1=some r->∀p∈r,P p)->(∀p∈out,P p)->∀p∈(HV ex l out ok B).1.1,P p
 | [],_,_,_,_,ho=>ho
 | t::l,out,ok,B,hg,ho=>by
  have h2:=hg t AD B;rw[HV];rcases hr:ex t B with ⟨_|s,B1⟩
  .exact Uy l out false B1 (λa ha=>hg a AB) ho
  .rw[hr] at h2
   refine Uy l (out++s) ok B1 (λa ha=>hg a AB) ?_
   grind
theorem eB {ex:Ty->List Ty->F9} {P:Ty->Prop}:∀(l:List Ty) (out:List (List Ty)) (B:List Ty) (r:List (List Ty)),(∀t∈l,∀B r,(ex t B).1=some r->∀p∈r,P p)->(FA ex l out B).1=some r->(∀o∈out,∀p∈o,P p)->∀o∈r,∀p∈o,P p
 | [],out,B,r,_,h,ho=>by grind[FA]
 | t::l,out,B,r,hg,h,ho=>by
  have h2:=hg t AD B;rw[FA] at h;rcases hr:ex t B with ⟨_|s,B1⟩
  .grind
  .rw[hr] at h h2
   refine eB l (out++[s]) B1 r (λa ha=>hg a AB) h ?_
   grind
theorem X1:∀(ls out r:List (List Ty)),(∀l∈ls,∀p∈l,pat p=true)->Dy BC ls out=some r->(∀p∈out,M8 p=true)->∀p∈r,M8 p=true
 | [],out,r,_,h,ho=>by grind[Dy]
 | l::ls,out,r,hl,h,ho=>by
  rw[Dy] at h;cases hb:BC (out.flatMap λp=>l.map λx=>p++[x]).length with
  | true=>grind
  | false=>
   rw[hb] at h;refine X1 ls _ r (λa ha=>hl a AB) h ?_
   grind[SH,M8]
theorem QB:∀(f:Nat) (t:Ty) (B r:List Ty),inp t=true->(BE BC f t B).1=some r->∀p∈r,pat p=true
 | 0,_,_,_,_,h=>by cases h
 | f+1,.mk k n i ts,B,r,hi,h=>by
  have ih:=QB f;rw[inp] at hi;rw[BE] at h;cases tM:k==0||k==2||k==7 with
  | true=>
   rw[tM] at h;cases hb:BC 1 with
   | true=>grind
   | false=>
    rw[hb] at h;cases h;intro p hp;rw[Dl.1 hp];have:k=0\/k=2\/k=7:=AB;rcases this with rfl|rfl|rfl
    all_goals assumption
  | false=>
   rw[tM] at h;simp only[AL] at h;have h0:(k==0)=false:=AB;rw[h0] at hi;simp only[AL] at hi;cases MZ:k==4 with
   | true=>
    rw[MZ] at h hi;simp only[AN,Du,Dv] at h hi;have key:=Uy (P:=λp=>pat p=true) ts [] true B (λt hm B' r' h'=>ih t B' r' (Uw hi hm) h') AD
    grind
   | false=>
    rw[MZ] at h hi;simp only[AL,Bool.or_false] at h hi;cases MU:k==3 with
    | true=>
     rw[MU] at h hi;simp only[AN,Dv] at h hi;have key:=λr=>eB (P:=λp=>pat p=true) ts [] B r (λt hm B' r' h'=>ih t B' r' (Uw hi hm) h')
     rcases hs:FA (BE BC f) ts [] B with ⟨_|ls,B1⟩
     .grind
     .rw[hs] at h key
      simp only at h key;cases he:ls.any List.isEmpty with
      | true=>grind
      | false=>
       rw[he] at h;simp only[AL] at h;cases hc:Dy BC ls [[]] with
       | none=>grind
       | some all=>
        rw[hc] at h;simp only at h;cases hb:BC all.length with
        | true=>grind
        | false=>
         rw[hb] at h;cases h;intro p hp;obtain⟨a,ha,rfl⟩:=Cv.1 hp;exact X1 ls _ all (key ls rfl AD) hc (by simp[M8]) a ha
    | false=>
     rw[MU] at h hi;simp only[AL,GL] at h hi;cases Zy:k==6 with
     | false=>
      grind
     | true=>
      rw[Zy] at h hi;simp only[AN] at h hi
      match ts,hi with
      | [],_=>cases h; simp
      | [_],_=>cases h; simp
      | _::_::_::_,_=>cases h; simp
      | [b,body],hi=>
       simp only[Uv,AI] at hi;simp only[dA] at h;have hl:=ih (sub B.length 0 body) (B++[b]);rcases hs:BE BC f (sub B.length 0 body) (B++[b]) with ⟨_|l,B1⟩
       .grind
       .rw[hs] at h hl
        simp only at h hl;have hl':=hl l (mg _ _ 0 hi.2.1) rfl;have key:=λr h1=>Ux (BC:=BC) (g:=B8 BC (BE BC f b) B.length) (P:=λp=>pat p=true) l [] B1 r h1
        grind[B8,X0]
end
attribute [local simp] IJ Mx Jw Kh Dc Fk Ew wO setCells HM Df DQ CT DY alive DI KQ UI jG Hi JU Gk Ip L2 JV qD mC okB qE qH qI qJ qK iG qL qN qO qP qQ qR qT qU qV qW qX okF qY qZ qa qb qc Q0 qd Q1 Q2 Q3 Q4 qe qf qg qh qi qj qm qo qp qq GX qt mD qu qv qw qx qy rA rC rD rF rH CD
def BH (v:Ty) (x:AV):Prop:=match v with
 | .mk k n i ts=>∃a,x=.agg [AG k,SS n,AG i,a]/\BF a (AZ ts)
theorem A8.Fy {v:Ty} {x:AV} (h:A8 v x):BH v x:=by
 obtain⟨k,n,i,ts⟩:=v;obtain⟨a,rfl,ha⟩:=h;exact⟨a,rfl,.inl ha⟩
theorem BH.closed {v:Ty} {x:AV} (h:BH v x) (bs:List (List AV)) (n:Nat):∃x',close bs n 0 x=some x'/\A8 v x':=by
 obtain⟨k,c,i,ts⟩:=v;obtain⟨a,rfl,ha⟩:=h;obtain⟨a',h1,h2⟩:=ha.closed bs n;exact⟨.agg [AG k,SS c,AG i,a'],by simp[h1],⟨a',rfl,h2⟩⟩
abbrev Z4:List AV:=[AG 0,SS [],AG 0,.AE []]
theorem EC (l m:List Ty):AZ (l++m)=AZ l++AZ m:=by simp[Hj]
theorem HP {l:List Ty} {r:List PV} (h:r∈AZ l):r.length=4:=by grind[Hj,Aj]
theorem Er {t:Ty} {x:AV} (h:BH t x) {s:AQ} {K:AV->AQ->Prop} (hK:K (.AE [Ah t]) s):GY false s 4 [(AG 0),(SS []),(AG 0),(.AE [])] 1 [(0,4,x)] K:=by
 obtain⟨k,n,i,ts⟩:=t;obtain⟨a,rfl,ha⟩:=h;simp only[Ah] at hK;simp[GY,Fx,CJ,ha.ok,ha.KM];omega
theorem aF {L:BI} {s:AQ} {a:AV} {es:List Ty} {t:Ty} {K:AV->AQ->Prop} (ha:Dn 0 s.ts 25 a (AZ es)) (El:L.rt=0) (hl:es.length<2 ^ 38) (h:∀a' ts',Dn 0 ts' 25 a' (AZ (es++[t]))->K a' ⟨s.bs,ts'⟩) :
  HB false L s 25 4 56 a (.AE [Ah t]) K:=by
 have hl':(AZ es).length=es.length:=Ab es;have:=M9 (L:=L) (bs:=s.bs) (ts:=[]) (x:=s.ts) (e:=25) (k:=4) (bytes:=56) (a:=a) (rows:=AZ es) (row:=Ah t) (K:=K) AB AA (λr hr=>HP hr) (Aj t) AA (Cx t) AA AA (by grind[EC,AZ])
 simp_all
theorem C3 {L:BI} {s:AQ} {id off:Nat} {v:AV} {cs:List AV} {K:AQ->Prop} (hb:s.bs[id]?=some cs) (ho:off<cs.length) (hc:cellsOf v=[v]) (hro:L.ro<=id) (hok:A7 v=true) (hn:L.n0<=id\/Jk v=true) (h:K ⟨s.bs.set id (cs.set off v),s.ts⟩):HM L s 1 (.ptr id off) v K:=by
 simp only[HM,hb,wO,hc];refine⟨⟨rfl,by simp; omega,hro,by simp[hok],hn.imp (λh=>h) λh=>by simp[I2,h],AA⟩,?_⟩;simpa[setCells] using h
theorem Gr {lo:Nat} {ts:List (Nat×Nat)} {k:Nat} {a:AV} {es:List Ty} (h:Dn lo ts k a (AZ es)):Tel.C1 a a=true:=by
 rcases h with rfl|⟨t,rfl,_⟩
 all_goals simp[*,Tel.C1,DU]
theorem DL (a b:Nat):Tel.C1 (.ptr a b) (.ptr a b)=true:=by simp[Tel.C1]
theorem Ap {bs:List (List AV)} {j:Nat} {c:List AV} (h:bs[j]?=some c) (b:List AV):(bs++[b])[j]?=some c:=AB
theorem Az (bs:List (List AV)) (b:List AV):(bs++[b])[bs.length]?=some b:=AD
theorem BV {bs:List (List AV)} {j k:Nat} {c b:List AV} (h:bs[j]?=some c) (hn:k≠j):(bs.set k b)[j]?=some c:=AB
theorem BZ {bs:List (List AV)} {j:Nat} {c b:List AV} (h:bs[j]?=some c):(bs.set j b)[j]?=some b:=AB
section
variable {R:RT}
theorem Ce {s:AQ} {t:Ty} {K:AV->Prop} (hK:K (.agg ((Ah t).map .pv))):Df (env R) s (some 4) (.Ct (Ah t) 0) K:=by
 simp only[Df,DQ,JL];refine⟨by rw[Bt,Aj]; omega,?_⟩;rw[CV (by rw[Bt,Aj]; omega)];exact hK
theorem ja {ts:List Ty} {a:AV} (ha:A0 a (AZ ts)) (hl:Ac ts<2 ^ 38) {k i:Int} {n:List UInt8} (ih:∀t∈ts,Ae (env R) 146 [.agg ((Ah t).map .pv)] λr=>A8 t r) {Post:AV->Prop} (hP:∀r,A8 (.mk k n i ts) r->Post r) :
  ∀(j q:Nat) (s:AQ) (b:AV),q+j=ts.length->s.bs[1]?=some Z4->s.bs[2]?=some [AG k,SS n,AG i,b]->Dn 0 s.ts 25 b (AZ (ts.take q))->wY R 0 0 0 (.ptr 1 0) (.ptr 2 0) a (AG ts.length) (AG q) s (QP Post):=by
 have Sj:=BS ts;intro j
 induction j with
 | zero=>
  intro q s b hi h1 h2 hb;refine wZ (Ao ?_);rw[A2 AA];refine Ar (AIF (Af h2 rfl (Bn h1 rfl rfl AK (AO _) (by simp[hb.A4.ok]) (.inl (AO _)) (Af (BZ h1) rfl ?_))));rw[CV AA] at hb;obtain⟨r,h3,h4⟩:=BH.closed (v:=.mk k n i ts) ⟨b,rfl,hb.A4⟩ (s.bs.set 1 [AG k,SS n,AG i,b]) 0;exact⟨r,h3,hP r h4⟩
 | succ j D9=>
  intro q s b hi h1 h2 hb;refine wZ (Ao ?_);rw[Aq AA];obtain⟨t,ht⟩:∃t,ts[q]?=some t:=⟨_,Ay AA⟩;refine A1 (AIH (BR ha (row:=Ah t) AA (by grind[BL]) (Aj t) AA (Ce ?_)));have hm:=ih t (A5 ht);have hro:((Ah t).map AV.pv).all A7=true:=Cx t;have hrl:((Ah t).map AV.pv).length=4:=by grind[Aj]
  generalize (Ah t).map AV.pv=row at hm hro hrl;obtain⟨bs,tk⟩:=s;simp only[IJ] at *;have l1:=(BA.1 h1).1;have l2:=(BA.1 h2).1;refine Bn (Az bs Z4) hrl rfl AK (AO _) hro (.inl (AO _)) ?_;have e:(bs++[Z4]).set bs.length row=bs++[row]:=AD;rw[e];have g1:=Ap h1 row;have g2:=Ap h2 row;refine AM (AU g2) (AX g2 rfl (Af (Az bs row) hrl (AH hm ?_)));intro v hv;refine Er hv.Fy ⟨AK,aF hb rfl AB ?_⟩;intro b' GJ hb';have hqt:ts.take q++[t]=ts.take (q+1):=by grind[List.take_add_one]
  rw[hqt] at hb';refine AM (AU g2) (C3 g2 AD hb'.A4.cells (AO _) hb'.A4.ok (.inl (AO _)) ?_);refine⟨AM (AU g2) (DL _ _),AX g2 rfl (Gr hb),AII (Be AA AA ?_)⟩;have:=D9 (q+1) ⟨(bs++[row]).set 2 [AG k,SS n,AG i,b'],GJ⟩ b' AA (BV g1 AK) (BZ g2) hb'
  grind
mutual
theorem Uz:∀(t:Ty),size t<2 ^ 38->∀(x:AV),A8 t x->Ae (env R) 146 [x] λr=>A8 t r
 | .mk k n i ts,h,x,hx=>by
  obtain⟨a,rfl,ha⟩:=hx;simp only[size] at h;have ih:=SI ts AA;refine AZg (u0:=.agg [AG k,SS n,AG i,a]) (by simp[ha.close]) (AIJ ?_);refine Bu rfl (by simp[ha.ok]) (Bm (Af rfl rfl (Bm (Bn (old:=Z4) rfl rfl rfl AK (AO _) (by simp[ha.ok]) (.inl (AO _)) ?_))));refine AM rfl (C3 (off:=3) rfl (AY 4) rfl (AO _) rfl (.inl (AO _)) (AM rfl (AX rfl rfl (Au (n:=ts.length) (by rw[ha.BD,Ab]) ?_))));exact ja ha AA ih (λr hr=>hr) ts.length 0 _ (.AE []) AA rfl rfl (.inl rfl)
theorem SI:∀(l:List Ty),Ac l<2 ^ 38->∀t∈l,Ae (env R) 146 [.agg ((Ah t).map .pv)] λr=>A8 t r
 | [],_,_,h=>by cases h
 | e::l,h,t,hm=>by
  simp only[Ac] at h;rcases A3.1 hm with h' | h'
  .rw[h']
   exact Uz e AA _ (A8.Bk e)
  .exact SI l AA t h'
end
end
theorem mh {L:BI} {s:AQ} {a:AV} {es:List Ty} {t:Ty} {K:AV->AQ->Prop} (ha:Dn L.rt s.ts 25 a (AZ es)) (hle:L.rt<=s.ts.length) (hl:es.length<2 ^ 38) (h:∀a' ts',Dn L.rt ts' 25 a' (AZ (es++[t]))->L.rt<=ts'.length->K a' ⟨s.bs,ts'⟩) :
  HB false L s 25 4 56 a (.AE [Ah t]) K:=by
 have hl':(AZ es).length=es.length:=Ab es;have htl:(s.ts.take L.rt).length=L.rt:=AB;have e:s.ts.take L.rt++s.ts.drop L.rt=s.ts:=List.take_append_drop _ _;have:=M9 (L:=L) (bs:=s.bs) (ts:=s.ts.take L.rt) (x:=s.ts.drop L.rt) (e:=25) (k:=4) (bytes:=56) (a:=a) (rows:=AZ es) (row:=Ah t) (K:=K) AB AA (λr hr=>HP hr) (Aj t) AA (Cx t) AA AA (by grind[EC,AZ])
 simp_all
theorem MA {m:Nat} {ts:List (Nat×Nat)} {k:Nat} {a:AV} {rows:List (List PV)} (h:Dn m ts k a rows) (bs:List (List AV)) (n:Nat):∃a',close bs n m a=some a'/\A0 a' rows:=by
 rcases h with rfl|⟨t,rfl,_,h2⟩
 .simp[*,A0.AE]
 .have:¬ t<m:=by omega
  exact⟨.pv (.list rows),by grind[close],.list _⟩
theorem NA (t:Ty):Tel.C1 (.agg ((Ah t).map .pv)) (.agg ((Ah t).map .pv))=true:=by
 cases t
 grind[Ah,Tel.C1,Ij,Ni,Fa,Ic,DU]
theorem BP.set {s:AQ} (h:BP s) {j:Nat} {c:List AV} (hc:Ag s.bs.length c=true) (ts:List (Nat×Nat)):BP ⟨s.bs.set j c,ts⟩:=by
 intro b hb;simp only[TF];rcases ZD hb with hb|rfl
 .exact h b hb
 omega
mutual
def SJ:Ty->Bool
 | .mk k _ i ts=>(!(k==5)||(ts.isEmpty&&decide (-(2 ^ 60)<=i)&&decide (i<2 ^ 60)))&&QC ts
def QC:List Ty->Bool
 | []=>true
 | t::l=>SJ t&&QC l
end
abbrev APi (p:Nat):AV:=.func (.func 122) [] [.ptr p 0]
section
variable {R:RT}
theorem AIK (i u:Int) (hu:0<=u) (hi:i<2 ^ 60) (p:Nat) {s:AQ} (hs:BP s) (hp:p<s.bs.length) (L:BI) :
  BG (env R) L 122 [AG i,AG u,.ptr p 0] s (.tuple [bif i==u then .ptr p 0 else .pv (.sc (.pointer none)),AG (bif i==u then 0 else bif decide (u<i) then i-1 else i)]) s:=by
 have fin:∀(rr:Bool) (x:AV) (n:Int),(x=.ptr p 0\/x=.pv (.sc (.pointer none)))->QM rr s.bs.length (λv s'=>v=.tuple [x,AG n]/\s'=s) (.tuple [x,AG n]) s:=by
  intro rr x n hx;have e:s.bs.take s.bs.length=s.bs:=O9;refine J7 (ds:=[x,AG n]) ?_ ?_ ?_
  .rw[e,DE]
   exact hs
  .grind[BK,close]
  simp
 obtain⟨v,s',⟨rfl,rfl⟩,hc⟩:=AZh (R:=R) (L:=L) (s:=s) (t0:=AG i) (t1:=AG u) (t2:=.ptr p 0) (Post:=λv s'=>v=.tuple [bif i==u then .ptr p 0 else .pv (.sc (.pointer none)),AG (bif i==u then 0 else bif decide (u<i) then i-1 else i)]/\s'=s) AR (AIL (Av (by
  cases he:(i==u) with
  | true=>simp[*]
  | false=>
   refine Ar (Fm ?_)
   by_cases hlt:u<i
   .have:i>u:=hlt
    rw[Aq this];exact A1 (I7 AA AA (fin _ _ _ (.inr rfl)))
   .have:¬ i>u:=hlt
    rw[A2 this];exact Ar (AIM (fin _ _ _ (.inr rfl))))))
 omega
theorem G2 (k:Int) (n:List UInt8) (i:Int) (ts:List Ty) (h:k≠7):ren (.mk k n i ts)=.mk k n i (CC ts):=by grind[ren]
theorem we {p:Nat} {cp:List AV} {fn:AV} {ts ls:List Ty} {a:AV} (ha:A0 a (AZ ts)) (hl:ts.length<2 ^ 38) (Sn:ls.length=ts.length) {k i:Int} {n:List UInt8} {u:Nat} (hu:u<2 ^ 60)
  {s0:AQ} (hs0:BP s0) (hp:s0.bs[p]?=some cp)
  (ih:∀(q:Nat) (t l:Ty),ts[q]?=some t->ls[q]?=some l->∀s,BP s->s.bs[p]?=some cp->∃r,A8 l r/\∀L,BG (env R) L 121 [.agg ((Ah t).map .pv),AG (u+ER k q:Nat),fn] s r s)
  {i':Int} {Post:AV->Prop} (hP:∀r,A8 (.mk k n i' ls) r->Post r) :
  ∀(j q:Nat) (s:AQ) (b:AV),q+j=ts.length->BP s->s.bs[p]?=some cp->s.bs[s0.bs.length]?=some [AG k,SS n,AG i,a]->s.bs[s0.bs.length+1]?=some Z4->s.bs[s0.bs.length+2]?=some [AG k,SS n,AG i',b] ->
   Dn s0.ts.length s.ts 25 b (AZ (ls.take q))->s0.ts.length<=s.ts.length ->
   wh R s0.bs.length s0.bs.length s0.ts.length (AG u) fn (.ptr s0.bs.length 0) (.ptr (s0.bs.length+1) 0) (.ptr (s0.bs.length+2) 0) a (AG ts.length) (AG q) s (QI s0.bs.length s0.ts.length Post):=by
 intro j
 induction j with
 | zero=>
  intro q s b hi hs h0 h1 h2 h3 hb hle;refine wj (Ao ?_);rw[A2 AA];refine Ar (AIN (Af h3 rfl (Bn h2 rfl rfl AK AD (by simp[hb.A4.ok]) (.inl AD) (Af (BZ h2) rfl ?_))));rw[CV AA] at hb;obtain⟨b',c1,c2⟩:=MA hb (s.bs.set (s0.bs.length+1) [AG k,SS n,AG i',b]) s0.bs.length;exact⟨.agg [AG k,SS n,AG i',b'],by simp[c1],hP _ ⟨b',rfl,c2⟩⟩
 | succ j D9=>
  intro q s b hi hs h0 h1 h2 h3 hb hle;refine wj (Ao ?_);rw[Aq AA];obtain⟨t,ht⟩:∃t,ts[q]?=some t:=⟨_,Ay AA⟩;obtain⟨l,wk⟩:∃l,ls[q]?=some l:=⟨_,Ay AA⟩;have hrl:((Ah t).map AV.pv).length=4:=by grind[Aj]
  have hro:=Cx t
  have Lz:Ag (s.bs.length+1) ((Ah t).map AV.pv)=true:=by
   obtain⟨k1,n1,i1,t1⟩:=t;rfl
  refine A1 (AIO (BR ha (row:=Ah t) AA (by simp[*,BL]) (Aj _) AA (Ce (Bm ?_))));have iI:=ih q t l ht wk;have KX:=NA t;generalize (Ah t).map AV.pv=row at hrl hro Lz iI KX;obtain⟨bs,tk⟩:=s;have l3:=(BA.1 h3).1;simp only at *;refine Bn (Az bs Z4) hrl rfl AK (by simp[CT]; omega) hro (.inl (by simp[CT]; omega)) ?_;have e:(bs++[Z4]).set bs.length row=bs++[row]:=AD;rw[e];have g0:=Ap h0 row;have g1:=Ap h1 row;have g2:=Ap h2 row;have g3:=Ap h3 row;have hs':BP ⟨bs++[row],tk⟩:=BP.app (s:=⟨bs,tk⟩) hs Lz;have hbn:=Q6 k q;have aH:Ae (env R) 119 [.agg [AG k,SS n,AG i,a],AG q] λr=>r=AG (ER k q):=L3 ha q
  obtain⟨r,WR,N4⟩:=iI ⟨bs++[row],tk⟩ hs' g0;refine AM (AU g3) (AX g3 rfl (Af (Az bs row) hrl (Af g1 rfl (AH aH ?_))));rintro _ rfl;refine Be AA AA ?_;have e1:((u:Int)+(ER k q:Nat))=((u+ER k q:Nat):Int):=AA;rw[e1];refine⟨r,_,N4 _,Er WR.Fy ⟨AK,mh hb hle AB ?_⟩⟩;intro b' GJ hb' hle';have er:ls.take q++[l]=ls.take (q+1):=by grind[List.take_add_one]
  rw[er] at hb';refine AM (AU g3) (C3 g3 AD hb'.A4.cells AD hb'.A4.ok (.inl AD) ?_);refine⟨AM (AU g3) (DL _ _),AM (AU g3) (DL _ _),AX g3 rfl (Gr hb),AX g3 rfl (Gr hb),Af (Az bs row) hrl KX,AIP (Be AA AA ?_)⟩;have lp:=(BA.1 hp).1;have:=D9 (q+1) ⟨(bs++[row]).set (s0.bs.length+2) [AG k,SS n,AG i',b'],GJ⟩ b' AA ?_ ?_ (BV g1 AA) (BV g2 AA) (BZ g3) hb' hle'
  .grind
  .exact BP.set (s:=⟨bs++[row],tk⟩) hs' (by simp[Ag,Ax,hb'.A4.Ax]) _
  grind[BV]
end
theorem MB {k i:Int} {n:List UInt8} {ts:List Ty} (h:valid (.mk k n i ts)=true):(n.head?==some 36)=false/\n.length<2 ^ 40:=by
 simp only[valid,AI] at h;have nil:n=[]->(n.head?==some 36)=false/\n.length<2 ^ 40:=AB;rcases Ki h.1 with ⟨_,h2,_⟩|⟨_,h2,_⟩|rfl|⟨_,h2,_⟩|⟨_,h2,_⟩|⟨_,h2,_⟩|⟨_,h2,_⟩
 .grind
 .grind
 .have h1:=h.1
  simp[root,shape] at h1;obtain⟨_,⟨⟨h3,_⟩,_⟩,_⟩:=h1;unfold M0 at h3;simp only[AI,Cq] at h3;refine⟨?_,AA⟩;rcases n with _|⟨c,w⟩
  .rfl
  .have h4:=h3.1.2
   simp only at h4;rw[PD];intro h5;have h5:c=36:=AB;rw[h5] at h4;exact absurd h4 AK
 all_goals grind
theorem LW {n:List UInt8} {i:Int} {ts:List Ty} (h:valid (.mk 5 n i ts)=true):i<=200:=by grind[valid,root,shape]
theorem D1 (σ:List Nat) (u:Nat) {k i:Int} {n:List UInt8} {ts:List Ty} (hv:valid (.mk k n i ts)=true):(k=5/\n=[]/\ts=[]/\0<=i/\i<=200/\((∃v∈σ,inst σ u (.mk k n i ts)=ph v)\/inst σ u (.mk k n i ts)=.mk 5 [] i []))\/((k==5)=false/\inst σ u (.mk k n i ts)=.mk k n i (Di σ u k 0 ts)):=by
 by_cases h5:k=5
 .subst h5
  obtain⟨rfl,rfl,h0⟩:=Eb hv;refine .inl ⟨rfl,rfl,rfl,h0,LW hv,?_⟩
  grind[inst]
 grind[inst]
mutual
theorem Iz {q:Int->Bool} {σ:List Nat} (hσ:∀x∈σ,q x=true):∀(t:Ty) (u:Nat),valid t=true->FD q (inst σ u t)=true
 | .mk k n i ts,u,hv=>by
  rcases D1 σ u hv with ⟨rfl,rfl,rfl,h0,h1,⟨v,h2,h3⟩|h3⟩|⟨b5,h3⟩
  .grind[FD]
  .grind[FD,EG]
  .have h7:(k==7)=false:=by grind[G8]
   have hn:=MB hv;simp only[valid,AI] at hv;rw[h3,FD,h7,X2 hσ ts u k 0 hv.2]
   grind
theorem X2 {q:Int->Bool} {σ:List Nat} (hσ:∀x∈σ,q x=true):∀(l:List Ty) (u:Nat) (k:Int) (j:Nat),A9 l=true->EG q (Di σ u k j l)=true
 | [],_,_,_,_=>rfl
 | t::l,u,k,j,hv=>by
  simp only[A9,AI] at hv;rw[Di,EG,Iz hσ t _ hv.1,X2 hσ l u k (j+1) hv.2];rfl
end
mutual
theorem U3 (σ:List Nat):∀(t:Ty) (u:Nat),valid t=true->SJ (inst σ u t)=true
 | .mk k n i ts,u,hv=>by
  rcases D1 σ u hv with ⟨rfl,rfl,rfl,h0,h1,⟨v,h2,h3⟩|h3⟩|⟨b5,h3⟩
  .rw[h3]
   rfl
  .rw[h3,SJ]
   have e1:decide (-(2 ^ 60)<=i)=true:=Aq AA;have e2:decide (i<2 ^ 60)=true:=Aq AA;rw[e1,e2];rfl
  .simp only[valid,AI] at hv
   rw[h3,SJ,b5,X3 σ ts u k 0 hv.2];rfl
theorem X3 (σ:List Nat):∀(l:List Ty) (u:Nat) (k:Int) (j:Nat),A9 l=true->QC (Di σ u k j l)=true
 | [],_,_,_,_=>rfl
 | t::l,u,k,j,hv=>by
  simp only[A9,AI] at hv;rw[Di,QC,U3 σ t _ hv.1,X3 σ l u k (j+1) hv.2];rfl
end
mutual
theorem mj (σ:List Nat):∀(t:Ty) (u:Nat),valid t=true->cv (inst σ u t)=cv t
 | .mk k n i ts,u,hv=>by
  rcases D1 σ u hv with ⟨rfl,rfl,rfl,h0,h1,⟨v,h2,h3⟩|h3⟩|⟨b5,h3⟩
  .rw[h3]
   rfl
  .rw[h3]
  .simp only[valid,AI] at hv
   rw[h3,cv,cv,U4 σ ts u k 0 hv.2]
theorem U4 (σ:List Nat):∀(l:List Ty) (u:Nat) (k:Int) (j:Nat),A9 l=true->MT (Di σ u k j l)=MT l
 | [],_,_,_,_=>rfl
 | t::l,u,k,j,hv=>by
  simp only[A9,AI] at hv;rw[Di,MT,MT,mj σ t _ hv.1,U4 σ l u k (j+1) hv.2]
end
mutual
theorem Jh (σ:List Nat):∀(t:Ty) (u:Nat),valid t=true->size (inst σ u t)=size t/\depth (inst σ u t)=depth t/\wt (inst σ u t)=wt t/\inp (inst σ u t)=true
 | .mk k n i ts,u,hv=>by
  rcases D1 σ u hv with ⟨rfl,rfl,rfl,h0,h1,⟨v,h2,h3⟩|h3⟩|⟨b5,h3⟩
  .rw[h3]
   exact⟨rfl,rfl,rfl,rfl⟩
  .rw[h3]
   exact⟨rfl,rfl,rfl,rfl⟩
  .have TP:=hv
   simp only[valid,AI] at hv;obtain⟨e1,e2,e3,e4⟩:=U5 σ ts u k 0 hv.2;rw[h3];refine⟨by grind[size],by grind[depth],by grind[wt,U4],?_⟩;rw[inp,e4];cases b0:(k==0) with
   | false=>simp
   | true=>
    have:k=0:=AB;subst this;rcases Ki hv.1 with ⟨_,_,_,rfl⟩|h|h|h|h|h|h
    .rfl
    all_goals omega
theorem U5 (σ:List Nat):∀(l:List Ty) (u:Nat) (k:Int) (j:Nat),A9 l=true->Ac (Di σ u k j l)=Ac l/\Ci (Di σ u k j l)=Ci l/\tW (Di σ u k j l)=tW l/\Uv (Di σ u k j l)=true
 | [],_,_,_,_=>⟨rfl,rfl,rfl,rfl⟩
 | t::l,u,k,j,hv=>by
  simp only[A9,AI] at hv;obtain⟨e1,e2,e3,e4⟩:=Jh σ t (u+ER k j) hv.1;obtain⟨f1,f2,f3,f4⟩:=U5 σ l u k (j+1) hv.2
  grind[Di,Ac,Ci,tW,Uv]
end
mutual
theorem LX:∀(t:Ty),valid t=true->ren t=t
 | .mk k n i ts,hv=>by
  have h7:(k==7)=false:=by grind[G8]
  simp only[valid,AI] at hv;rw[ren,h7,U6 ts hv.2];rfl
theorem U6:∀(l:List Ty),A9 l=true->CC l=l
 | [],_=>rfl
 | t::l,hv=>by
  simp only[A9,AI] at hv;rw[CC,LX t hv.1,U6 l hv.2]
end
theorem Ej {t:Ty} (hv:valid t=true) (hc:CB 0 t=true):inst [] 0 t=t:=JW [] t 0 hv hc
section
variable {R:RT}
theorem mo {s:AQ} {m:Option Nat} {K:AV->Prop} (h:K (BB false)):eC s (U7 (.pv (.sc (.pointer none)))) m .neq (.pv (.sc (.pointer none))) (.pv (.sc (.pointer none))) K:=Ba
theorem ABu {s:AQ} {n:Option Nat} {id off:Nat} {K:AV->Prop} (ha:alive s id=true) (h:K (BB true)):eC s n (some 0) .neq (.ptr id off) (.pv (.sc (.pointer none))) K:=by
 simp only[eC,U8,Gv];refine⟨?_,h⟩
 simp_all[sameKind,EI]
def Gb (s:AQ) (c d:List AV):AQ:=⟨s.bs++[c]++[Z4]++[d],s.ts⟩
theorem I0 {s:AQ} {c d:List AV}:(Gb s c d).bs[s.bs.length]?=some c/\(Gb s c d).bs[s.bs.length+1]?=some Z4/\(Gb s c d).bs[s.bs.length+2]?=some d:=by simp[*,Gb]
theorem U9 {s:AQ} {c d:List AV} {p:Nat} {x:List AV} (h:s.bs[p]?=some x):(Gb s c d).bs[p]?=some x:=Ap (Ap (Ap h _) _) _
theorem TX {s:AQ} (hs:BP s) {c d:List AV} (hc:Ag 0 c=true) (hd:Ag 0 d=true):BP (Gb s c d):=by
 intro b hb;simp only[Gb,B7,Dl] at hb;rcases hb with ((hb|rfl)|rfl)|rfl
 .exact Bg (by simp[Gb]) b (hs b hb)
 .exact Bg AD _ hc
 .rfl
 .exact Bg AD _ hd
theorem LY {s:AQ} {u:Nat} {fn:AV} (hfn:close [] 0 0 fn=none) {k' i':Int} {n':List UInt8} {a:AV} {rows:List (List PV)} {Post:AV->Prop} (ha:A0 a rows)
  (hh:Dc (BB (k'==5)) (
   DY (Gb s [AG k',SS n',AG i',a] [AG k',SS n',AG i',.AE []]) (.ptr s.bs.length 0) 2 λa19=>
   Df (env R) (Gb s [AG k',SS n',AG i',a] [AG k',SS n',AG i',.AE []]) none a19 λa20=>
   D0 (env R) (CT (env R) 121 s.bs.length s.bs.length s.ts.length) (fn) [a20,AG u] (Gb s [AG k',SS n',AG i',a] [AG k',SS n',AG i',.AE []]) λa22 VA=>
   JU a22 0 λa23=>
   JU a22 1 λa24=>
   eC VA (U7 a23) (some 0) .neq a23 (.pv (.sc (.pointer none))) λa26=>
   Dc a26 (
   JV VA a23 λa28=>
   Df (env R) VA (some 4) a28 λa29=>
   D0 (env R) (CT (env R) 121 s.bs.length s.bs.length s.ts.length) (.func (.func 146) [] []) [a29] VA λa30 rU=>
   HM (CT (env R) 121 s.bs.length s.bs.length s.ts.length) rU 4 (.ptr (s.bs.length+1) 0) a30 λrT=>
   Df (env R) rT (some 4) (.ptr (s.bs.length+1) 0) λr=>
   QI s.bs.length s.ts.length Post r rT) (
   jb R s.bs.length s.bs.length s.ts.length (AG u) (fn) (.ptr s.bs.length 0) (.ptr (s.bs.length+1) 0) (.ptr (s.bs.length+2) 0) a24 VA (QI s.bs.length s.ts.length Post))) (
   aI R s.bs.length s.bs.length s.ts.length (AG u) (fn) (.ptr s.bs.length 0) (.ptr (s.bs.length+1) 0) (.ptr (s.bs.length+2) 0) (Gb s [AG k',SS n',AG i',a] [AG k',SS n',AG i',.AE []]) (QI s.bs.length s.ts.length Post))) :
  ∃r,Post r/\∀L,BG (env R) L 121 [.agg [AG k',SS n',AG i',a],AG u,fn] s r s:=by
 refine i121 (by simp[*]) (AIS ?_);refine Bu (cs:=[AG k',SS n',AG i',a]) rfl (by simp[ha.ok]) (Bm ?_);refine Af (cs:=[AG k',SS n',AG i',a]) (Ap (Az _ _) _) rfl (Bm ?_);refine Bn (old:=Z4) (Az _ _) rfl rfl AK AD (by simp[ha.ok]) (.inl AD) ?_;have e:((s.bs++[[AG k',SS n',AG i',a]]++[Z4]++[Z4]).set (s.bs++[[AG k',SS n',AG i',a]]++[Z4]).length [AG k',SS n',AG i',a])=(Gb s [AG k',SS n',AG i',a] [AG k',SS n',AG i',a]).bs:=by grind[Gb]
 have l1:(s.bs++[[AG k',SS n',AG i',a]]++[Z4]).length=s.bs.length+2:=AD;have l2:(s.bs++[[AG k',SS n',AG i',a]]).length=s.bs.length+1:=AD;simp only at e l1 l2 ⊢;rw[e];simp only[l1,l2];obtain⟨g0,g1,g2⟩:=I0 (s:=s) (c:=[AG k',SS n',AG i',a]) (d:=[AG k',SS n',AG i',a]);refine AM (AU g2) (C3 (off:=3) g2 (AY 4) rfl AD rfl (.inl AD) ?_);have e2:(Gb s [AG k',SS n',AG i',a] [AG k',SS n',AG i',a]).bs.set (s.bs.length+2) ([AG k',SS n',AG i',a].set 3 (.AE []))=(Gb s [AG k',SS n',AG i',a] [AG k',SS n',AG i',.AE []]).bs:=by simp[*,Gb]
 show DY ⟨(Gb s [AG k',SS n',AG i',a] [AG k',SS n',AG i',a]).bs.set (s.bs.length+2) ([AG k',SS n',AG i',a].set 3 (.AE [])),s.ts⟩ _ _ _
 rw[e2];obtain⟨g0,g1,g2⟩:=I0 (s:=s) (c:=[AG k',SS n',AG i',a]) (d:=[AG k',SS n',AG i',.AE []]);exact AM (AU g0) (AX g0 rfl (Av hh))
theorem QD {s:AQ} {p:Nat} {cp:List AV} {fn:AV} {ts ls:List Ty} {a:AV} (ha:A0 a (AZ ts)) (hl:ts.length<2 ^ 38) (Sn:ls.length=ts.length) {k i0 i':Int} {n:List UInt8} {u:Nat} (hu:u<2 ^ 60) (hs:BP s) (hp:s.bs[p]?=some cp)
  (ih:∀(q:Nat) (t l:Ty),ts[q]?=some t->ls[q]?=some l->∀s,BP s->s.bs[p]?=some cp->∃r,A8 l r/\∀L,BG (env R) L 121 [.agg ((Ah t).map .pv),AG (u+ER k q:Nat),fn] s r s)
  {Post:AV->Prop} (hP:∀r,A8 (.mk k n i' ls) r->Post r) :
  aI R s.bs.length s.bs.length s.ts.length (AG u) fn (.ptr s.bs.length 0) (.ptr (s.bs.length+1) 0) (.ptr (s.bs.length+2) 0) (Gb s [AG k,SS n,AG i0,a] [AG k,SS n,AG i',.AE []]) (QI s.bs.length s.ts.length Post):=by
 obtain⟨g0,g1,g2⟩:=I0 (s:=s) (c:=[AG k,SS n,AG i0,a]) (d:=[AG k,SS n,AG i',.AE []]);exact AIT (AM (AU g0) (AX g0 rfl (Au (n:=ts.length) (by rw[ha.BD,Ab]) (we ha hl Sn hu hs hp ih hP ts.length 0 _ (.AE []) AA (TX hs (by simp[Ag,Ax,ha.Ax]) AR) (U9 hp) g0 g1 g2 (.inl rfl) (AY _)))))
theorem wm {s:AQ} {fn:AV} {u:Nat} {n:List UInt8} {i i':Int} {a:AV} (ha:A0 a []) (hu:u<2 ^ 60) (hs:BP s) {p:Nat} {cp:List AV} (hp:s.bs[p]?=some cp) {Post:AV->Prop} (hP:∀r,A8 (.mk 5 n i' []) r->Post r) :
  jb R s.bs.length s.bs.length s.ts.length (AG u) fn (.ptr s.bs.length 0) (.ptr (s.bs.length+1) 0) (.ptr (s.bs.length+2) 0) (AG i') (Gb s [AG 5,SS n,AG i,a] [AG 5,SS n,AG i,.AE []]) (QI s.bs.length s.ts.length Post):=by
 obtain⟨g0,g1,g2⟩:=I0 (s:=s) (c:=[AG 5,SS n,AG i,a]) (d:=[AG 5,SS n,AG i,.AE []]);refine AIU (AM (AU g2) (C3 g2 AD rfl AD rfl (.inl AD) ?_));have e3:(Gb s [AG 5,SS n,AG i,a] [AG 5,SS n,AG i,.AE []]).bs.set (s.bs.length+2) ([AG 5,SS n,AG i,.AE []].set 2 (AG i'))=(Gb s [AG 5,SS n,AG i,a] [AG 5,SS n,AG i',.AE []]).bs:=by simp[*,Gb]
 show aI R _ _ _ _ _ _ _ _ ⟨(Gb s [AG 5,SS n,AG i,a] [AG 5,SS n,AG i,.AE []]).bs.set (s.bs.length+2) ([AG 5,SS n,AG i,.AE []].set 2 (AG i')),s.ts⟩ _
 rw[e3];exact QD (ts:=[]) (ls:=[]) ha AD rfl hu hs hp AD hP
theorem mq {v u:Nat} {k:Int}:∀(ts:List Ty) (b q:Nat) (l:Ty),(CC (Kw v u k b ts))[q]?=some l->∃t,ts[q]?=some t/\(CC ts)[q]?=some (ren t)/\l=ren (sub v (u+ER k (b+q)) t)
 | [],_,_,_,h=>by grind[Kw,CC]
 | t::ts,b,0,l,h=>by grind[Kw,CC]
 | t::ts,b,q+1,l,h=>by
  simp only[Kw,CC,IX] at h ⊢;obtain⟨t',h1,h2,h3⟩:=mq ts (b+1) q l h
  grind
theorem eD {v u:Nat} {k:Int}:∀(ts:List Ty) (b:Nat),(CC (Kw v u k b ts)).length=(CC ts).length
 | [],_=>rfl
 | t::ts,b=>by simp[Kw,CC,eD ts (b+1)]
mutual
theorem eE {N v p:Nat}:∀(t:Ty),size t<2 ^ 38->GC N t=true->SJ t=true->∀(u:Nat),u+size t<2 ^ 60->∀(x:AV),A8 (ren t) x->∀(s:AQ),BP s->s.bs[p]?=some [AG 2,SS (36::HW v),AG 0,.AE []] ->
  ∃r,A8 (ren (sub v u t)) r/\∀L,BG (env R) L 121 [x,AG u,APi p] s r s
 | .mk k n i ts,h,ht,VC,u,hu,x,hx,s,hs,hp=>by
  have LK:=(BA.1 hp).1;simp only[size] at h hu;rw[GC] at ht;rw[SJ] at VC
  by_cases h7:k=7
  .subst h7
   simp only[CZ,AN,AI,GN] at ht;have hts:=ht.1;subst hts;have er:ren (.mk 7 n i [])=.mk 2 (36::HW i.toNat) 0 []:=rfl;have es:ren (sub v u (.mk 7 n i []))=.mk 2 (36::HW i.toNat) 0 []:=rfl;rw[er] at hx;rw[es];obtain⟨a,rfl,ha⟩:=hx;exact LY rfl ha (Ar (QD (ts:=[]) (ls:=[]) ha AD rfl AA hs hp AD λr hr=>hr))
  .have er:=G2 k n i ts h7
   rw[er] at hx;obtain⟨a,rfl,ha⟩:=hx
   by_cases h5:k=5
   .subst h5
    simp only[CZ,NY,GL,AI,GN] at VC;have hts:=VC.1.1.1;have hi:i<2 ^ 60:=AB;subst hts;refine LY rfl ha (A1 ?_);obtain⟨g0,g1,g2⟩:=I0 (s:=s) (c:=[AG 5,SS n,AG i,a]) (d:=[AG 5,SS n,AG i,.AE []]);have hok:BP (Gb s [AG 5,SS n,AG i,a] [AG 5,SS n,AG i,.AE []]):=TX hs (by simp[Ag,Ax,ha.Ax]) AR;have gp:=U9 (c:=[AG 5,SS n,AG i,a]) (d:=[AG 5,SS n,AG i,.AE []]) hp;refine AM (AU g0) (AX g0 rfl ?_);refine⟨_,_,AIK i u AA hi p hok AB _,CO rfl (CO rfl ?_)⟩;have So:sub v u (.mk 5 n i [])=bif i==(u:Int) then ph v else bif decide ((u:Int)<i) then .mk 5 n (i-1) [] else .mk 5 n i []:=AR
    rw[So];cases he:(i==(u:Int)) with
    | true=>
     simp only[AN];refine ABu (AU gp) (A1 (C2 (AU gp) (Af gp rfl ?_)));have hc:=Uz (R:=R) (ren (ph v)) Ba (.agg [AG 2,SS (36::HW v),AG 0,.AE []]) ⟨_,rfl,.AE _⟩;refine AH hc ?_;rintro w ⟨b,rfl,hb⟩;refine Bn g1 rfl rfl AK AD (by simp[hb.ok]) (.inl AD) (Af (BZ g1) rfl ?_);exact⟨.agg [AG 2,SS (36::HW v),AG 0,b],by simp[hb.close],⟨b,rfl,hb⟩⟩
    | false=>
     simp only[AL];refine mo (Ar (wm ha AA hs hp λr hr=>?_));cases hd:decide ((u:Int)<i) with
     | true=>rw[hd] at hr; exact hr
     | false=>rw[hd] at hr; exact hr
   .have b5:(k==5)=false:=by grind
    have b7:(k==7)=false:=AB;have es:ren (sub v u (.mk k n i ts))=.mk k n i (CC (Kw v u k 0 ts)):=by grind[sub,G2]
    rw[es];refine LY rfl ha ?_;rw[b5];rw[b7] at ht;simp only[AL,AI] at ht VC;have Sj:=BS ts;refine Ar (QD ha (by grind[Bv]) (eD ts 0) AA hs hp ?_ λr hr=>hr);intro q t l hq wk s' hs' hp';obtain⟨t',h1,h2,h3⟩:=mq ts 0 q l wk;rw[h2] at hq;cases hq;rw[h3];have hbn:=Q6 k q;rw[CI];exact X4 ts AA ht.2.2 VC.2 (u+ER k q) AA t' (A5 h1) s' hs' hp'
theorem X4 {N v p:Nat}:∀(l:List Ty),Ac l<2 ^ 38->Gg N l=true->QC l=true->∀(u:Nat),u+Ac l<2 ^ 60->∀t∈l,∀(s:AQ),BP s->s.bs[p]?=some [AG 2,SS (36::HW v),AG 0,.AE []] ->
  ∃r,A8 (ren (sub v u t)) r/\∀L,BG (env R) L 121 [.agg ((Ah (ren t)).map .pv),AG u,APi p] s r s
 | [],_,_,_,_,_,_,h=>by cases h
 | e::l,h,ht,VC,u,hu,t,hm=>by
  simp only[Ac] at h hu;simp only[Gg,AI] at ht;simp only[QC,AI] at VC;rcases A3.1 hm with h' | h'
  .rw[h']
   exact eE e AA ht.1 VC.1 u AA _ (A8.Bk _)
  .exact X4 l AA ht.2 VC.2 u AA t h'
end
theorem Sq {N v:Nat} {t:Ty} (h:size t<2 ^ 38) (ht:GC N t=true) (hv:SJ t=true) {x:AV} (hx:A8 (ren t) x):Ae (env R) 89 [x,phA v] λr=>A8 (ren (sub v 0 t)) r:=by
 obtain⟨k',n',i',ts',hr⟩:∃k n i ts,ren t=.mk k n i ts:=by
  obtain⟨k,n,i,ts⟩:=ren t;exact⟨k,n,i,ts,rfl⟩
 have hx':=hx;rw[hr] at hx;obtain⟨a,rfl,ha⟩:=hx;refine e89 (u0:=.agg [AG k',SS n',AG i',a]) (u1:=phA v) (by simp[ha.close,BK,close]) (APj ?_);refine Bu (cs:=[AG k',SS n',AG i',a]) rfl (by simp[ha.ok]) (Bu (cs:=[AG 2,SS (36::HW v),AG 0,.AE []]) rfl AD (Bm (Af (cs:=[AG k',SS n',AG i',a]) rfl rfl ?_)))
 have hs:BP ⟨[[AG k',SS n',AG i',a],[AG 2,SS (36::HW v),AG 0,.AE []],Z4],[]⟩:=by
  intro b hb;simp only[A3,D4,D5] at hb;rcases hb with rfl|rfl|rfl <;> simp[Ag,Ax,ha.Ax]
 obtain⟨r,h1,h2⟩:=eE (R:=R) (v:=v) (p:=1) t h ht hv 0 AA _ hx' ⟨[[AG k',SS n',AG i',a],[AG 2,SS (36::HW v),AG 0,.AE []],Z4],[]⟩ hs rfl;refine⟨r,_,h2 _,?_⟩;have bV:=h1
 obtain⟨k2,n2,i2,KS,N4⟩:∃k n i ts,ren (sub v 0 t)=.mk k n i ts:=by
  obtain⟨k,n,i,ts⟩:=ren (sub v 0 t);simp
 rw[N4] at h1;obtain⟨b,rfl,hb⟩:=h1;refine Bn (old:=Z4) (id:=2) rfl rfl rfl AK (AO _) (by simp[hb.ok]) (.inl (AO _)) (Af (cs:=[AG k2,SS n2,AG i2,b]) rfl rfl ?_);exact⟨.agg [AG k2,SS n2,AG i2,b],by simp[hb.close],bV⟩
end
mutual
def tX:Ty->Bool
 | .mk _ _ _ ts=>decide (ts.length<2 ^ 38)&&Ws ts
def Ws:List Ty->Bool
 | []=>true
 | t::l=>tX t&&Ws l
end
mutual
theorem jc:∀t:Ty,size t<2 ^ 38->tX t=true
 | .mk k n i ts,h=>by
  simp only[size] at h;have Sj:=BS ts;rw[tX,mz ts AA,Aq AA];rfl
theorem mz:∀l:List Ty,Ac l<2 ^ 38->Ws l=true
 | [],_=>by rw[Ws]
 | t::l,h=>by
  simp only[Ac] at h;rw[Ws,jc t AA,mz l AA];rfl
end
def shT (t:Ty):Prop:=tX t=true/\size t<2 ^ 59
theorem shT.of {t:Ty} (h:size t<2 ^ 38):shT t:=⟨jc t h,AA⟩
section
variable {R:RT}
abbrev APk (p:Nat):AV:=.func (.func 134) [] [.ptr p 0]
theorem AIW (i u:Int) (h0:-(2 ^ 60)<=i) (h1:i<2 ^ 60) (h2:0<=u) (h3:u<2 ^ 60) (p:Nat) {s:AQ} (hs:BP s) (hp:s.bs[p]?=some [.AE []]) (L:BI) :
  BG (env R) L 134 [AG i,AG u,.ptr p 0] s (.tuple [.pv (.sc (.pointer none)),AG i]) s:=by
 have fin:∀(rr:Bool),QM rr s.bs.length (λv s'=>v=.tuple [.pv (.sc (.pointer none)),AG i]/\s'=s) (.tuple [.pv (.sc (.pointer none)),AG i]) s:=by
  intro rr;have e:s.bs.take s.bs.length=s.bs:=O9;refine J7 (ds:=[.pv (.sc (.pointer none)),AG i]) ?_ ?_ ?_
  .rw[e,DE]
   exact hs
  all_goals simp
 obtain⟨v,s',⟨rfl,rfl⟩,hc⟩:=AZk (R:=R) (L:=L) (s:=s) (t0:=AG i) (t1:=AG u) (t2:=.ptr p 0) (Post:=λv s'=>v=.tuple [.pv (.sc (.pointer none)),AG i]/\s'=s) AR (AIX (I7 AA AA (L9 (by
  by_cases h:i>=u
  .rw[Aq h]
   refine Ak (Ak (AX hp rfl (Ak (Au (n:=0) rfl (Ak (Ao (pk ?_)))))));rw[A2 AA];exact Ar (wo (fin _))
  .rw[A2 h]
   exact Bf (Bf (Bf (Bf (pk (Ar (wo (fin _)))))))))))
 omega
mutual
theorem X5 {p:Nat}:∀(t:Ty),tX t=true->SJ t=true->∀(u:Nat),u+size t<2 ^ 60->∀(x:AV),A8 t x->∀(s:AQ),BP s->s.bs[p]?=some [.AE []] ->
  ∃r,A8 t r/\∀L,BG (env R) L 121 [x,AG u,APk p] s r s
 | .mk k n i ts,h,VC,u,hu,x,hx,s,hs,hp=>by
  simp only[size] at hu;rw[tX,AI,Cq] at h;obtain⟨hl38,h⟩:=h;rw[SJ] at VC;obtain⟨a,rfl,ha⟩:=hx
  by_cases h5:k=5
  .subst h5
   simp only[CZ,NY,GL,AI,GN,Cq] at VC;have hts:=VC.1.1.1;subst hts;refine LY rfl ha (A1 ?_);obtain⟨g0,g1,g2⟩:=I0 (s:=s) (c:=[AG 5,SS n,AG i,a]) (d:=[AG 5,SS n,AG i,.AE []]);have hok:BP (Gb s [AG 5,SS n,AG i,a] [AG 5,SS n,AG i,.AE []]):=TX hs (by simp[Ag,Ax,ha.Ax]) AR;exact AM (AU g0) (AX g0 rfl ⟨_,_,AIW i u VC.1.1.2 VC.1.2 AA AA p hok (U9 hp) _,CO rfl (CO rfl (mo (Ar (wm ha AA hs hp λr hr=>hr))))⟩)
  .have b5:(k==5)=false:=by grind
   refine LY rfl ha ?_;rw[b5];simp only[AI] at VC;have Sj:=BS ts;refine Ar (QD ha AA rfl AA hs hp ?_ λr hr=>hr);intro q t l hq wk s' hs' hp';rw[hq] at wk;cases wk;have hbn:=Q6 k q;exact VD ts h VC.2 (u+ER k q) AA t (A5 hq) s' hs' hp'
theorem VD {p:Nat}:∀(l:List Ty),Ws l=true->QC l=true->∀(u:Nat),u+Ac l<2 ^ 60->∀t∈l,∀(s:AQ),BP s->s.bs[p]?=some [.AE []] ->
  ∃r,A8 t r/\∀L,BG (env R) L 121 [.agg ((Ah t).map .pv),AG u,APk p] s r s
 | [],_,_,_,_,_,h=>by cases h
 | e::l,h,VC,u,hu,t,hm=>by
  simp only[Ac] at hu;rw[Ws,AI] at h;simp only[QC,AI] at VC;rcases A3.1 hm with h' | h'
  .rw[h']
   exact X5 e h.1 VC.1 u AA _ (A8.Bk _)
  .exact VD l h.2 VC.2 u AA t h'
end
theorem aJ {t:Ty} (h:shT t) (hv:SJ t=true) {x:AV} (hx:A8 t x):Ae (env R) 107 [x,.AE []] λr=>A8 t r:=by
 obtain⟨k,n,i,ts⟩:=t;have hx':=hx;obtain⟨a,rfl,ha⟩:=hx;refine AZl (u0:=.agg [AG k,SS n,AG i,a]) (u1:=.AE []) (by simp[ha.close,BK,close]) (AIY ?_);refine Bu (cs:=[AG k,SS n,AG i,a]) rfl (by simp[ha.ok]) (Bu (cs:=[.AE []]) rfl AD (Bm (Af (cs:=[AG k,SS n,AG i,a]) rfl rfl ?_)))
 have hs:BP ⟨[[AG k,SS n,AG i,a],[.AE []],Z4],[]⟩:=by
  intro b hb;simp only[A3,D4,D5] at hb;rcases hb with rfl|rfl|rfl <;> simp[Ag,Ax,ha.Ax]
 obtain⟨r,h1,h2⟩:=X5 (R:=R) (p:=1) (.mk k n i ts) h.1 hv 0 (by have:=h.2; omega) _ hx' ⟨[[AG k,SS n,AG i,a],[.AE []],Z4],[]⟩ hs rfl;refine⟨r,_,h2 _,?_⟩;obtain⟨b,rfl,hb⟩:=h1;refine Bn (old:=Z4) (id:=2) rfl rfl rfl AK (AO _) (by simp[hb.ok]) (.inl (AO _)) (Af (cs:=[AG k,SS n,AG i,b]) rfl rfl ?_);exact⟨.agg [AG k,SS n,AG i,b],by simp[hb.close],⟨b,rfl,hb⟩⟩
theorem SK {t:Ty} (h:shT t) (hv:SJ t=true) {x:AV} (hx:A8 t x):Ae (env R) 70 [x] λr=>A8 t r:=by
 obtain⟨k,n,i,ts⟩:=t;have hx':=hx;obtain⟨a,rfl,ha⟩:=hx;refine e70 (u0:=.agg [AG k,SS n,AG i,a]) (by simp[ha.close]) (APl ?_);refine Bu (cs:=[AG k,SS n,AG i,a]) rfl (by simp[ha.ok]) (Bm (Af (cs:=[AG k,SS n,AG i,a]) rfl rfl (AH (aJ h hv hx') ?_)));rintro r ⟨b,rfl,hb⟩;refine Bn (old:=Z4) (id:=1) rfl rfl rfl AK (AO _) (by simp[hb.ok]) (.inl (AO _)) (Af (cs:=[AG k,SS n,AG i,b]) rfl rfl ?_);exact⟨.agg [AG k,SS n,AG i,b],by simp[hb.close],⟨b,rfl,hb⟩⟩
end
theorem QE {n:Int} {s:AQ} {K:AV->AQ->Prop} (hK:K (.AE [[.sc (.int .i64 n)]]) s):GY false s 1 [(AG 0)] 1 [(0,1,AG n)] K:=by
 simp[GY,Fx,CJ];exact hK
theorem ABv {L:BI} {s:AQ} {a:AV} {l:List Int} {n:Int} {K:AV->AQ->Prop} (ha:Dn 0 s.ts 3 a (Ad l)) (El:L.rt=0) (hl:l.length<2 ^ 40) (h:∀a' ts',Dn 0 ts' 3 a' (Ad (l++[n]))->K a' ⟨s.bs,ts'⟩) :
  HB false L s 3 1 8 a (.AE [[.sc (.int .i64 n)]]) K:=by
 have hl':=BU l;have:=M9 (L:=L) (bs:=s.bs) (ts:=[]) (x:=s.ts) (e:=3) (k:=1) (bytes:=8) (a:=a) (rows:=Ad l) (row:=[.sc (.int .i64 n)]) (K:=K) AB AA (by grind[Ad]) rfl AA AD AA AA (by grind[Ad])
 simp_all
theorem ED {bs:List (List AV)} {n:Nat} (h:n<=bs.length) (b:List AV):(bs++[b]).take n=bs.take n:=ZA h
theorem CN {bs X:List (List AV)} {n j:Nat} {v:List AV} (h:bs.take n=X) (hj:X[j]?=some v):bs[j]?=some v:=AB
theorem EY {bs X:List (List AV)} {n j:Nat} {c:List AV} (h:bs.take n=X):(bs.set j c).take n=X.set j c:=by grind[List.take_set]
theorem aK {rr:Bool} {A:Nat} {c:List AV} {s0:AQ} {bs:List (List AV)} {ts:List (Nat×Nat)} {Post:AV->AQ->Prop} (h0:BP s0) (hT:bs.take s0.bs.length=s0.bs.set A c) (hc:Ag s0.bs.length c=true) (hP:Post (.tuple []) ⟨s0.bs.set A c,ts⟩):QM rr s0.bs.length Post (.tuple []) ⟨bs,ts⟩:=by
 refine J7 (ds:=[]) ?_ rfl ?_
 .have:=BP.set h0 hc ts (j:=A)
  rw[DE];intro b hb;have:=this b AB
  grind
 grind
section
variable {R:RT}
abbrev jd (A F:Nat):AV:=.func (.func 56) [] [.ptr A 0,.ptr F 0]
def wq (R:RT) (A F:Nat) (x:AV) (l m:List Int) (s:AQ):Prop:=∀(L:BI) (c:AV),L.ro=0->L.rt=0->s.bs[A]?=some [c]->Dn 0 s.ts 3 c (Ad l) ->
 ∃v s',(∃c' ts',Dn 0 ts' 3 c' (Ad (l++m))/\v=.tuple []/\s'=⟨s.bs.set A [c'],ts'⟩)/\BG (env R) L 56 [x,.ptr A 0,.ptr F 0] s v s'
theorem wu {A F:Nat} {ts:List Ty} {a:AV} (ha:A0 a (AZ ts)) (hl:ts.length<2 ^ 38) {l:List Int} {s0:AQ} (hs0:BP s0) (hA:A<s0.bs.length) (hF:s0.bs[F]?=some [jd A F]) (hAF:A≠F)
  (ih:∀t∈ts,∀(l:List Int) (s:AQ),BP s->s.bs[F]?=some [jd A F]->l.length+(Al t).length<2 ^ 40->wq R A F (.agg ((Ah t).map .pv)) l (Al t) s)
  (hb:l.length+(Bs ts).length<2 ^ 40) {rr:Bool} {Post:AV->AQ->Prop} (hP:∀c' ts',Dn 0 ts' 3 c' (Ad (l++Bs ts))->Post (.tuple []) ⟨s0.bs.set A [c'],ts'⟩) :
  ∀(j q:Nat) (done:List Int) (bs:List (List AV)) (tk:List (Nat×Nat)) (c:AV),q+j=ts.length->done++Bs (ts.drop q)=l++Bs ts->BP ⟨bs,tk⟩->s0.bs.length<=bs.length->bs.take s0.bs.length=s0.bs.set A [c]->Dn 0 tk 3 c (Ad done) ->
   AED R 0 0 0 (.ptr F 0) a (AG ts.length) (AG q) ⟨bs,tk⟩ (QM rr s0.bs.length Post):=by
 intro j
 induction j with
 | zero=>
  intro q done bs tk c hi hd hs hn hT hc;refine AEE (Ao ?_);rw[A2 AA];rw[CA AA,Bs,Gy] at hd;refine Ar (aK hs0 hT (by simp[Ag,hc.A4.Ax]) (hP c tk ?_))
  grind
 | succ j D9=>
  intro q done bs tk c hi hd hs hn hT hc;refine AEE (Ao ?_);rw[Aq AA];obtain⟨t,ht⟩:∃t,ts[q]?=some t:=⟨_,Ay AA⟩;have hrl:((Ah t).map AV.pv).length=4:=by grind[Aj]
  have hro:=Cx t
  have Lz:Ag (bs.length+1) ((Ah t).map AV.pv)=true:=by
   obtain⟨k1,n1,i1,t1⟩:=t;rfl
  refine A1 (APm (BR ha (row:=Ah t) AA (by grind[BL]) (Aj _) AA (Ce (Bm ?_))));have iI:=ih t (A5 ht);have hdr:ts.drop q=t::ts.drop (q+1):=drop_cons ht;rw[hdr,Bs,<-Db] at hd;have hdl:=Bi List.length hd;simp only[Bo] at hdl;generalize (Ah t).map AV.pv=row at hrl hro Lz iI;refine Bn (Az bs Z4) hrl rfl AK (AO _) hro (.inl (AO _)) ?_;have e:(bs++[Z4]).set bs.length row=bs++[row]:=AD;rw[e];have gF:(s0.bs.set A [c])[F]?=some [jd A F]:=AB;have gA:(s0.bs.set A [c])[A]?=some [c]:=by rw[Ca AA]
  have hs':BP ⟨bs++[row],tk⟩:=BP.app (s:=⟨bs,tk⟩) hs Lz;have je:=(ED hn row).trans hT;obtain⟨v,s',⟨c',ts',h1,rfl,rfl⟩,h3⟩:=iI done ⟨bs++[row],tk⟩ hs' (CN je gF) AA (CT (env R) 56 0 0 0) c rfl rfl (CN je gA) hc;refine AX (Ap (CN hT gF) row) rfl (Af (Az bs row) hrl ⟨_,_,h3,APn (Be AA AA ?_)⟩);have rV:=EY (j:=A) (c:=[c']) je;rw[IY] at rV;exact D9 (q+1) (done++Al t) _ ts' c' AA hd (BP.set (s:=⟨bs++[row],tk⟩) hs' (by simp[Ag,Ax,h1.A4.Ax]) _) AB rV h1
mutual
theorem eF {A F:Nat} (hAF:A≠F):∀(t:Ty),size t<2 ^ 38->∀(x:AV),A8 t x->∀(l:List Int) (s:AQ),BP s->s.bs[F]?=some [jd A F]->l.length+(Al t).length<2 ^ 40->wq R A F x l (Al t) s
 | .mk k n i ts,h,x,hx,l,s,hs,hF,hb,L,c,hro,El,hA,hc=>by
  obtain⟨a,rfl,ha⟩:=hx;simp only[size] at h;rw[Al] at hb ⊢;have lA:=(BA.1 hA).1;have Sj:=BS ts;refine m56 (by simp[C7,FR]) ?_;rw[hro,El];have hs1:BP ⟨s.bs++[[AG k,SS n,AG i,a]],s.ts⟩:=BP.app hs (by simp[Ag,Ax,ha.Ax]);have g:=Az s.bs [AG k,SS n,AG i,a];refine APo (Bu (cs:=[AG k,SS n,AG i,a]) rfl (by simp[ha.ok]) (AM (AU g) (AX g rfl (Av ?_))));have gA:=Ap hA [AG k,SS n,AG i,a];have same:s.bs.set A [c]=s.bs:=by grind[List.set_getElem_self]
  have tkn:(s.bs++[[AG k,SS n,AG i,a]]).take s.bs.length=s.bs.set A [c]:=AB;cases h5:(k==5) with
  | true=>
   rw[h5] at hb;refine A1 (AX gA rfl (AM (AU g) (AX g rfl (QE ⟨AK,ABv hc rfl AA λc' ts' LH=>?_⟩))));refine C3 gA AD LH.A4.cells (AO _) LH.A4.ok (.inl (AO _)) ?_;have hT:=EY (j:=A) (c:=[c']) tkn;rw[IY] at hT;exact aK hs hT (by simp[Ag,LH.A4.Ax]) ⟨c',ts',LH,rfl,rfl⟩
  | false=>
   refine Ar (Av ?_);cases h3:(k==3) with
   | true=>
    rw[h5,h3] at hb;refine A1 (AM (AU g) (AX g rfl (Au (n:=ts.length) (by rw[ha.BD,Ab]) ?_)));exact wu (l:=l) ha AA hs lA hF hAF (λt hm l s hs hF hb=>X6 hAF ts AA t hm l s hs hF hb) hb (λc' ts' LH=>⟨c',ts',LH,rfl,rfl⟩) ts.length 0 l _ s.ts c AA AD hs1 AD tkn hc
   | false=>
    refine Ar (aK hs tkn (by simp[Ag,hc.A4.Ax]) ⟨c,s.ts,?_,rfl,rfl⟩)
    grind
theorem X6 {A F:Nat} (hAF:A≠F):∀(ts:List Ty),Ac ts<2 ^ 38->∀t∈ts,∀(l:List Int) (s:AQ),BP s->s.bs[F]?=some [jd A F]->l.length+(Al t).length<2 ^ 40->wq R A F (.agg ((Ah t).map .pv)) l (Al t) s
 | [],_,_,h=>by cases h
 | e::l,h,t,hm=>by
  simp only[Ac] at h;rcases A3.1 hm with h' | h'
  .rw[h']
   exact eF hAF e AA _ (A8.Bk _)
  .exact X6 hAF l AA t h'
end
def Dm (b:Br):List PV:=.list (AZ b.bounds)::Ah b.body
def N5 (b:Br) (x:AV):Prop:=∃a y,x=.agg (a::y)/\A0 a (AZ b.bounds)/\A8 b.body (.agg y)
theorem N5.Bk (b:Br):N5 b (.agg ((Dm b).map .pv)):=⟨_,_,rfl,.list _,A8.Bk _⟩
theorem aL {E:Env} {s:AQ} {id:Nat} {a:AV} {cs:List AV} {K:AV->Prop} (hb:s.bs[id]?=some (a::cs)) (hk:cs.length=4) (h:K (.agg cs)):Df E s (some 4) (.ptr id 1) K:=by
 simp only[Df,hb,wO,DQ];refine⟨by simp[hk],?_⟩
 show K (.agg (cs.take 4))
 rw[CV AA];exact h
theorem A8.cells {t:Ty} {y:List AV} (h:A8 t (.agg y)):y.length=4/\y.all A7=true/\Ag 0 y=true/\∀bs n m,BK bs n m y=some y:=by
 obtain⟨k,n,i,ts⟩:=t;obtain⟨a,hy,ha⟩:=h;cases hy;exact⟨rfl,by simp[ha.ok],by simp[Ag,Ax,ha.Ax],λbs n m=>by simp[ha.close,BK,close]⟩
theorem Oh {b:Br} (h:size b.body<2 ^ 38) (hc:(Al b.body).length<2 ^ 40) {x:AV} (hx:N5 b x):Ae (env R) 23 [x] λr=>A0 r (Ad (Al b.body)):=by
 obtain⟨a,y,rfl,ha,hy⟩:=hx;obtain⟨h4,hok,hid,E6⟩:=hy.cells;refine e23 (u0:=.agg (a::y)) (by simp[BK,close,ha.close,E6]) (APp ?_);refine Bu (cs:=a::y) rfl (by simp[ha.ok]; grind) (Bm (Bm ?_));refine C3 (id:=2) (off:=0) (cs:=[.pv (.sc .nilFunc)]) rfl AK rfl (AO _) rfl (.inl (AO _)) ?_;refine AX (id:=2) rfl rfl (AM (AU (c:=a) (cs:=y) rfl) ?_)
 show Df _ _ _ (.ptr 0 1) _
 refine aL rfl h4 ?_
 have hs:BP ⟨[a::y,[.AE []],[jd 1 2]],[]⟩:=by
  intro c hc;simp only[A3,D4,D5] at hc;rcases hc with rfl|rfl|rfl
  .exact Bg (AO _) _ (by simp[Ag,ha.Ax,hid])
  all_goals rfl
 obtain⟨v,s',⟨c',ts',h1,rfl,rfl⟩,h3⟩:=eF (R:=R) (A:=1) (F:=2) AK b.body h _ hy [] ⟨[a::y,[.AE []],[jd 1 2]],[]⟩ hs rfl AB (CT (env R) 23 0 0 0) (.AE []) rfl rfl rfl (.inl rfl);refine⟨_,_,h3,AX (id:=1) rfl rfl ?_⟩;obtain⟨r,c1,c2⟩:=MA h1 _ 0;exact⟨r,c1,AB⟩
theorem Kk {b:Br} (h:size b.body<2 ^ 38) (hl:b.bounds.length<2 ^ 38) (hc:(Al b.body).length<2 ^ 40) {x:AV} (hx:N5 b x):Ae (env R) 46 [x] λr=>r=BB (decide (b.bounds.length<=6)&&decide ((Al b.body).length<=3)):=by
 have hx':=hx;obtain⟨a,y,rfl,ha,hy⟩:=hx;obtain⟨h4,hok,hid,E6⟩:=hy.cells;refine e46 (u0:=.agg (a::y)) (by simp[BK,close,ha.close,E6]) (APq ?_);have g:∀ts,(AQ.mk [a::y] ts).bs[0]?=some (a::y):=λ_=>rfl
 refine Bu (cs:=a::y) rfl (by simp[ha.ok]; grind) (AM (AU (g _)) (AX (g _) rfl (Au (n:=b.bounds.length) (by rw[ha.BD,Ab]) (Z8 ?_))))
 by_cases h6:b.bounds.length<=6
 .rw[Aq AA]
  refine Ak (Af (g _) AB (Ak (AH (Oh h hc hx') λr hr=>Ak (Au (n:=(Al b.body).length) (by rw[hr.BD,BU]) (Ak (Z8 (pk ?_)))))));refine⟨_,rfl,?_⟩;rw[Aq h6];have:(((Al b.body).length:Int)<=3)<->((Al b.body).length<=3):=AA
  grind
 .rw[A2 AA]
  refine Bf (Bf (Bf (Bf (pk ⟨_,rfl,?_⟩))))
  grind
theorem Ek {s:AQ} {p:PV} {K:AV->Prop} (hK:K (.pv p)):Df (env R) s none (.Ct [p] 0) K:=by simp[*]
def ixI (n:Int) (l:List Int):Int:=match l.findIdx? (·==n) with
 | some j=>j
 | none=>-1
theorem jf {l:List Int} {n:Int} (hl:l.length<2 ^ 40) {b:AV} (hb:BF b (Ad l)):Ae (env R) 93 [b,AG n] λr=>r=AG (ixI n l):=by
 obtain⟨a,E6,ha⟩:=hb.closed [] 0;refine e93 (u0:=a) (u1:=AG n) (by simp[*]) (APr (Au (n:=l.length) (by rw[ha.BD,BU]) ?_))
 suffices H:∀(j q:Nat),q+j=l.length->(∀p,p<q->l[p]?≠some n)->AEF R 0 0 0 a (AG n) (AG l.length) (AG q) ⟨[],[]⟩ (QP λr=>r=AG (ixI n l)) from H l.length 0 AA (λp hp=>by omega)
 intro j
 induction j with
 | zero=>
  intro q hi hn;refine AEG (Ao ?_);rw[A2 AA];refine Ar (APs ⟨_,rfl,?_⟩)
  grind[List.getElem?_of_mem,ixI]
 | succ j D9=>
  intro q hi hn;refine AEG (Ao ?_);rw[Aq AA];obtain⟨m,hm⟩:∃m,l[q]?=some m:=⟨_,Ay AA⟩;refine A1 (APt (BR ha (row:=[.sc (.int .i64 m)]) AA (by simp[*,Ad]) rfl AA ?_));refine Ek ?_;refine Av ?_;cases he:n==m with
  | true=>
   refine A1 ⟨_,rfl,?_⟩;have:l.findIdx? (·==n)=some q:=by grind[List.findIdx?_eq_some_iff_getElem]
   rw[ixI,this]
  | false=>
   refine Ar (APu (Be AA AA (D9 (q+1) AA ?_)))
   grind
end
def tok:AV->Option Nat
 | .own t _=>some t
 | _=>none
def Ck (a a':AV) (ts ts':List (Nat×Nat)):Prop:=ts.length<=ts'.length/\(∀t,t<ts.length->tok a≠some t->ts'[t]?=ts[t]?)/\(tok a'=tok a\/∃t,tok a'=some t/\ts.length<=t)
theorem Ck.refl (a:AV) (ts:List (Nat×Nat)):Ck a a ts ts:=⟨AY _,λ_ _ _=>rfl,.inl rfl⟩
theorem Ck.trans {a b c:AV} {ts tu tv:List (Nat×Nat)} (h:Ck a b ts tu) (k:Ck b c tu tv):Ck a c ts tv:=by
 obtain⟨h1,h2,h3⟩:=h;obtain⟨k1,k2,k3⟩:=k;refine⟨BM h1 k1,λt ht ha=>?_,?_⟩
 all_goals grind
def DW (b:AV) (ts:List (Nat×Nat)):Prop:=∀t,tok b=some t->ts.length<=t
theorem DW.QF {b b':AV} {ts0 ts ts':List (Nat×Nat)} (h:DW b ts0) (hc:Ck b b' ts ts') (hl:ts0.length<=ts.length):DW b' ts0:=by
 intro t ht;rcases hc.2.2 with h1|⟨u,h1,h2⟩
 .exact h t (by rw[<-h1,ht])
 grind
theorem Ck.side {a a' b b':AV} {ts0 ts ts':List (Nat×Nat)} (h:Ck a a' ts0 ts) (k:Ck b b' ts ts') (hb:DW b ts0):Ck a a' ts0 ts':=by
 obtain⟨h1,h2,h3⟩:=h;obtain⟨k1,k2,k3⟩:=k;refine⟨BM h1 k1,λt ht ha=>?_,h3⟩;rw[k2 t AA λhb'=>?_,h2 t ht ha];have:=hb t hb';omega
def Sr (a b:AV):Prop:=∀t,tok a=some t->tok b≠some t
theorem Sr.symm {a b:AV} (h:Sr a b):Sr b a:=λt h1 h2=>h t h2 h1
theorem Dn.w6 {lo:Nat} {ts:List (Nat×Nat)} {k:Nat} {a:AV} {rows:List (List PV)} (h:Dn lo ts k a rows) {t:Nat} (ht:tok a=some t):t<ts.length:=by
 rcases h with rfl|⟨u,rfl,h1,_⟩
 .cases ht
 .cases ht
  grind
theorem Sr.QF {a a' b:AV} {lo k:Nat} {ts ts':List (Nat×Nat)} {rows:List (List PV)} (h:Sr a b) (hc:Ck a a' ts ts') (hb:Dn lo ts k b rows):Sr a' b:=by
 intro t ht hbt;rcases hc.2.2 with h1|⟨u,h1,h2⟩
 .exact h t (by rw[<-h1,ht]) hbt
 .rw[h1] at ht
  cases ht;have:=Dn.w6 hb hbt;omega
theorem Ck.keep {a a' b:AV} {lo k:Nat} {ts ts':List (Nat×Nat)} {rows:List (List PV)} (hc:Ck a a' ts ts') (hb:Dn lo ts k b rows) (h:Sr a b):Dn lo ts' k b rows:=by
 rcases hb with rfl|⟨t,rfl,h1,h2⟩
 .exact .inl rfl
 .refine .inr ⟨t,rfl,?_,h2⟩
  rw[hc.2.1 t (BA.1 h1).1 λha=>h t ha rfl];omega
theorem Sr.AE (a:AV) (rows:List (List PV)):Sr a (.AE rows):=λ_ _ h=>by cases h
theorem DW.AE (ts:List (Nat×Nat)) (rows:List (List PV)):DW (.AE rows) ts:=λ_ h=>by cases h
theorem RM {L:BI} {s:AQ} {e:Nat} {k bytes:Nat} {a y:AV} {rows m:List (List PV)} {K:AV->AQ->Prop} (ha:Dn 0 s.ts e a rows) (El:L.rt=0) (hrows:∀r∈rows,r.length=k) (hm:∀r∈m,r.length=k) (hk:0<k)
  (hy:Cz s k y=some (m.flatten.map .pv)) (hok:(m.flatten.map AV.pv).all A7=true) (hb:(rows.length+m.length)*bytes<=2 ^ 45) (Mk:rows.length+m.length<=2 ^ 45)
  (h:∀a' ts',Dn 0 ts' e a' (rows++m)->Ck a a' s.ts ts'->K a' ⟨s.bs,ts'⟩):HB false L s e k bytes a y K:=by
 obtain⟨bs,ts⟩:=s;have hall:(rows.all λr=>r.length==k)=true:=AB;unfold HB;rw[hy];have hfl:=Kl m hm;have hby:=FE m hm;cases hc:m.flatten with
 | nil=>
  have hm0:m=[]:=by
   cases m with
   | nil=>rfl
   | cons r m=>
    grind
  subst hm0;have:=h a ts AB (Ck.refl _ _);rcases ha with rfl|⟨t,rfl,h1,h2⟩ <;> simp[*]
 | cons c cs=>
  have hmap:m.flatten.map AV.pv=.pv c::cs.map .pv:=AB
  have hl:(AV.pv c::cs.map .pv).length / k=m.length:=by
   rw[<-hmap,Bt,hfl,ZE _ hk]
  have htp:CD (AV.pv c::cs.map .pv)=some m.flatten:=by grind[IP]
  rw[hmap] at hok;simp only[wO,CP,hok,hl,htp,hby];refine⟨Ai,?_⟩;rcases ha with rfl|⟨t,rfl,h1,h2⟩
  .refine⟨⟨hb,Mk,hall⟩,?_⟩
   refine h (.own ts.length (rows++m)) (ts++[(rows.length+m.length,e)]) (.inr ⟨_,rfl,AD,AO _⟩) ⟨AD,λt ht _=>?_,.inr ⟨_,rfl,AY _⟩⟩;rw[CX ht]
  .refine⟨⟨hb,Mk,h1,AA,hall⟩,?_⟩
   have hlt:t<ts.length:=(BA.1 h1).1;refine h (.own t (rows++m)) (ts.set t (rows.length+m.length,e)) (.inr ⟨_,rfl,AB,h2⟩) ⟨AD,λu hu hn=>?_,.inl rfl⟩;rw[FN];intro htu;exact hn (by rw[htu]; rfl)
theorem rW (t:Ty):(([Ah t].flatten).map AV.pv).all A7=true:=by grind[Cx]
theorem Ja {L:BI} {s:AQ} {a:AV} {es:List Ty} {t:Ty} {K:AV->AQ->Prop} (ha:Dn 0 s.ts 25 a (AZ es)) (El:L.rt=0) (hl:es.length<2 ^ 38) (h:∀a' ts',Dn 0 ts' 25 a' (AZ (es++[t]))->Ck a a' s.ts ts'->K a' ⟨s.bs,ts'⟩) :
  HB false L s 25 4 56 a (.AE [Ah t]) K:=by
 have hl':=Ab es;have hm:∀r∈[Ah t],r.length=4:=by simp[Aj]
 refine RM (m:=[Ah t]) ha El (λr hr=>HP hr) hm AA (C9 (.inl (.AE _)) hm) (rW t) AB AB λa' ts' h1 h2=>h a' ts' ?_ h2
 grind[EC,AZ]
theorem eG {L:BI} {s:AQ} {a:AV} {l:List Int} {n:Int} {K:AV->AQ->Prop} (ha:Dn 0 s.ts 3 a (Ad l)) (El:L.rt=0) (hl:l.length<2 ^ 40) (h:∀a' ts',Dn 0 ts' 3 a' (Ad (l++[n]))->Ck a a' s.ts ts'->K a' ⟨s.bs,ts'⟩) :
  HB false L s 3 1 8 a (.AE [[.sc (.int .i64 n)]]) K:=by
 have hl':=BU l;have hm:∀r∈[[PV.sc (.int .i64 n)]],r.length=1:=AD;refine RM (m:=[[.sc (.int .i64 n)]]) ha El Da hm AA (C9 (.inl (.AE _)) hm) AD AB AB λa' ts' h1 h2=>h a' ts' ?_ h2
 grind[Ad]
theorem eH {rr:Bool} {A:Nat} {c:List AV} {cs ds:List AV} {s0:AQ} {bs:List (List AV)} {ts:List (Nat×Nat)} {Post:AV->AQ->Prop} (h0:BP s0) (hT:bs.take s0.bs.length=s0.bs.set A c) (hc:Ag s0.bs.length c=true) (E6:BK bs s0.bs.length ts.length cs=some ds) (hP:Post (.agg ds) ⟨s0.bs.set A c,ts⟩):QM rr s0.bs.length Post (.agg cs) ⟨bs,ts⟩:=by
 refine aM (ds:=ds) ?_ E6 ?_
 .have:=BP.set h0 hc ts (j:=A)
  rw[DE];intro b hb;have:=this b AB
  grind
 grind
theorem Cy {bs:List (List AV)} {n j:Nat} {c:List AV} (h:n<=j):(bs.set j c).take n=bs.take n:=by grind[List.take_set,List.set_eq_of_length_le]
theorem BH.Ih {v:Ty} {cs:List AV} (h:BH v (.agg cs)) (bs:List (List AV)) (n m:Nat):∃ds,BK bs n m cs=some ds/\BH v (.agg ds):=by
 obtain⟨k,c,i,ts⟩:=v;obtain⟨a,hcs,ha⟩:=h;cases hcs;obtain⟨a',h1,h2⟩:=ha.close bs n m;exact⟨[AG k,SS c,AG i,a'],by simp[*],⟨a',rfl,h2⟩⟩
abbrev jg (o:List Nat):List Int:=o.map λ(x:Nat)=>(x:Int)
theorem ABx (o:List Nat) {i:Int} (h:0<=i):ixI i (jg o)=match o.findIdx? (·==i.toNat) with
  | some j=>(j:Int)
  | none=>-1:=by
 rw[ixI,List.findIdx?_map];have:((λx:Int=>x==i)∘λx:Nat=>(x:Int))=λx:Nat=>x==i.toNat:=AB
 grind
section
variable {R:RT}
abbrev eI (P A F:Nat):AV:=.func (.func 91) [] [.ptr P 0,.ptr A 0,.ptr F 0]
structure Wt (P A F e:Nat) (B:List Ty) (bs:List (List AV)):Prop where
 hP:bs[P]?=some [.ptr e 0]
 hF:bs[F]?=some [eI P A F]
 he:∃c cs,bs[e]?=some (c::cs)/\BF c (AZ B)
 nP:A≠P
 nF:A≠F
 ne:A≠e
theorem Wt.of {P A F e:Nat} {B:List Ty} {bs bs':List (List AV)} (h:Wt P A F e B bs) (hk:∀j c,j≠A->bs[j]?=some c->bs'[j]?=some c):Wt P A F e B bs':=by
 obtain⟨c,cs,h1,h2⟩:=h.he;exact⟨hk _ _ h.nP.symm h.hP,hk _ _ h.nF.symm h.hF,⟨c,cs,hk _ _ h.ne.symm h1,h2⟩,h.nP,h.nF,h.ne⟩
theorem Wt.tk {P A F e n:Nat} {B:List Ty} {bs bs':List (List AV)} {c:List AV} (h:Wt P A F e B bs) (hT:bs'.take n=bs.set A c):Wt P A F e B bs':=
 h.of λj d hj hd=>CN hT AB
def w7 (R:RT) (P A F N:Nat) (x:AV) (o:List Nat) (t:Ty) (s:AQ):Prop:=∀(L:BI) (c:AV),L.ro=0->L.rt=0->s.bs[A]?=some [c]->Dn 0 s.ts 3 c (Ad (jg o)) ->
 ∃v s',(∃c' ts' ds,Dn 0 ts' 3 c' (Ad (jg (K4 N t o).2))/\Ck c c' s.ts ts'/\v=.agg ds/\BH (ren (K4 N t o).1) (.agg ds)/\s'=⟨s.bs.set A [c'],ts'⟩)/\BG (env R) L 91 [x,.ptr P 0,.ptr A 0,.ptr F 0] s v s'
theorem w8 {P A F e N:Nat} {B ts:List Ty} (hN:B.length=N) {a:AV} (ha:A0 a (AZ (CC ts))) (hl:ts.length<2 ^ 38) {k i:Int} {n:List UInt8} (hk7:k≠7) {o0:List Nat} {c0:AV} {s0:AQ} (hs0:BP s0) (hA:A<s0.bs.length) (hE:Wt P A F e B s0.bs)
  (ih:∀t∈ts,∀(o:List Nat) (s:AQ),BP s->Wt P A F e B s.bs->o.length+size t<2 ^ 40->w7 R P A F N (.agg ((Ah (ren t)).map .pv)) o t s)
  (hlen:∀t∈ts,∀o,(K4 N t o).2.length<=o.length+size t) (hb:o0.length+Ac ts<2 ^ 40) {rr:Bool} {Post:AV->AQ->Prop}
  (hP:∀c' ts' ds,Dn 0 ts' 3 c' (Ad (jg (G9 N ts o0).2))->Ck c0 c' s0.ts ts'->BH (.mk k n i (CC (G9 N ts o0).1)) (.agg ds)->Post (.agg ds) ⟨s0.bs.set A [c'],ts'⟩) :
  ∀(j q:Nat) (o:List Nat) (done:List Ty) (bs:List (List AV)) (tk:List (Nat×Nat)) (b c:AV),q+j=ts.length->done++(G9 N (ts.drop q) o).1=(G9 N ts o0).1->(G9 N (ts.drop q) o).2=(G9 N ts o0).2->done.length=q->o.length+Ac (ts.drop q)<=o0.length+Ac ts ->
   BP ⟨bs,tk⟩->bs.take s0.bs.length=s0.bs.set A [c]->bs[s0.bs.length]?=some [AG k,SS n,AG i,a]->bs[s0.bs.length+1]?=some Z4->bs[s0.bs.length+2]?=some [AG k,SS n,AG i,b] ->
   Dn 0 tk 3 c (Ad (jg o))->Dn 0 tk 25 b (AZ (CC done))->Ck c0 c s0.ts tk->DW b s0.ts->Sr c b ->
   AEI R 0 0 0 (.ptr F 0) (.ptr (s0.bs.length+1) 0) (.ptr (s0.bs.length+2) 0) a (AG ts.length) (AG q) ⟨bs,tk⟩ (QM rr s0.bs.length Post):=by
 have Sj:=BS ts;intro j
 induction j with
 | zero=>
  intro q o done bs tk b c hi hd1 T6 hdl ho hs hT h0 h1 h2 hc Zb hC hfr KP;refine AEJ (Ao ?_);rw[A2 AA];rw[CA AA,G9,Gy] at hd1;rw[CA AA,G9] at T6;simp only at hd1 T6;rw[hd1] at Zb;rw[T6] at hc;refine Ar (APv (Af h2 rfl (Bn h1 rfl rfl AK (AO _) (by simp[Zb.A4.ok]) (.inl (AO _)) (Af (BZ h1) rfl ?_))));obtain⟨ds,c1,c2⟩:=BH.Ih (v:=.mk k n i (CC (G9 N ts o0).1)) (cs:=[AG k,SS n,AG i,b]) ⟨b,rfl,Zb.A4⟩ (bs.set (s0.bs.length+1) [AG k,SS n,AG i,b]) s0.bs.length tk.length;exact eH hs0 ((Cy AA).trans hT) (by simp[Ag,hc.A4.Ax]) c1 (hP c tk ds hc hC c2)
 | succ j D9=>
  intro q o done bs tk b c hi hd1 T6 hdl ho hs hT h0 h1 h2 hc Zb hC hfr KP;refine AEJ (Ao ?_);rw[Aq AA];obtain⟨t,ht⟩:∃t,ts[q]?=some t:=⟨_,Ay AA⟩;have El:(CC ts)[q]?=some (ren t):=by grind[Bv]
  have VE:=A5 ht;have hrl:((Ah (ren t)).map AV.pv).length=4:=by grind[Aj]
  have hro:=Cx (ren t)
  have Lz:Ag (bs.length+1) ((Ah (ren t)).map AV.pv)=true:=by
   obtain⟨k1,n1,i1,t1⟩:=ren t;rfl
  refine A1 (APw (BR ha (row:=Ah (ren t)) AA (by simp[*,BL]) (Aj _) AA (Ce (Bm ?_))));have iI:=ih t VE;have hdr:ts.drop q=t::ts.drop (q+1):=drop_cons ht;rw[hdr,G9] at hd1 T6;rw[hdr,Ac] at ho;generalize (Ah (ren t)).map AV.pv=row at hrl hro Lz iI;refine Bn (Az bs Z4) hrl rfl AK (AO _) hro (.inl (AO _)) ?_;have e:(bs++[Z4]).set bs.length row=bs++[row]:=AD;rw[e];have l2:=(BA.1 h2).1;have Nk:s0.bs.length<=bs.length:=AA;have je:=(ED Nk row).trans hT;have hs':BP ⟨bs++[row],tk⟩:=BP.app (s:=⟨bs,tk⟩) hs Lz;have gA:(s0.bs.set A [c])[A]?=some [c]:=by rw[Ca AA]
  have gF:(s0.bs.set A [c])[F]?=some [eI P A F]:=by rw[FN hE.nF]; exact hE.hF
  obtain⟨v,s',⟨c',ts',ds,r1,r2,rfl,r4,rfl⟩,r6⟩:=iI o ⟨bs++[row],tk⟩ hs' (hE.tk je) AA (CT (env R) 91 0 0 0) c rfl rfl (CN je gA) hc;have g1:=Ap h1 row;have g2:=Ap h2 row;have g0:=Ap h0 row;have tY:((bs++[row]).set A [c'])[s0.bs.length+2]?=some [AG k,SS n,AG i,b]:=BV g2 AA;refine AM (AU g2) (AX g2 rfl (AX (Ap (CN hT gF) row) rfl (Af (Az bs row) hrl ⟨_,_,r6,Er r4 ⟨AK,Ja (r2.keep Zb KP) rfl ?_ ?_⟩⟩)))
  .grind[Bv]
  .intro b' GJ hb' LH
   have er:CC done++[ren (K4 N t o).1]=CC (done++[(K4 N t o).1]):=by simp[Bv]
   rw[er] at hb';refine AM (AU tY) (C3 tY AD hb'.A4.cells (AO _) hb'.A4.ok (.inl (AO _)) ?_);refine⟨AM (AU tY) (DL _ _),AX tY rfl (Gr Zb),APx (Be AA AA ?_)⟩;have AEK:Sr b c':=(KP.QF r2 Zb).symm;have rV:(((bs++[row]).set A [c']).set (s0.bs.length+2) [AG k,SS n,AG i,b']).take s0.bs.length=s0.bs.set A [c']:=by simp[*,Cy,EY]
   have hs2:BP ⟨(bs++[row]).set A [c'],ts'⟩:=BP.set (s:=⟨bs++[row],tk⟩) hs' (by simp[Ag,Ax,r1.A4.Ax]) _;have:=hlen t VE o
   have fin:=D9 (q+1) (K4 N t o).2 (done++[(K4 N t o).1]) _ GJ b' c' AA (by simp[*]) T6 AB AA
    (BP.set (s:=⟨(bs++[row]).set A [c'],ts'⟩) hs2 (by simp[Ag,Ax,hb'.A4.Ax]) _) rV (BV (BV g0 AA) AA) (BV (BV g1 AA) AA) (BZ tY)
    (LH.keep r1 AEK) hb' ((hC.trans r2).side LH hfr) (hfr.QF LH (BM hC.1 r2.1)) (AEK.QF LH r1).symm
   grind
end
end Go.Proofs.YtpgfpakdnijngaaGreatDoor
