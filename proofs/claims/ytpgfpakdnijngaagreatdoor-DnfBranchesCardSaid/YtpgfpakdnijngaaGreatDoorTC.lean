/-
  The program's patterns: names, placeholders, sizes.
-/
import Derived.Test.YtpgfpakdnijngaaGreatDoorTB
import Derived.Test.YtpgfpakdnijngaaGreatDoorTA
set_option linter.all false
namespace Go.Proofs.YtpgfpakdnijngaaGreatDoor
open Go.Tel
open List renaming length->F
open Option renaming some->Y,none->G
open Bool renaming true->Z,false->ϴ
mutual
def E4 (q:Int->Bool):Ty->Bool
 | .mk k n i ts=>bif k==7 then ts.isEmpty&&q i else !(n.head?==Y 36)&&(decide (F n<2 ^ 40)&&EZ q ts)
def EZ (q:Int->Bool):Ϣ->Bool
 | []=>Z
 | t::l=>E4 q t&&EZ q l
end
mutual
theorem Ea {q q':Int->Bool} (h:∀i,q i=Z->q' i=Z):∀t:Ty,E4 q t=Z->E4 q' t=Z
 | .mk k n i ts,b=>by
  rw[E4] at b ⊢;cases d:k==7 with
  | true=>
   grind
  | false=>
   rw[d] at b;simp only[AL,AK] at b ⊢;exact⟨b.1,b.2.1,UU h ts b.2.2⟩
theorem UU {q q':Int->Bool} (h:∀i,q i=Z->q' i=Z):∀l:Ϣ,EZ q l=Z->EZ q' l=Z
 | [],_=>rfl
 | t::l,b=>by
  simp only[EZ,AK] at b ⊢;exact⟨Ea h t b.1,UU h l b.2⟩
end
def XS {q:Int->Bool}:∀{l:Ϣ} {t:Ty},EZ q l=Z->t∈l->E4 q t=Z
 | [],_,_,h=>by cases h
 | a::l,t,h,ht=>by
  simp only[EZ,AK] at h;rcases BF.1 ht with rfl|ht
  .grind
  .exact XS h.2 ht
def P7 {q:Int->Bool}:∀(l m:Ϣ),EZ q (l++m)=(EZ q l&&EZ q m)
 | [],m=>by rfl
 | t::l,m=>by simp[EZ,P7 l m,Lz]
mutual
def cV {q:Int->Bool} {v:Nat} (d:q v=Z):∀(t:Ty) (u:Nat),E4 q t=Z->E4 q (sub v u t)=Z
 | .mk k n i ts,u,h=>by
  rw[E4] at h;rw[sub];cases e:k==5 with
  | true=>
   grind[E4]
  | false=>
   simp only[AL];rw[E4];cases b:k==7 with
   | true=>
    rw[b] at h;simp only[AQ,AK,Eu] at h ⊢;rw[h.1];exact⟨rfl,h.2⟩
   | false=>
    rw[b] at h;simp only[AL,AK] at h ⊢;exact⟨h.1,h.2.1,XT d ts u k 0 h.2.2⟩
def XT {q:Int->Bool} {v:Nat} (b:q v=Z):∀(l:Ϣ) (u:Nat) (k:Int) (j:Nat),EZ q l=Z->EZ q (LB v u k j l)=Z
 | [],_,_,_,_=>rfl
 | t::l,u,k,j,h=>by
  simp only[EZ,AK] at h;simp only[LB,EZ,AK];exact⟨cV b t _ h.1,XT b l u k (j+1) h.2⟩
end
mutual
theorem NI {q m:Int->Bool} {b:Ty} (hb:E4 q b=Z):∀(t:Ty) (k:Nat),E4 q t=Z->E4 q (JM m b t k)=Z
 | .mk c n i ts,k,h=>by
  have e:=h;rw[E4] at h;rw[JM];cases d:c==7 with
  | true=>
   grind
  | false=>
   rw[d] at h;simp only[AL,AK] at h ⊢;cases c==3 with
   | true=>
    rw[AQ,E4,d];simp only[AL,AK];exact⟨h.1,h.2.1,XU hb ts k h.2.2⟩
   | false=>grind
theorem XU {q m:Int->Bool} {b:Ty} (hb:E4 q b=Z):∀(l:Ϣ) (k:Nat),EZ q l=Z->EZ q (Ka m b l k)=Z
 | [],_,_=>rfl
 | t::l,k,h=>by
  simp only[EZ,AK] at h;rw[Ka];cases decide (k<Bi m t) with
  | true=>
   simp only[AQ,EZ,AK];exact⟨NI hb t k h.1,h.2⟩
  | false=>
   simp only[AL,EZ,AK];exact⟨h.1,XU hb l _ h.2⟩
end
mutual
def N3 {m:Int->Bool} {b:Ty}:∀(t:Ty) (k:Nat),k<Bi m t->Bi m (JM m b t k)+1=Bi m t+Bi m b/\AP (JM m b t k)<=AP t+AP b
 | .mk c n i ts,k,h=>by
  rw[Bi] at h;rw[JM];cases d:c==7 with
  | true=>
   grind[Bi]
  | false=>
   rw[d] at h;simp only[AL] at h ⊢;cases e:c==3 with
   | false=>grind
   | true=>
    rw[e] at h;simp only[AQ] at h ⊢;have:=cW (m:=m) (b:=b) ts k h
    grind[Bi,AP]
def cW {m:Int->Bool} {b:Ty}:∀(l:Ϣ) (k:Nat),k<Cz m l->Cz m (Ka m b l k)+1=Cz m l+Bi m b/\Ak (Ka m b l k)<=Ak l+AP b
 | [],k,h=>by grind[Cz]
 | t::l,k,h=>by
  rw[Cz] at h;rw[Ka]
  by_cases d:k<Bi m t
  .have:=N3 (m:=m) (b:=b) t k d
   grind[Cz,Ak]
  .have:=cW (m:=m) (b:=b) l (k-Bi m t) AA
   grind[Cz,Ak]
end
mutual
theorem tV {m:Int->Bool} {b:Ty}:∀(t:Ty) (k:Nat),Bi m t<=k->JM m b t k=t
 | .mk c n i ts,k,h=>by
  rw[Bi] at h;rw[JM];cases d:c==7 with
  | true=>
   grind
  | false=>
   rw[d] at h;simp only[AL] at h ⊢;cases e:c==3 with
   | false=>rfl
   | true=>
    rw[e] at h;simp only[AQ] at h ⊢;rw[XV ts k h]
theorem XV {m:Int->Bool} {b:Ty}:∀(l:Ϣ) (k:Nat),Cz m l<=k->Ka m b l k=l
 | [],_,_=>rfl
 | t::l,k,h=>by
  rw[Cz] at h;rw[Ka,A5 AA,AL,XV (m:=m) (b:=b) l (k-Bi m t) AA]
end
mutual
def P8 {q:Int->Bool} {v:Nat} (b:q v=ϴ):∀(t:Ty) (inv:Bool),E4 q t=Z->DZ v inv t=ϴ/\Bi (·==(v:Int)) t=0
 | .mk k n i ts,inv,h=>by
  rw[E4] at h;rw[DZ,Bi];cases d:k==7 with
  | true=>
   grind
  | false=>
   rw[d] at h;simp only[AL,AK] at h ⊢;have:=XW b ts (inv&&!(k==2)) h.2.2
   grind
def XW {q:Int->Bool} {v:Nat} (b:q v=ϴ):∀(l:Ϣ) (inv:Bool),EZ q l=Z->GV v inv l=ϴ/\Cz (·==(v:Int)) l=0
 | [],_,_=>⟨rfl,rfl⟩
 | t::l,inv,h=>by
  simp only[EZ,AK] at h;have d:=P8 b t inv h.1;have e:=XW b l inv h.2
  grind[GV,Cz]
end
section
variable {A7:Nat->Bool}
theorem I4 {α:Type} {g:α->Ϣ->FT} (b:∀a B,F B<=F (g a B).2):∀(l:List α) (out B:Ϣ),F B<=F (Ce A7 g l out B).2
 | [],_,_=>AU _
 | a::l,out,B=>by
  have h:=b a B;rw[Ce];rcases d:g a B with ⟨_|r,e⟩
  .grind
  .rw[d] at h
   simp only at h ⊢;cases A7 (F (out++r)) with
   | true=>exact h
   | false=>exact BC h (I4 b l (out++r) e)
def I5 {α:Type} {g:α->Ϣ->FT} (hm:∀a B,F B<=F (g a B).2) {P:Ty->Prop} {lo M:Nat}:∀(l:List α) (out B:Ϣ) (r:Ϣ),(∀a∈l,∀B r,lo<=F B->(g a B).1=Y r->F (g a B).2<=M->∀p∈r,P p) ->
  lo<=F B->(Ce A7 g l out B).1=Y r->F (Ce A7 g l out B).2<=M->(∀p∈out,P p)->∀p∈r,P p
 | [],out,B,r,_,_,h,_,j=>by grind[Ce]
 | a::l,out,B,r,d,m,h,b,j=>by
  have e:=hm a B;have f:=d a AD B;rw[Ce] at h b;rcases k:g a B with ⟨_|s,i⟩
  .grind
  .rw[k] at h b e f
   simp only at h b e f;cases hb:A7 (F (out++s)) with
   | true=>grind
   | false=>
    rw[hb] at h b;simp only[AL] at h b;have n:=I4 (A7:=A7) hm l (out++s) i;refine I5 hm l (out++s) i r (λa o=>d a AB) AA h b ?_
    grind
theorem IP {ex:Ϣ->FT} (hx:∀B,F B<=F (ex B).2) (v:Nat):∀(f:Nat) (t:Ty) (B:Ϣ),F B<=F (CT A7 ex v f t B).2
 | 0,_,_=>AU _
 | f+1,t,B=>by
  have h:=hx B;rw[CT];cases DZ v ϴ t with
  | false=>simp
  | true=>
   rcases b:ex B with ⟨_|r,d⟩
   .grind
   .rw[b] at h
    exact BC h (I4 (λc B=>IP hx v f _ B) r [] d)
def RB {ex:Ϣ->FT} (hx:∀B,F B<=F (ex B).2) {v lo M W S:Nat} {q:Int->Bool} (i:∀B r,lo<=F B->(ex B).1=Y r->F (ex B).2<=M->∀c∈r,E4 q c=Z/\Bi (·==(v:Int)) c=0/\AP c<=W) :
  ∀(f:Nat) (t:Ty) (B r:Ϣ),E4 q t=Z->AP t+Bi (·==(v:Int)) t*W<=S->lo<=F B->(CT A7 ex v f t B).1=Y r->F (CT A7 ex v f t B).2<=M->∀p∈r,E4 q p=Z/\AP p<=S
 | 0,t,B,r,j,hS,_,h,_=>by grind[CT]
 | f+1,t,B,r,j,hS,n,h,d=>by
  have k:=hx B;have e:=i B;rw[CT] at h d;cases s:DZ v ϴ t with
  | false=>
   grind
  | true=>
   rw[s] at h d;simp only[AQ] at h d;rcases u:ex B with ⟨_|cs,l⟩
   .grind
   .rw[u] at h d k e
    simp only at h d k e;have H:=I4 (A7:=A7) (g:=λc B=>CT A7 ex v f (JM (·==(v:Int)) c t 0) B) (λc B=>IP hx v f _ B) cs [] l;have x:=e cs n rfl AA;refine I5 (λc B=>IP hx v f _ B) (lo:=lo) cs [] l r ?_ AA h d AD;intro c y z A m C o;have⟨D,I,K⟩:=x c y;refine RB hx i f _ z A (NI D t 0 j) ?_ m C o
    by_cases E:0<Bi (·==(v:Int)) t
    .have⟨L,N⟩:=N3 (b:=c) t 0 E
     have:Bi (·==(v:Int)) t*W=Bi (·==(v:Int)) (JM (·==(v:Int)) c t 0)*W+W:=AB;omega
    grind[tV]
end
def wx:Ϟ->Ϟ->Nat
 | [b,c],[_,d]=>c+max 1 d*b
 | _,_=>0
mutual
def wt:Ty->Nat
 | .mk k _ _ ts=>bif k==6 then wx (jI ts) (MK ts) else bif k==3||k==4 then 1+(jI ts).sum else 1+Ak ts
def jI:Ϣ->Ϟ
 | []=>[]
 | t::l=>wt t::jI l
end
def zh {l m p:Ϟ} (h:CD (·<=·) l m):wx l p<=wx m p:=by
 match l,m,h with
 | [],[],_=>simp
 | [_],[_],_=>exact AU _
 | [b,c],[i,j],h=>
  obtain⟨e,f,_⟩:=h
  match p with
  | []=>exact AU _
  | [_]=>exact AU _
  | [_,d]=>exact Nat.add_le_add f (E9 _ e)
  | _::_::_::_=>exact AU _
 | _::_::_::_,[_,_],h=>exact h.2.2.elim
 | [_,_],_::_::_::_,h=>exact h.2.2.elim
 | _::_::_::_,_::_::_::_,_=>
  match p with
  | []=>exact AU _
  | [_]=>exact AU _
  | [_,_]=>exact AU _
  | _::_::_::_=>exact AU _
mutual
theorem jJ (v:Nat):∀(t:Ty) (u:Nat),cv (sub v u t)=cv t
 | .mk k n i ts,u=>by
  rw[sub];cases b:k==5 with
  | true=>
   have:k=5:=AB;subst this;simp only[AQ];cases i==(u:Int) with
   | true=>rfl
   | false=>cases decide ((u:Int)<i) <;> rfl
  | false=>simp only[AL,cv,ZY v ts u k 0]
theorem ZY (v:Nat):∀(l:Ϣ) (u:Nat) (k:Int) (j:Nat),MK (LB v u k j l)=MK l
 | [],_,_,_=>rfl
 | t::l,u,k,j=>by rw[LB,MK,MK,jJ v t _,ZY v l u k (j+1)]
end
def UW:∀{l m:Ϟ},CD (·<=·) l m->l.sum<=m.sum
 | [],[],_=>AU _
 | a::l,b::m,h=>by
  have:=UW h.2;have:=h.1
  grind
mutual
def tW (v:Nat):∀(t:Ty) (u:Nat),AP (sub v u t)<=AP t
 | .mk k n i ts,u=>by
  rw[sub];cases k==5 with
  | true=>
   grind[AP,Ak]
  | false=>
   have:=RD v ts u k 0
   grind[AP]
def RD (v:Nat):∀(l:Ϣ) (u:Nat) (k:Int) (j:Nat),Ak (LB v u k j l)<=Ak l
 | [],_,_,_=>AU _
 | t::l,u,k,j=>by
  have b:=tW v t (u+Dz k j);have d:=RD v l u k (j+1)
  grind[LB,Ak]
end
mutual
def tX (v:Nat):∀(t:Ty) (u:Nat),wt (sub v u t)<=wt t
 | .mk k n i ts,u=>by
  rw[sub];cases d:k==5 with
  | true=>
   grind[wt,Ak]
  | false=>
   have e:=RD v ts u k 0;have b:=l5 v ts u k 0;have f:=zh (p:=MK ts) b;have j:=UW b
   grind[wt,ZY]
def l5 (v:Nat):∀(l:Ϣ) (u:Nat) (k:Int) (j:Nat),CD (·<=·) (jI (LB v u k j l)) (jI l)
 | [],_,_,_=>trivial
 | t::l,u,k,j=>⟨tX v t _,l5 v l u k (j+1)⟩
end
mutual
def MO (m:Int->Bool):∀t:Ty,Bi m t<=AP t
 | .mk c n i ts=>by
  have:=Ob m ts
  grind[Bi,AP]
def Ob (m:Int->Bool):∀l:Ϣ,Cz m l<=Ak l
 | []=>AU _
 | t::l=>by
  have b:=MO m t;have d:=Ob m l
  grind[Cz,Ak]
end
section
variable {A7:Nat->Bool}
theorem Js {ex:Ϣ->FT} (hx:∀B,F B<=F (ex B).2) (v:Nat) (t:Ty) (B:Ϣ):F B<=F (Bw A7 ex v t B).2:=by grind[Bw,IP]
theorem P9 {ex:Ty->Ϣ->FT} (hx:∀t B,F B<=F (ex t B).2):∀(l out:Ϣ) (ok:Bool) (B:Ϣ),F B<=F (G1 ex l out ok B).2
 | [],_,_,_=>AU _
 | t::l,out,ok,B=>by
  have h:=hx t B;rw[G1];rcases b:ex t B with ⟨_|r,d⟩
  .rw[b] at h
   exact BC h (P9 hx l out ϴ d)
  .rw[b] at h
   exact BC h (P9 hx l (out++r) ok d)
theorem UX {ex:Ty->Ϣ->FT} (hx:∀t B,F B<=F (ex t B).2):∀(l:Ϣ) (out:List Ϣ) (B:Ϣ),F B<=F (Ey ex l out B).2
 | [],_,_=>AU _
 | t::l,out,B=>by
  have h:=hx t B;rw[Ey];rcases b:ex t B with ⟨_|r,d⟩
  .grind
  .rw[b] at h
   exact BC h (UX hx l (out++[r]) d)
def KC:∀(f:Nat) (t:Ty) (B:Ϣ),F B<=F (BI A7 f t B).2
 | 0,_,_=>AU _
 | f+1,.mk k n i ts,B=>by
  have hf:=KC f;rw[BI];cases k==0||k==2||k==7 with
  | true=>simp
  | false=>
   simp only[AL];cases k==4 with
   | true=>
    grind[P9]
   | false=>
    simp only[AL];cases k==3 with
    | true=>
     grind[UX]
    | false=>
     simp only[AL];cases k==6 with
     | false=>simp
     | true=>
      simp only[AQ]
      match ts with
      | []=>exact AU _
      | [_]=>exact AU _
      | _::_::_::_=>exact AU _
      | [b,d]=>
       grind[ah,I4,Js]
end
section
variable {A7:Nat->Bool}
def Pq (q:Int->Bool) (W:Nat) (p:Ty):Prop:=E4 q p=Z/\AP p<=W
def Pq.le {q:Int->Bool} {W V:Nat} {p:Ty} (h:Pq q W p) (b:W<=V):Pq q V p:=⟨h.1,BC h.2 b⟩
def NJ {ex:Ty->Ϣ->FT} (hx:∀t B,F B<=F (ex t B).2) {P:Ty->Prop} {lo M:Nat}:∀(l out:Ϣ) (ok:Bool) (B:Ϣ),(∀t∈l,∀B r,lo<=F B->(ex t B).1=Y r->F (ex t B).2<=M->∀p∈r,P p) ->
  lo<=F B->F (G1 ex l out ok B).2<=M->(∀p∈out,P p)->∀p∈(G1 ex l out ok B).1.1,P p
 | [],_,_,_,_,_,_,d=>d
 | t::l,out,ok,B,e,n,b,d=>by
  have f:=hx t B;have j:=e t AD B;rw[G1] at b ⊢;rcases k:ex t B with ⟨_|s,i⟩
  .rw[k] at b f
   exact NJ hx l out ϴ i (λa m=>e a AB) AB b d
  .rw[k] at b f j
   simp only at b f j ⊢;have o:=P9 hx l (out++s) ok i;refine NJ hx l (out++s) ok i (λa m=>e a AB) AA b ?_
   grind
def Cho (P:Nat->Ty->Prop):List Ϣ->Ϟ->Prop:=CD λl w=>∀p∈l,P w p
def QA {ex:Ty->Ϣ->FT} (hx:∀t B,F B<=F (ex t B).2) {P:Nat->Ty->Prop} {w:Ty->Nat} {lo M:Nat}:∀(l:Ϣ) (out:List Ϣ) (b:Ϟ) (B:Ϣ) (r:List Ϣ),(∀t∈l,∀B r,lo<=F B->(ex t B).1=Y r->F (ex t B).2<=M->∀p∈r,P (w t) p) ->
  lo<=F B->(Ey ex l out B).1=Y r->F (Ey ex l out B).2<=M->Cho P out b->Cho P r (b++l.map w)
 | [],out,b,B,r,_,_,h,_,f=>by grind[Ey]
 | t::l,out,b,B,r,i,m,h,d,f=>by
  have j:=hx t B;have e:=i t AD B;rw[Ey] at h d;rcases n:ex t B with ⟨_|s,k⟩
  .grind
  .rw[n] at h d j e
   simp only at h d j e;have o:=UX hx l (out++[s]) k;have:=QA hx (P:=P) (w:=w) (lo:=lo) (M:=M) l (out++[s]) (b++[w t]) k r (λa u=>i a AB) AA h d (f.append ⟨e s m rfl AA,Ay⟩)
   grind
def XX {q:Int->Bool}:∀(ls:List Ϣ) (b:Ϟ) (out r:List Ϣ) (W:Nat),Cho (Pq q) ls b->Df A7 ls out=Y r->(∀p∈out,EZ q p=Z/\Ak p<=W)->∀p∈r,EZ q p=Z/\Ak p<=W+b.sum
 | [],b,out,r,W,d,h,f=>by grind[Df]
 | l::ls,[],_,_,_,d,_,_=>d.elim
 | l::ls,w::b,out,r,W,d,h,f=>by
  rw[Df] at h;cases hb:A7 (F (out.flatMap λp=>l.map λx=>p++[x])) with
  | true=>grind
  | false=>
   rw[hb] at h;simp only[AL] at h;intro p e
   have:=XX ls b _ r (W+w) d.2 h (by
    intro p e;have⟨a,j,e⟩:=Nn.1 e;obtain⟨x,hx,rfl⟩:=Cw.1 e;have k:=f a j;have i:=d.1 x hx;refine⟨?_,?_⟩
    .rw[P7,k.1]
     simp[EZ,i.1]
    .have:∀(l:Ϣ) (x:Ty),Ak (l++[x])=Ak l+AP x:=by
      intro l x
      induction l with
      | nil=>simp[Ak]
      | cons y l m=>grind[Ak]
     rw[this];have:=i.2;omega) p e
   grind
end
mutual
def TA {m p:Int->Bool} (h:∀i,m i=Z->p i=Z):∀t:Ty,Bi m t<=Bi p t
 | .mk c n i ts=>by
  have:=cX h ts
  grind[Bi]
def cX {m p:Int->Bool} (h:∀i,m i=Z->p i=Z):∀l:Ϣ,Cz m l<=Cz p l
 | []=>AU _
 | t::l=>by
  have b:=TA h t;have d:=cX h l
  grind[Cz]
end
mutual
theorem cY {m q:Int->Bool} {b:Ty}:∀(t:Ty) (k:Nat),Bi q (JM m b t k)<=Bi q t+Bi q b
 | .mk c n i ts,k=>by
  have d:=XY (m:=m) (q:=q) (b:=b) ts k
  grind[JM,Bi]
theorem XY {m q:Int->Bool} {b:Ty}:∀(l:Ϣ) (k:Nat),Cz q (Ka m b l k)<=Cz q l+Bi q b
 | [],_=>AO _
 | t::l,k=>by
  rw[Ka];cases decide (k<Bi m t) with
  | true=>
   have:=cY (m:=m) (q:=q) (b:=b) t k
   grind[Cz]
  | false=>
   have:=XY (m:=m) (q:=q) (b:=b) l (k-Bi m t)
   grind[Cz]
end
theorem QB (q:Int->Bool):∀(l m:Ϣ),Cz q (l++m)=Cz q l+Cz q m
 | [],m=>by simp[Cz]
 | t::l,m=>by rw[DV,Cz,Cz,QB q l m]; omega
section
variable {A7:Nat->Bool}
abbrev cA:Ty->Nat:=Bi λ_=>Z
def cZ {ex:Ϣ->FT} (hx:∀B,F B<=F (ex B).2) {v C:Nat} (b:∀B r,(ex B).1=Y r->∀c∈r,cA c<=C) :
  ∀(f:Nat) (t:Ty) (B r:Ϣ),(CT A7 ex v f t B).1=Y r->∀p∈r,cA p<=cA t+f*C
 | 0,t,B,r,h=>by grind[CT]
 | f+1,t,B,r,h=>by
  have d:=b B;rw[CT] at h;cases e:DZ v ϴ t with
  | false=>
   grind
  | true=>
   rw[e] at h;simp only[AQ] at h;rcases i:ex B with ⟨_|cs,j⟩
   .grind
   .rw[i] at h d
    simp only at h d;refine I5 (λc B=>IP hx v f _ B) (lo:=0) cs [] j r ?_ (AO _) h (AU _) AD;intro c o k l _ m _ p n;have s:=cZ hx b f _ k l m p n
    grind[cY]
def RE {q:Int->Bool}:∀(ls:List Ϣ) (b:Ϟ) (out r:List Ϣ) (W:Nat),Cho (λw p=>Bi q p<=w) ls b->Df A7 ls out=Y r->(∀p∈out,Cz q p<=W)->∀p∈r,Cz q p<=W+b.sum
 | [],b,out,r,W,d,h,f=>by grind[Df]
 | l::ls,[],_,_,_,d,_,_=>d.elim
 | l::ls,w::b,out,r,W,d,h,f=>by
  rw[Df] at h;cases hb:A7 (F (out.flatMap λp=>l.map λx=>p++[x])) with
  | true=>grind
  | false=>
   rw[hb] at h;simp only[AL] at h;intro p e
   have:=RE ls b _ r (W+w) d.2 h (by
    intro p e;have⟨a,i,e⟩:=Nn.1 e;obtain⟨x,hx,rfl⟩:=Cw.1 e;have j:=f a i;have k:Bi q x<=w:=d.1 x hx
    grind[QB,Cz]) p e
   grind
def ZZ:∀(f:Nat) (t:Ty) (B r:Ϣ),(BI A7 f t B).1=Y r->∀p∈r,cA p<=cv t
 | 0,_,_,_,h=>by cases h
 | f+1,.mk k n i ts,B,r,h=>by
  have hf:=λt B=>KC (A7:=A7) f t B
  have x:=ZZ f;rw[BI] at h;cases L:k==0||k==2||k==7 with
  | true=>
   grind[Bi,cv]
  | false=>
   rw[L] at h;simp only[AL] at h;cases I:k==4 with
   | true=>
    have s:k=4:=AB;subst s;rw[I] at h;simp only[AQ] at h;have d:=NJ hf (P:=λp=>cA p<=cv (.mk 4 n i ts)) (lo:=0) (M:=F (G1 (BI A7 f) ts [] Z B).2) ts [] Z B (λt hm u r _ h _ p j=>BC (x t u r h p j) (by simp[*,cv,O5,EM,EH])) (AO _) (AU _) AD
    grind
   | false=>
    rw[I] at h;simp only[AL] at h;cases K:k==3 with
    | true=>
     have s:k=3:=AB;subst s;rw[K] at h;simp only[AQ] at h;have d:=λr h=>QA hf (P:=λw p=>cA p<=w) (w:=cv) (lo:=0) (M:=F (Ey (BI A7 f) ts [] B).2) ts [] [] B r (λt _ u r _ h _ p j=>x t u r h p j) (AO _) h (AU _) Ay
     rcases y:Ey (BI A7 f) ts [] B with ⟨_|ls,z⟩
     .grind
     .rw[y] at h d
      simp only at h d;cases N:ls.any List.isEmpty with
      | true=>
       grind
      | false=>
       rw[N] at h;simp only[AL] at h;cases A:Df A7 ls [[]] with
       | none=>grind
       | some all=>
        rw[A] at h;simp only at h;cases hb:A7 (F all) with
        | true=>grind
        | false=>
         rw[hb] at h;cases h;intro p j;obtain⟨a,E,rfl⟩:=Cw.1 j;have W:=RE (q:=λ_=>Z) ls _ _ all 0 (d ls rfl) A (by simp[Cz]) a E
         grind[Bi,cv,O5]
    | false=>
     rw[K] at h;simp only[AL] at h;cases O:k==6 with
     | false=>
      grind
     | true=>
      have s:k=6:=AB;subst s;rw[O] at h;simp only[AQ] at h
      match ts with
      | []=>cases h; simp
      | [_]=>cases h; simp
      | _::_::_::_=>cases h; simp
      | [b,m]=>
       simp only[ah] at h;rcases y:BI A7 f (sub (F B) 0 m) (B++[b]) with ⟨_|l,z⟩
       .grind
       .rw[y] at h
        have H:=x (sub (F B) 0 m) (B++[b]) l (by rw[y]);rw[jJ] at H;have d:=λr Q h=>I5 (A7:=A7) (g:=Bw A7 (BI A7 f b) (F B)) (λa B=>Js (hf b) _ a B) (P:=λp=>cA p<=cv (.mk 6 n i [b,m])) (lo:=0) (M:=F (Ce A7 (Bw A7 (BI A7 f b) (F B)) l [] z).2) l [] z r Q (AO _) h (AU _) AD
        simp only at h;rcases A:Ce A7 (Bw A7 (BI A7 f b) (F B)) l [] z with ⟨_|o,X⟩
        .grind
        .rw[A] at h d
         simp only at h d;cases hb:A7 (F o) with
         | true=>grind
         | false=>
          rw[hb] at h;cases h;refine d r (λa E u S _ D _ p j=>?_) rfl;have e:cv (.mk 6 n i [b,m])=cv m*(cv b+1):=rfl;have U:=H a E;rw[e,Sz];rw[Bw] at D;cases T:DZ (F B) Z a with
          | true=>
           grind
          | false=>
           rw[T] at D;simp only[AL] at D;have α:=cZ (A7:=A7) (hf b) (C:=cv b) (λB r h=>x b B r h) _ a u S D p j;have β:Bi (·==(F B:Int)) a<=cA a:=TA (λ_ _=>rfl) a;have γ:Bi (·==(F B:Int)) a*cv b<=cv m*cv b:=Be _ AA;omega
end
section
variable {A7:Nat->Bool}
theorem JG:∀l:Ϣ,jI l=l.map wt
 | []=>rfl
 | t::l=>by rw[jI,JG l]; rfl
theorem cc {k i:Int} {n:Ϝ} {ts:Ϣ} (h:(k==0||k==2||k==7)=Z):wt (.mk k n i ts)=AP (.mk k n i ts):=by grind[wt,AP]
def G5:∀(f:Nat) (t:Ty) (B:Ϣ) (M:Nat) (q:Int->Bool) (r:Ϣ),(∀i:Int,(F B:Int)<=i->i<M->q i=Z)->E4 (λi=>q i&&decide (i<F B)) t=Z ->
  (BI A7 f t B).1=Y r->F (BI A7 f t B).2<=M->∀p∈r,Pq q (wt t) p
 | 0,_,_,_,_,_,_,_,h,_=>by cases h
 | f+1,.mk k n i ts,B,M,q,r,N,j,h,d=>by
  have hf:=λt B=>KC (A7:=A7) f t B
  have L:=G5 f;have α:E4 q (.mk k n i ts)=true:=Ea (λi E=>by grind) _ j;rw[BI] at h d;cases O:k==0||k==2||k==7 with
  | true=>
   rw[O] at h;simp only[AQ] at h;cases hb:A7 1 with
   | true=>grind
   | false=>
    rw[hb] at h;cases h;intro p u;rw[DW.1 u];exact⟨α,by grind[cc]⟩
  | false=>
   rw[O] at h d;simp only[AL] at h d;have μ:(k==7)=false:=AB;rw[E4,μ] at j;simp only[AL,AK] at j
   have part:∀t∈ts,∀(m r:Ϣ),F B<=F m->(BI A7 f t m).1=Y r->F (BI A7 f t m).2<=M->∀p∈r,Pq q (wt t) p:=by
    intro t hm m r Q h d;refine L t m M q r (λi z x=>N i AA x) (Ea (λi E=>?_) _ (XS j.2.2 hm)) h d
    grind
   have τ:∀t∈ts,wt t<=(jI ts).sum:=by
    intro t hm;rw[JG];exact EM (Cw.2 ⟨t,hm,rfl⟩)
   cases S:k==4 with
   | true=>
    have A:k=4:=AB;subst A;rw[S] at h d;simp only[AQ] at h d;have s:=NJ hf (P:=Pq q (wt (.mk 4 n i ts))) (lo:=F B) (M:=M) ts [] Z B (λt hm m r Q h d p u=>(part t hm m r Q h d p u).le (by grind[wt])) (AU _)
    grind
   | false=>
    rw[S] at h d;simp only[AL] at h d;cases T:k==3 with
    | true=>
     have A:k=3:=AB;subst A;rw[T] at h d;simp only[AQ] at h d;have s:=λr=>QA hf (P:=Pq q) (w:=wt) (lo:=F B) (M:=M) ts [] [] B r part (AU _)
     rcases C:Ey (BI A7 f) ts [] B with ⟨_|ls,H⟩
     .grind
     .rw[C] at h d s
      simp only at h d s;cases ν:ls.any List.isEmpty with
      | true=>
       grind
      | false=>
       rw[ν] at h d;simp only[AL] at h d;cases I:Df A7 ls [[]] with
       | none=>grind
       | some all=>
        rw[I] at h d;simp only at h d;cases hb:A7 (F all) with
        | true=>grind
        | false=>
         rw[hb] at h;cases h;intro p u;obtain⟨a,K,rfl⟩:=Cw.1 u;have χ:=XX (q:=q) ls _ _ all 0 (s ls rfl d Ay) I (by simp[EZ,Ak]) a K;refine⟨by grind[E4],?_⟩
         grind[wt,JG,AP]
    | false=>
     rw[T] at h d;simp only[AL] at h d;cases ξ:k==6 with
     | false=>
      grind
     | true=>
      have A:k=6:=AB;subst A;rw[ξ] at h d;simp only[AQ] at h d
      match ts,part,j with
      | [],_,_=>cases h; simp
      | [_],_,_=>cases h; simp
      | _::_::_::_,_,_=>cases h; simp
      | [b,e],part,j=>
       simp only[ah] at h d;have z:=hf (sub (F B) 0 e) (B++[b]);simp only[EZ,AK] at j;rcases C:BI A7 f (sub (F B) 0 e) (B++[b]) with ⟨_|l,H⟩
       .grind
       .rw[C] at h d z
        have x:=I4 (A7:=A7) (g:=Bw A7 (BI A7 f b) (F B)) (λa B=>Js (hf b) _ a B) l [] H;have s:=λP r β=>I5 (A7:=A7) (g:=Bw A7 (BI A7 f b) (F B)) (λa B=>Js (hf b) _ a B) (P:=P) (lo:=F B+1) (M:=M) l [] H r β
        simp only[B6,CP,CQ,CY] at z h d;rcases I:Ce A7 (Bw A7 (BI A7 f b) (F B)) l [] H with ⟨_|o,ψ⟩
        .grind
        .rw[I] at h d x s
         simp only at h d x s;cases hb:A7 (F o) with
         | true=>grind
         | false=>
          rw[hb] at h;cases h;have γ:=L (sub (F B) 0 e) (B++[b]) M q l (λi z x=>N i AB x) (cV AB e 0 (Ea (λi E=>by grind) _ j.2.2.2.1)) (by rw[C]) AB;have δ:=tX (F B) e 0;refine s (Pq q (wt (.mk 6 n i [b,e]))) r ?_ AA rfl d AD;intro a K m ο ε y D;have⟨U,π⟩:=γ a K;have υ:=BC π δ;have ζ:wt (.mk 6 n i [b,e])=wt e+max 1 (cv e)*wt b:=rfl;have η:=ZZ f (sub (F B) 0 e) (B++[b]) l (by rw[C]) a K;rw[jJ] at η;rw[Bw] at y D;rw[ζ];cases X:DZ (F B) Z a with
          | true=>
           rw[X] at y;cases y;intro p u;rw[DW.1 u];exact⟨U,AA⟩
          | false=>
           rw[X] at y D;simp only[AL] at y D;have φ:Bi (·==(F B:Int)) a<=cA a:=TA (λ_ _=>rfl) a;refine RB (A7:=A7) (hf b) (lo:=F B+1) (M:=M) (W:=wt b) (q:=q) ?_ _ a m ο U ?_ ε y D
           .intro ρ ς σ θ ι c κ
            have:=L b ρ M (λi=>q i&&!(i==(F B:Int))) ς (λi z x=>by grind) (Ea (λi E=>by grind) _ j.2.2.1) θ ι c κ;refine⟨Ea (λi E=>by grind) _ this.1,(P8 (v:=F B) AD c ϴ this.1).2,this.2⟩
           .have:Bi (·==(F B:Int)) a*wt b<=max 1 (cv e)*wt b:=Be _ AA
            omega
end
section
variable {A7:Nat->Bool}
theorem G6 {α:Type} {g:α->Ϣ->FT} (b:∀a B,B<+:(g a B).2):∀(l:List α) (out B:Ϣ),B<+:(Ce A7 g l out B).2
 | [],_,_=>C5 _
 | a::l,out,B=>by
  have h:=b a B;rw[Ce];rcases d:g a B with ⟨_|r,e⟩
  .grind
  .rw[d] at h
   simp only at h ⊢;cases A7 (F (out++r)) with
   | true=>exact h
   | false=>exact h.trans (G6 b l (out++r) e)
theorem IQ {ex:Ϣ->FT} (hx:∀B,B<+:(ex B).2) (v:Nat):∀(f:Nat) (t:Ty) (B:Ϣ),B<+:(CT A7 ex v f t B).2
 | 0,_,_=>C5 _
 | f+1,t,B=>by
  have h:=hx B;rw[CT];cases DZ v ϴ t with
  | false=>simp
  | true=>
   rcases b:ex B with ⟨_|r,d⟩
   .grind
   .rw[b] at h
    exact h.trans (G6 (λc B=>IQ hx v f _ B) r [] d)
theorem HU {ex:Ϣ->FT} (hx:∀B,B<+:(ex B).2) (v:Nat) (t:Ty) (B:Ϣ):B<+:(Bw A7 ex v t B).2:=by grind[Bw,IQ]
theorem QC {ex:Ty->Ϣ->FT} (hx:∀t B,B<+:(ex t B).2):∀(l out:Ϣ) (ok:Bool) (B:Ϣ),B<+:(G1 ex l out ok B).2
 | [],_,_,_=>C5 _
 | t::l,out,ok,B=>by
  have h:=hx t B;rw[G1];rcases b:ex t B with ⟨_|r,d⟩
  .rw[b] at h
   exact h.trans (QC hx l out ϴ d)
  .rw[b] at h
   exact h.trans (QC hx l (out++r) ok d)
theorem UY {ex:Ty->Ϣ->FT} (hx:∀t B,B<+:(ex t B).2):∀(l:Ϣ) (out:List Ϣ) (B:Ϣ),B<+:(Ey ex l out B).2
 | [],_,_=>C5 _
 | t::l,out,B=>by
  have h:=hx t B;rw[Ey];rcases b:ex t B with ⟨_|r,d⟩
  .grind
  .rw[b] at h
   exact h.trans (UY hx l (out++[r]) d)
def EC:∀(f:Nat) (t:Ty) (B:Ϣ),B<+:(BI A7 f t B).2
 | 0,_,_=>C5 _
 | f+1,.mk k n i ts,B=>by
  have hf:=EC f;rw[BI];cases k==0||k==2||k==7 with
  | true=>simp
  | false=>
   simp only[AL];cases k==4 with
   | true=>
    grind[QC]
   | false=>
    simp only[AL];cases k==3 with
    | true=>
     grind[UY]
    | false=>
     simp only[AL];cases k==6 with
     | false=>simp
     | true=>
      simp only[AQ]
      match ts with
      | []=>exact C5 _
      | [_]=>exact C5 _
      | _::_::_::_=>exact C5 _
      | [b,d]=>
       grind[ah,List.prefix_append,G6,HU]
theorem KD (u:A7 0=ϴ):∀(f:Nat) (t:Ty) (B r:Ϣ),(BI A7 f t B).1=Y r->A7 (F r)=ϴ
 | 0,_,_,_,h=>by cases h
 | f+1,.mk k n i ts,B,r,h=>by
  rw[BI] at h;cases e:k==0||k==2||k==7 with
  | true=>
   grind
  | false=>
   rw[e] at h;simp only[AL] at h;cases j:k==4 with
   | true=>
    grind
   | false=>
    rw[j] at h;simp only[AL] at h;cases d:k==3 with
    | true=>
     rw[d] at h;simp only[AQ] at h;rcases m:Ey (BI A7 f) ts [] B with ⟨_|ls,x⟩
     .grind
     .rw[m] at h
      simp only at h;cases o:ls.any List.isEmpty with
      | true=>grind
      | false=>
       rw[o] at h;simp only[AL] at h;cases p:Df A7 ls [[]] with
       | none=>grind
       | some all=>
        rw[p] at h;simp only at h;cases hb:A7 (F all) with
        | true=>grind
        | false=>grind
    | false=>
     rw[d] at h;simp only[AL] at h;cases l:k==6 with
     | false=>
      grind
     | true=>
      rw[l] at h;simp only[AQ] at h
      match ts with
      | []=>cases h; omega
      | [_]=>cases h; omega
      | _::_::_::_=>cases h; omega
      | [b,s]=>
       grind[ah]
end
mutual
def inp:Ty->Bool
 | .mk k _ _ ts=>bif k==0 then ts.isEmpty else bif k==3||k==4||k==6 then UZ ts else Z
def UZ:Ϣ->Bool
 | []=>Z
 | t::l=>inp t&&UZ l
end
mutual
def pat:Ty->Bool
 | .mk k _ _ ts=>bif k==7||k==2 then Z else bif k==3 then NK ts else ts.isEmpty
def NK:Ϣ->Bool
 | []=>Z
 | t::l=>pat t&&NK l
end
def Ua:∀{l:Ϣ} {t:Ty},UZ l=Z->t∈l->inp t=Z
 | [],_,_,h=>by cases h
 | a::l,t,h,ht=>by
  simp only[UZ,AK] at h;rcases BF.1 ht with rfl|ht
  .grind
  .exact Ua h.2 ht
theorem SE:∀(l m:Ϣ),NK (l++m)=(NK l&&NK m)
 | [],m=>by rfl
 | t::l,m=>by simp[NK,SE l m,Lz]
mutual
def l6 (v:Nat):∀(t:Ty) (u:Nat),inp t=Z->inp (sub v u t)=Z
 | .mk k n i ts,u,h=>by
  rw[inp] at h;rw[sub];cases e:k==5 with
  | true=>
   have:k=5:=AB;subst this;simp only[AQ];cases i==(u:Int) with
   | true=>rfl
   | false=>cases decide ((u:Int)<i) <;> rfl
  | false=>
   simp only[AL];rw[inp];cases b:k==0 with
   | true=>
    rw[b] at h;simp only[AQ,Eu] at h ⊢;rw[h];rfl
   | false=>
    rw[b] at h;simp only[AL] at h ⊢;cases d:(k==3||k==4||k==6) with
    | true=>
     rw[d] at h;exact cg v ts u k 0 h
    | false=>rfl
def cg (v:Nat):∀(l:Ϣ) (u:Nat) (k:Int) (j:Nat),UZ l=Z->UZ (LB v u k j l)=Z
 | [],_,_,_,_=>rfl
 | t::l,u,k,j,h=>by
  simp only[UZ,AK] at h;simp only[LB,UZ,AK];exact⟨l6 v t _ h.1,cg v l u k (j+1) h.2⟩
end
mutual
def TB {m:Int->Bool} {b:Ty} (hb:pat b=Z):∀(t:Ty) (k:Nat),pat t=Z->pat (JM m b t k)=Z
 | .mk c n i ts,k,h=>by
  have e:=h;rw[pat] at h;rw[JM];cases d:c==7 with
  | true=>
   grind
  | false=>
   rw[d] at h;cases f:c==3 with
   | false=>grind
   | true=>
    have:c=3:=AB;subst this;exact cj hb ts k h
def cj {m:Int->Bool} {b:Ty} (hb:pat b=Z):∀(l:Ϣ) (k:Nat),NK l=Z->NK (Ka m b l k)=Z
 | [],_,_=>rfl
 | t::l,k,h=>by
  simp only[NK,AK] at h;rw[Ka];cases decide (k<Bi m t) with
  | true=>
   simp only[AQ,NK,AK];exact⟨TB hb t k h.1,h.2⟩
  | false=>
   simp only[AL,NK,AK];exact⟨h.1,cj hb l _ h.2⟩
end
mutual
theorem Za {v:Nat}:∀t:Ty,pat t=Z->DZ v Z t=ϴ->DZ v ϴ t=decide (0<Bi (·==(v:Int)) t)
 | .mk k n i ts,b,h=>by
  rw[DZ] at h;rw[pat] at b;rw[DZ,Bi];cases e:k==7 with
  | true=>
   grind
  | false=>
   rw[e] at h b;simp only[AL,Cm,HB,Fy] at h b ⊢;cases f:k==2 with
   | true=>
    grind
   | false=>
    rw[f] at h b;simp only[PW,AL] at h b;cases d:k==3 with
    | true=>
     rw[d] at b;exact ck ts b h
    | false=>
     rw[d] at b;simp only[AL,Eu] at b;subst b;rfl
theorem ck {v:Nat}:∀l:Ϣ,NK l=Z->GV v Z l=ϴ->GV v ϴ l=decide (0<Cz (·==(v:Int)) l)
 | [],_,_=>rfl
 | t::l,b,h=>by
  simp only[NK,AK] at b;simp only[GV,HC] at h;rw[GV,Za t b.1 h.1,ck l b.2 h.2,Cz]
  grind
end
mutual
def Zb {v:Nat} {m:Int->Bool} {b:Ty} (hb:DZ v Z b=ϴ):∀(t:Ty) (k:Nat),DZ v Z t=ϴ->DZ v Z (JM m b t k)=ϴ
 | .mk c n i ts,k,h=>by
  have e:=h;rw[DZ] at h;rw[JM];cases d:c==7 with
  | true=>
   grind
  | false=>
   rw[d] at h;cases f:c==3 with
   | false=>grind
   | true=>
    have:c=3:=AB;subst this;exact cm hb ts k h
def cm {v:Nat} {m:Int->Bool} {b:Ty} (hb:DZ v Z b=ϴ):∀(l:Ϣ) (k:Nat),GV v Z l=ϴ->GV v Z (Ka m b l k)=ϴ
 | [],_,_=>rfl
 | t::l,k,h=>by
  simp only[GV,HC] at h;rw[Ka];cases decide (k<Bi m t) with
  | true=>
   simp only[AQ,GV,HC];exact⟨Zb hb t k h.1,h.2⟩
  | false=>
   simp only[AL,GV,HC];exact⟨h.1,cm hb l _ h.2⟩
end
section
variable {A7:Nat->Bool}
def Ub {α:Type} {g:α->Ϣ->FT} {P:Ty->Prop}:∀(l:List α) (out B:Ϣ) (r:Ϣ),(∀a∈l,∀B r,(g a B).1=Y r->∀p∈r,P p)->(Ce A7 g l out B).1=Y r->(∀p∈out,P p)->∀p∈r,P p
 | [],out,B,r,_,h,e=>by grind[Ce]
 | a::l,out,B,r,b,h,e=>by
  have d:=b a AD B;rw[Ce] at h;rcases f:g a B with ⟨_|s,i⟩
  .grind
  .rw[f] at h d
   simp only at h d;cases hb:A7 (F (out++s)) with
   | true=>grind
   | false=>
    rw[hb] at h;refine Ub l (out++s) i r (λa j=>b a AB) h ?_
    grind
theorem RF {ex:Ϣ->FT} (d:∀B r,(ex B).1=Y r->∀c∈r,pat c=Z) {v:Nat}:∀(f:Nat) (t:Ty) (B r:Ϣ),pat t=Z->(CT A7 ex v f t B).1=Y r->∀p∈r,pat p=Z
 | 0,t,B,r,e,h=>by grind[CT]
 | f+1,t,B,r,e,h=>by
  have b:=d B;rw[CT] at h;cases i:DZ v ϴ t with
  | false=>
   grind
  | true=>
   rw[i] at h;simp only[AQ] at h;rcases j:ex B with ⟨_|cs,k⟩
   .grind
   .rw[j] at h b
    simp only at h b;exact Ub cs [] k r (λc l m n o=>RF d f _ m n (TB (b cs rfl c l) t 0 e) o) h AD
def Uc {ex:Ty->Ϣ->FT} {P:Ty->Prop}:∀(l out:Ϣ) (ok:Bool) (B:Ϣ),(∀t∈l,∀B r,(ex t B).1=Y r->∀p∈r,P p)->(∀p∈out,P p)->∀p∈(G1 ex l out ok B).1.1,P p
 | [],_,_,_,_,b=>b
 | t::l,out,ok,B,d,b=>by
  have f:=d t AD B;rw[G1];rcases i:ex t B with ⟨_|s,e⟩
  .exact Uc l out ϴ e (λa j=>d a AB) b
  .rw[i] at f
   refine Uc l (out++s) ok e (λa j=>d a AB) ?_
   grind
def cq {ex:Ty->Ϣ->FT} {P:Ty->Prop}:∀(l:Ϣ) (out:List Ϣ) (B:Ϣ) (r:List Ϣ),(∀t∈l,∀B r,(ex t B).1=Y r->∀p∈r,P p)->(Ey ex l out B).1=Y r->(∀o∈out,∀p∈o,P p)->∀o∈r,∀p∈o,P p
 | [],out,B,r,_,h,d=>by grind[Ey]
 | t::l,out,B,r,b,h,d=>by
  have e:=b t AD B;rw[Ey] at h;rcases f:ex t B with ⟨_|s,i⟩
  .grind
  .rw[f] at h e
   refine cq l (out++[s]) i r (λa j=>b a AB) h ?_
   grind
def XZ:∀(ls out r:List Ϣ),(∀l∈ls,∀p∈l,pat p=Z)->Df A7 ls out=Y r->(∀p∈out,NK p=Z)->∀p∈r,NK p=Z
 | [],out,r,_,h,b=>by grind[Df]
 | l::ls,out,r,d,h,b=>by
  rw[Df] at h;cases hb:A7 (F (out.flatMap λp=>l.map λx=>p++[x])) with
  | true=>grind
  | false=>
   rw[hb] at h;refine XZ ls _ r (λa e=>d a AB) h ?_
   grind[SE,NK]
def KE:∀(f:Nat) (t:Ty) (B r:Ϣ),inp t=Z->(BI A7 f t B).1=Y r->∀p∈r,pat p=Z
 | 0,_,_,_,_,h=>by cases h
 | f+1,.mk k n i ts,B,r,d,h=>by
  have j:=KE f;rw[inp] at d;rw[BI] at h;cases A:k==0||k==2||k==7 with
  | true=>
   rw[A] at h;cases hb:A7 1 with
   | true=>grind
   | false=>
    rw[hb] at h;cases h;intro p m;rw[DW.1 m];have:k=0\/k=2\/k=7:=AB;rcases this with rfl|rfl|rfl
    all_goals assumption
  | false=>
   rw[A] at h;simp only[AL] at h;have K:(k==0)=false:=AB;rw[K] at d;simp only[AL] at d;cases C:k==4 with
   | true=>
    rw[C] at h d;simp only[AQ,Dx,D6] at h d;have e:=Uc (P:=λp=>pat p=Z) ts [] Z B (λt hm o s u=>j t o s (Ua d hm) u) AD
    grind
   | false=>
    rw[C] at h d;simp only[AL,Bool.or_false] at h d;cases D:k==3 with
    | true=>
     rw[D] at h d;simp only[AQ,D6] at h d;have e:=λr=>cq (P:=λp=>pat p=Z) ts [] B r (λt hm o s u=>j t o s (Ua d hm) u)
     rcases x:Ey (BI A7 f) ts [] B with ⟨_|ls,E⟩
     .grind
     .rw[x] at h e
      simp only at h e;cases L:ls.any List.isEmpty with
      | true=>grind
      | false=>
       rw[L] at h;simp only[AL] at h;cases H:Df A7 ls [[]] with
       | none=>grind
       | some all=>
        rw[H] at h;simp only at h;cases hb:A7 (F all) with
        | true=>grind
        | false=>
         rw[hb] at h;cases h;intro p m;obtain⟨a,M,rfl⟩:=Cw.1 m;exact XZ ls _ all (e ls rfl AD) H (by simp[NK]) a M
    | false=>
     rw[D] at h d;simp only[AL,Fy] at h d;cases I:k==6 with
     | false=>
      grind
     | true=>
      rw[I] at h d;simp only[AQ] at h d
      match ts,d with
      | [],_=>cases h; simp
      | [_],_=>cases h; simp
      | _::_::_::_,_=>cases h; simp
      | [b,z],d=>
       simp only[UZ,AK] at d;simp only[ah] at h;have y:=j (sub (F B) 0 z) (B++[b]);rcases x:BI A7 f (sub (F B) 0 z) (B++[b]) with ⟨_|l,E⟩
       .grind
       .rw[x] at h y
        simp only at h y;have O:=y l (l6 _ _ 0 d.2.1) rfl;have e:=λr N=>Ub (A7:=A7) (g:=Bw A7 (BI A7 f b) (F B)) (P:=λp=>pat p=Z) l [] E r N
        grind[Bw,RF]
end
attribute [local simp] Hr MD Ir JL EK E3 Ee wO setCells Hw EX Dd Co Ex alive Dh Jf Qk bU Gq Iu Gl Hs K9 Iv gX fY okB gY gZ gh gi gj ag gm gp gu gv gw gx gy gz hG hJ hO okF hY iA iB iC iD Tu iE Ow Ox Oy Oz iG iH iI iJ iK iL iM iP iQ iR GG iT fZ iU iV iW iX iY iZ ia ic ie ig C0
def BX (v:Ty) (x:AV):Prop:=match v with
 | .mk k n i ts=>∃a,x=.agg [AG k,SS n,AG i,a]/\BN a (Aj ts)
def BD.Du {v:Ty} {x:AV} (h:BD v x):BX v x:=by
 obtain⟨k,n,i,ts⟩:=v;obtain⟨a,rfl,b⟩:=h;exact⟨a,rfl,.inl b⟩
def BX.closed {v:Ty} {x:AV} (h:BX v x) (bs:Ϩ) (n:Nat):∃b,close bs n 0 x=Y b/\BD v b:=by
 obtain⟨k,c,i,ts⟩:=v;obtain⟨a,rfl,e⟩:=h;have⟨d,f,j⟩:=e.closed bs n;exact⟨.agg [AG k,SS c,AG i,d],by simp[f],⟨d,rfl,j⟩⟩
abbrev Z4:Ϭ:=[AG 0,SS [],AG 0,.AE []]
theorem Ff (l m:Ϣ):Aj (l++m)=Aj l++Aj m:=by simp[Iw]
theorem HV {l:Ϣ} {r:Ϧ} (h:r∈Aj l):F r=4:=by grind[Iw,Aq]
def Eg {t:Ty} {x:AV} (h:BX t x) {s:AY} {K:Ϡ} (d:K (.AE [Av t]) s):HJ ϴ s 4 [(AG 0),(SS []),(AG 0),(.AE [])] 1 [(0,4,x)] K:=by
 obtain⟨k,n,i,ts⟩:=t;obtain⟨a,rfl,b⟩:=h;simp only[Av] at d;simp[HJ,GC,CZ,b.ok,b.KX];omega
def O6 {L:Ba} {s:AY} {a:AV} {es:Ϣ} {t:Ty} {K:Ϡ} (l:D1 0 s.ts 25 a (Aj es)) (i:L.rt=0) (m:F es<2 ^ 38) (h:∀d b,D1 0 b 25 d (Aj (es++[t]))->K d ⟨s.bs,b⟩) :
  I6 ϴ L s 25 4 56 a (.AE [Av t]) K:=by
 have j:F (Aj es)=F es:=Ae es;have:=NL (L:=L) (bs:=s.bs) (ts:=[]) (x:=s.ts) (e:=25) (k:=4) (bytes:=56) (a:=a) (rows:=Aj es) (row:=Av t) (K:=K) AB AA (λr f=>HV f) (Aq t) AA (DG t) AA AA (by grind[Ff,Aj])
 simp_all
def C1 {L:Ba} {s:AY} {id off:Nat} {v:AV} {cs:Ϭ} {K:AY->Prop} (hb:s.bs[id]?=Y cs) (f:off<F cs) (e:cellsOf v=[v]) (b:L.ro<=id) (d:BS v=Z) (hn:L.n0<=id\/Jw v=Z) (h:K ⟨s.bs.set id (cs.set off v),s.ts⟩):Hw L s 1 (.ptr id off) v K:=by
 simp only[Hw,hb,wO,e];refine⟨⟨rfl,by simp; omega,b,by simp[d],hn.imp (λh=>h) λh=>by simp[JB,h],AA⟩,?_⟩;simpa[setCells] using h
def Fm {lo:Nat} {ts:Ϫ} {k:Nat} {a:AV} {es:Ϣ} (h:D1 lo ts k a (Aj es)):Tel.D9 a a=true:=by
 rcases h with rfl|⟨t,rfl,_⟩
 all_goals simp[*,Tel.D9,Dm]
def D8 (a b:Nat):Tel.D9 (.ptr a b) (.ptr a b)=true:=by simp[Tel.D9]
def Am {bs:Ϩ} {j:Nat} {c:Ϭ} (h:bs[j]?=Y c) (b:Ϭ):(bs++[b])[j]?=Y c:=AB
def A0 (bs:Ϩ) (b:Ϭ):(bs++[b])[F bs]?=Y b:=AD
theorem BR {bs:Ϩ} {j k:Nat} {c b:Ϭ} (h:bs[j]?=Y c) (hn:k≠j):(bs.set k b)[j]?=Y c:=AB
def BT {bs:Ϩ} {j:Nat} {c b:Ϭ} (h:bs[j]?=Y c):(bs.set j b)[j]?=Y b:=AB
section
variable {R:RT}
def Cd {s:AY} {t:Ty} {K:AV->Prop} (b:K (.agg ((Av t).map .pv))):EX (env R) s (Y 4) (.DF (Av t) 0) K:=by
 simp only[EX,Dd,Kg];refine⟨by rw[Bj,Aq]; omega,?_⟩;rw[CC (by rw[Bj,Aq]; omega)];exact b
def jK {ts:Ϣ} {a:AV} (C:A3 a (Aj ts)) (Q:Ak ts<2 ^ 38) {k i:Int} {n:Ϝ} (D:∀t∈ts,Ah (env R) 146 [.agg ((Av t).map .pv)] λr=>BD t r) {Post:AV->Prop} (E:∀r,BD (.mk k n i ts) r->Post r) :
  ∀(j q:Nat) (s:AY) (b:AV),q+j=F ts->s.bs[1]?=Y Z4->s.bs[2]?=Y [AG k,SS n,AG i,b]->D1 0 s.ts 25 b (Aj (ts.take q))->tY R 0 0 0 (.ptr 1 0) (.ptr 2 0) a (AG (F ts)) (AG q) s (QP Post):=by
 have O:=Bl ts;intro j
 induction j with
 | zero=>
  intro q s b H m p hb;refine tZ (Ao ?_);rw[A5 AA];refine A4 (AGA (Ag p rfl (Bn m rfl rfl AH (AO _) (by simp[hb.BA.ok]) (.inl (AO _)) (Ag (BT m) rfl ?_))));rw[CC AA] at hb;have⟨r,I,K⟩:=BX.closed (v:=.mk k n i ts) ⟨b,rfl,hb.BA⟩ (s.bs.set 1 [AG k,SS n,AG i,b]) 0;exact⟨r,I,E r K⟩
 | succ j z=>
  intro q s b H m p hb;refine tZ (Ao ?_);rw[Ax AA];have⟨t,L⟩:∃t,ts[q]?=Y t:=⟨_,Az AA⟩;refine BH (AGB (BL C (row:=Av t) AA (by grind[BK]) (Aq t) AA (Cd ?_)));have hm:=D t (A8 L);have x:((Av t).map AV.pv).all BS=true:=DG t;have u:F ((Av t).map AV.pv)=4:=by grind[Aq]
  generalize (Av t).map AV.pv=f at hm x u;obtain⟨l,tk⟩:=s;simp only[Hr] at *;have S:=(BJ.1 m).1;have T:=(BJ.1 p).1;refine Bn (A0 l Z4) u rfl AH (AO _) x (.inl (AO _)) ?_;have e:(l++[Z4]).set (F l) f=l++[f]:=AD;rw[e];have M:=Am m f;have d:=Am p f;refine AR (Ab d) (Ad d rfl (Ag (A0 l f) u (AI hm ?_)));intro v N;refine Eg N.Du ⟨AH,O6 hb rfl AB ?_⟩;intro y A o;have B:ts.take q++[t]=ts.take (q+1):=by grind[List.take_add_one]
  rw[B] at o;refine AR (Ab d) (C1 d AD o.BA.cells (AO _) o.BA.ok (.inl (AO _)) ?_);refine⟨AR (Ab d) (D8 _ _),Ad d rfl (Fm hb),AGC (Bb AA AA ?_)⟩;have:=z (q+1) ⟨(l++[f]).set 2 [AG k,SS n,AG i,y],A⟩ y AA (BR M AH) (BT d) o
  grind
mutual
def Ud:∀(t:Ty),AP t<2 ^ 38->∀(x:AV),BD t x->Ah (env R) 146 [x] λr=>BD t r
 | .mk k n i ts,h,x,hx=>by
  obtain⟨a,rfl,b⟩:=hx;simp only[AP] at h;have d:=SG ts AA;refine AWa (u0:=.agg [AG k,SS n,AG i,a]) (by simp[b.close]) (AGD ?_);refine Bs rfl (by simp[b.ok]) (Bh (Ag rfl rfl (Bh (Bn (old:=Z4) rfl rfl rfl AH (AO _) (by simp[b.ok]) (.inl (AO _)) ?_))));refine AR rfl (C1 (off:=3) rfl (AU 4) rfl (AO _) rfl (.inl (AO _)) (AR rfl (Ad rfl rfl (Au (n:=F ts) (by rw[b.BG,Ae]) ?_))));exact jK b AA d (λr e=>e) (F ts) 0 _ (.AE []) AA rfl rfl (.inl rfl)
def SG:∀(l:Ϣ),Ak l<2 ^ 38->∀t∈l,Ah (env R) 146 [.agg ((Av t).map .pv)] λr=>BD t r
 | [],_,_,h=>by cases h
 | e::l,h,t,hm=>by
  simp only[Ak] at h;rcases BF.1 hm with h' | h'
  .rw[h']
   exact Ud e AA _ (BD.Bo e)
  .exact SG l AA t h'
end
end
def l7 {L:Ba} {s:AY} {a:AV} {es:Ϣ} {t:Ty} {K:Ϡ} (m:D1 L.rt s.ts 25 a (Aj es)) (i:L.rt<=F s.ts) (n:F es<2 ^ 38) (h:∀d b,D1 L.rt b 25 d (Aj (es++[t]))->L.rt<=F b->K d ⟨s.bs,b⟩) :
  I6 ϴ L s 25 4 56 a (.AE [Av t]) K:=by
 have j:F (Aj es)=F es:=Ae es;have l:F (s.ts.take L.rt)=L.rt:=AB;have e:s.ts.take L.rt++s.ts.drop L.rt=s.ts:=List.take_append_drop _ _;have:=NL (L:=L) (bs:=s.bs) (ts:=s.ts.take L.rt) (x:=s.ts.drop L.rt) (e:=25) (k:=4) (bytes:=56) (a:=a) (rows:=Aj es) (row:=Av t) (K:=K) AB AA (λr f=>HV f) (Aq t) AA (DG t) AA AA (by grind[Ff,Aj])
 simp_all
def MP {m:Nat} {ts:Ϫ} {k:Nat} {a:AV} {rows:Ϯ} (h:D1 m ts k a rows) (bs:Ϩ) (n:Nat):∃b,close bs n m a=Y b/\A3 b rows:=by
 rcases h with rfl|⟨t,rfl,_,d⟩
 .simp[*,A3.AE]
 .have:¬ t<m:=by omega
  exact⟨.pv (.list rows),by grind[close],.list _⟩
def NM (t:Ty):Tel.D9 (.agg ((Av t).map .pv)) (.agg ((Av t).map .pv))=true:=by
 cases t
 grind[Av,Tel.D9,JY,OH,F7,Ie,Dm]
theorem BM.set {s:AY} (h:BM s) {j:Nat} {c:Ϭ} (d:Ap (F s.bs) c=Z) (ts:Ϫ):BM ⟨s.bs.set j c,ts⟩:=by
 intro b hb;simp only[Ns];rcases kZ hb with hb|rfl
 .exact h b hb
 omega
mutual
def N4:Ty->Bool
 | .mk k _ i ts=>(!(k==5)||(ts.isEmpty&&decide (-(2 ^ 60)<=i)&&decide (i<2 ^ 60)))&&RG ts
def RG:Ϣ->Bool
 | []=>Z
 | t::l=>N4 t&&RG l
end
abbrev AMa (p:Nat):AV:=.func (.func 122) [] [.ptr p 0]
section
variable {R:RT}
def AGE (i u:Int) (k:0<=u) (l:i<2 ^ 60) (p:Nat) {s:AY} (hs:BM s) (m:p<F s.bs) (L:Ba) :
  Bk (env R) L 122 [AG i,AG u,.ptr p 0] s (.tuple [bif i==u then .ptr p 0 else .pv (.sc (.pointer G)),AG (bif i==u then 0 else bif decide (u<i) then i-1 else i)]) s:=by
 have d:∀(j:Bool) (x:AV) (n:Int),(x=.ptr p 0\/x=.pv (.sc (.pointer G)))->QM j (F s.bs) (λv b=>v=.tuple [x,AG n]/\b=s) (.tuple [x,AG n]) s:=by
  intro j x n hx;have e:s.bs.take (F s.bs)=s.bs:=Lu;refine KF (ds:=[x,AG n]) ?_ ?_ ?_
  .rw[e,Cl]
   exact hs
  .grind[BZ,close]
  simp
 obtain⟨v,b,⟨rfl,rfl⟩,o⟩:=AWb (R:=R) (L:=L) (s:=s) (t0:=AG i) (t1:=AG u) (t2:=.ptr p 0) (Post:=λv b=>v=.tuple [bif i==u then .ptr p 0 else .pv (.sc (.pointer G)),AG (bif i==u then 0 else bif decide (u<i) then i-1 else i)]/\b=s) AX (AGF (BE (by
  cases r:(i==u) with
  | true=>simp[*]
  | false=>
   refine A4 (Gv ?_)
   by_cases f:u<i
   .have:i>u:=f
    rw[Ax this];exact BH (FL AA AA (d _ _ _ (.inr rfl)))
   .have:¬ i>u:=f
    rw[A5 this];exact A4 (AGG (d _ _ _ (.inr rfl))))))
 omega
theorem HF (k:Int) (n:Ϝ) (i:Int) (ts:Ϣ) (h:k≠7):ren (.mk k n i ts)=.mk k n i (CO ts):=by grind[ren]
def td {p:Nat} {B:Ϭ} {fn:AV} {ts ls:Ϣ} {a:AV} (M:A3 a (Aj ts)) (σ:F ts<2 ^ 38) (π:F ls=F ts) {k i:Int} {n:Ϝ} {u:Nat} (τ:u<2 ^ 60)
  {s0:AY} (ρ:BM s0) (δ:s0.bs[p]?=Y B)
  (ε:∀(q:Nat) (t l:Ty),ts[q]?=Y t->ls[q]?=Y l->∀s,BM s->s.bs[p]?=Y B->∃r,BD l r/\∀L,Bk (env R) L 121 [.agg ((Av t).map .pv),AG (u+Dz k q:Nat),fn] s r s)
  {i':Int} {Post:AV->Prop} (ζ:∀r,BD (.mk k n i' ls) r->Post r) :
  ∀(j q:Nat) (s:AY) (b:AV),q+j=F ts->BM s->s.bs[p]?=Y B->s.bs[F s0.bs]?=Y [AG k,SS n,AG i,a]->s.bs[F s0.bs+1]?=Y Z4->s.bs[F s0.bs+2]?=Y [AG k,SS n,AG i',b] ->
   D1 (F s0.ts) s.ts 25 b (Aj (ls.take q))->F s0.ts<=F s.ts ->
   th R (F s0.bs) (F s0.bs) (F s0.ts) (AG u) fn (.ptr (F s0.bs) 0) (.ptr (F s0.bs+1) 0) (.ptr (F s0.bs+2) 0) a (AG (F ts)) (AG q) s (QI (F s0.bs) (F s0.ts) Post):=by
 intro j
 induction j with
 | zero=>
  intro q s b η N O Q z A hb D;refine tj (Ao ?_);rw[A5 AA];refine A4 (AGH (Ag A rfl (Bn z rfl rfl AH AD (by simp[hb.BA.ok]) (.inl AD) (Ag (BT z) rfl ?_))));rw[CC AA] at hb;have⟨x,θ,ι⟩:=MP hb (s.bs.set (F s0.bs+1) [AG k,SS n,AG i',b]) (F s0.bs);exact⟨.agg [AG k,SS n,AG i',x],by simp[θ],ζ _ ⟨x,rfl,ι⟩⟩
 | succ j U=>
  intro q s b η N O Q z A hb D;refine tj (Ao ?_);rw[Ax AA];have⟨t,κ⟩:∃t,ts[q]?=Y t:=⟨_,Az AA⟩;have⟨l,W⟩:∃l,ls[q]?=Y l:=⟨_,Az AA⟩;have y:F ((Av t).map AV.pv)=4:=by grind[Aq]
  have E:=DG t
  have H:Ap (F s.bs+1) ((Av t).map AV.pv)=true:=by
   obtain⟨k1,υ,φ,χ⟩:=t;rfl
  refine BH (AGI (BL M (row:=Av t) AA (by simp[*,BK]) (Aq _) AA (Cd (Bh ?_))));have I:=ε q t l κ W;have C:=NM t;generalize (Av t).map AV.pv=d at y E H I C;obtain⟨f,tk⟩:=s;have ψ:=(BJ.1 A).1;simp only at *;refine Bn (A0 f Z4) y rfl AH (by simp[Co]; omega) E (.inl (by simp[Co]; omega)) ?_;have e:(f++[Z4]).set (F f) d=f++[d]:=AD;rw[e];have μ:=Am O d;have S:=Am Q d;have ν:=Am z d;have m:=Am A d;have K:BM ⟨f++[d],tk⟩:=BM.app (s:=⟨f,tk⟩) N H;have ς:=Q3 k q;have X:Ah (env R) 119 [.agg [AG k,SS n,AG i,a],AG q] λr=>r=AG (Dz k q):=ME M q
  have⟨r,α,β⟩:=I ⟨f++[d],tk⟩ K μ;refine AR (Ab m) (Ad m rfl (Ag (A0 f d) y (Ag S rfl (AI X ?_))));rintro _ rfl;refine Bb AA AA ?_;have ξ:((u:Int)+(Dz k q:Nat))=((u+Dz k q:Nat):Int):=AA;rw[ξ];refine⟨r,_,β _,Eg α.Du ⟨AH,l7 hb D AB ?_⟩⟩;intro x γ o T;have ο:ls.take q++[l]=ls.take (q+1):=by grind[List.take_add_one]
  rw[ο] at o;refine AR (Ab m) (C1 m AD o.BA.cells AD o.BA.ok (.inl AD) ?_);refine⟨AR (Ab m) (D8 _ _),AR (Ab m) (D8 _ _),Ad m rfl (Fm hb),Ad m rfl (Fm hb),Ag (A0 f d) y C,AGJ (Bb AA AA ?_)⟩;have ω:=(BJ.1 δ).1;have:=U (q+1) ⟨(f++[d]).set (F s0.bs+2) [AG k,SS n,AG i',x],γ⟩ x AA ?_ ?_ (BR S AA) (BR ν AA) (BT m) o T
  .grind
  .exact BM.set (s:=⟨f++[d],tk⟩) K (by simp[Ap,A6,o.BA.A6]) _
  grind[BR]
end
def MQ {k i:Int} {n:Ϝ} {ts:Ϣ} (h:A2 (.mk k n i ts)=Z):(n.head?==Y 36)=ϴ/\F n<2 ^ 40:=by
 simp only[A2,AK] at h;have nil:n=[]->(n.head?==Y 36)=ϴ/\F n<2 ^ 40:=AB;rcases JN h.1 with ⟨_,b,_⟩|⟨_,b,_⟩|rfl|⟨_,b,_⟩|⟨_,b,_⟩|⟨_,b,_⟩|⟨_,b,_⟩
 .grind
 .grind
 .have f:=h.1
  simp[root,shape] at f;obtain⟨_,⟨⟨d,_⟩,_⟩,_⟩:=f;unfold NB at d;simp only[AK,Cu] at d;refine⟨?_,AA⟩;rcases n with _|⟨c,w⟩
  .rfl
  .have e:=d.1.2
   simp only at e;rw[Nk];intro j;have j:c=36:=AB;rw[j] at e;exact absurd e AH
 all_goals grind
theorem Lg {n:Ϝ} {i:Int} {ts:Ϣ} (h:A2 (.mk 5 n i ts)=Z):i<=200:=by grind[A2,root,shape]
def EO (σ:Ϟ) (u:Nat) {k i:Int} {n:Ϝ} {ts:Ϣ} (b:A2 (.mk k n i ts)=Z):(k=5/\n=[]/\ts=[]/\0<=i/\i<=200/\((∃v∈σ,inst σ u (.mk k n i ts)=ph v)\/inst σ u (.mk k n i ts)=.mk 5 [] i []))\/((k==5)=ϴ/\inst σ u (.mk k n i ts)=.mk k n i (Dg σ u k 0 ts)):=by
 by_cases d:k=5
 .subst d
  obtain⟨rfl,rfl,e⟩:=EL b;refine .inl ⟨rfl,rfl,rfl,e,Lg b,?_⟩
  grind[inst]
 grind[inst]
mutual
theorem G7 {q:Int->Bool} {σ:Ϟ} (d:∀x∈σ,q x=Z):∀(t:Ty) (u:Nat),A2 t=Z->E4 q (inst σ u t)=Z
 | .mk k n i ts,u,b=>by
  rcases EO σ u b with ⟨rfl,rfl,rfl,f,j,⟨v,l,h3⟩|h3⟩|⟨m,h3⟩
  .grind[E4]
  .grind[E4,EZ]
  .have e:(k==7)=false:=by grind[HK]
   have hn:=MQ b;simp only[A2,AK] at b;rw[h3,E4,e,Xa d ts u k 0 b.2]
   grind
theorem Xa {q:Int->Bool} {σ:Ϟ} (d:∀x∈σ,q x=Z):∀(l:Ϣ) (u:Nat) (k:Int) (j:Nat),BO l=Z->EZ q (Dg σ u k j l)=Z
 | [],_,_,_,_=>rfl
 | t::l,u,k,j,b=>by
  simp only[BO,AK] at b;rw[Dg,EZ,G7 d t _ b.1,Xa d l u k (j+1) b.2];rfl
end
mutual
def Ue (σ:Ϟ):∀(t:Ty) (u:Nat),A2 t=Z->N4 (inst σ u t)=Z
 | .mk k n i ts,u,b=>by
  rcases EO σ u b with ⟨rfl,rfl,rfl,j,l,⟨v,m,h3⟩|h3⟩|⟨d,h3⟩
  .rw[h3]
   rfl
  .rw[h3,N4]
   have e:decide (-(2 ^ 60)<=i)=true:=Ax AA;have f:decide (i<2 ^ 60)=true:=Ax AA;rw[e,f];rfl
  .simp only[A2,AK] at b
   rw[h3,N4,d,Xb σ ts u k 0 b.2];rfl
def Xb (σ:Ϟ):∀(l:Ϣ) (u:Nat) (k:Int) (j:Nat),BO l=Z->RG (Dg σ u k j l)=Z
 | [],_,_,_,_=>rfl
 | t::l,u,k,j,b=>by
  simp only[BO,AK] at b;rw[Dg,RG,Ue σ t _ b.1,Xb σ l u k (j+1) b.2];rfl
end
mutual
theorem l8 (σ:Ϟ):∀(t:Ty) (u:Nat),A2 t=Z->cv (inst σ u t)=cv t
 | .mk k n i ts,u,b=>by
  rcases EO σ u b with ⟨rfl,rfl,rfl,d,e,⟨v,f,h3⟩|h3⟩|⟨j,h3⟩
  .rw[h3]
   rfl
  .rw[h3]
  .simp only[A2,AK] at b
   rw[h3,cv,cv,Ug σ ts u k 0 b.2]
theorem Ug (σ:Ϟ):∀(l:Ϣ) (u:Nat) (k:Int) (j:Nat),BO l=Z->MK (Dg σ u k j l)=MK l
 | [],_,_,_,_=>rfl
 | t::l,u,k,j,b=>by
  simp only[BO,AK] at b;rw[Dg,MK,MK,l8 σ t _ b.1,Ug σ l u k (j+1) b.2]
end
mutual
theorem FM (σ:Ϟ):∀(t:Ty) (u:Nat),A2 t=Z->AP (inst σ u t)=AP t/\Al (inst σ u t)=Al t/\wt (inst σ u t)=wt t/\inp (inst σ u t)=Z
 | .mk k n i ts,u,b=>by
  rcases EO σ u b with ⟨rfl,rfl,rfl,e,f,⟨v,j,h3⟩|h3⟩|⟨l,h3⟩
  .rw[h3]
   exact⟨rfl,rfl,rfl,rfl⟩
  .rw[h3]
   exact⟨rfl,rfl,rfl,rfl⟩
  .have d:=b
   simp only[A2,AK] at b;have⟨m,o,e3,e4⟩:=Uh σ ts u k 0 b.2;rw[h3];refine⟨by grind[AP],by grind[Al],by grind[wt,Ug],?_⟩;rw[inp,e4];cases p:(k==0) with
   | false=>simp
   | true=>
    have:k=0:=AB;subst this;rcases JN b.1 with ⟨_,_,_,rfl⟩|h|h|h|h|h|h
    .rfl
    all_goals omega
theorem Uh (σ:Ϟ):∀(l:Ϣ) (u:Nat) (k:Int) (j:Nat),BO l=Z->Ak (Dg σ u k j l)=Ak l/\Cp (Dg σ u k j l)=Cp l/\jI (Dg σ u k j l)=jI l/\UZ (Dg σ u k j l)=Z
 | [],_,_,_,_=>⟨rfl,rfl,rfl,rfl⟩
 | t::l,u,k,j,b=>by
  simp only[BO,AK] at b;have⟨d,e,e3,e4⟩:=FM σ t (u+Dz k j) b.1;have⟨f,i,m,n⟩:=Uh σ l u k (j+1) b.2
  grind[Dg,Ak,Cp,jI,UZ]
end
mutual
theorem IU:∀(t:Ty),A2 t=Z->ren t=t
 | .mk k n i ts,b=>by
  have d:(k==7)=false:=by grind[HK]
  simp only[A2,AK] at b;rw[ren,d,Ui ts b.2];rfl
theorem Ui:∀(l:Ϣ),BO l=Z->CO l=l
 | [],_=>rfl
 | t::l,b=>by
  simp only[BO,AK] at b;rw[CO,IU t b.1,Ui l b.2]
end
theorem Ck {t:Ty} (b:A2 t=Z) (d:CJ 0 t=Z):inst [] 0 t=t:=Ig [] t 0 b d
section
variable {R:RT}
def l9 {s:AY} {m:Option Nat} {K:AV->Prop} (h:K (BB ϴ)):cr s (Uj (.pv (.sc (.pointer G)))) m .neq (.pv (.sc (.pointer G))) (.pv (.sc (.pointer G))) K:=Bp
def zi {s:AY} {n:Option Nat} {id off:Nat} {K:AV->Prop} (b:alive s id=Z) (h:K (BB Z)):cr s n (Y 0) .neq (.ptr id off) (.pv (.sc (.pointer G))) K:=by
 simp only[cr,Uk,HB];refine⟨?_,h⟩
 simp_all[sameKind,Ec]
def Gp (s:AY) (c d:Ϭ):AY:=⟨s.bs++[c]++[Z4]++[d],s.ts⟩
def I7 {s:AY} {c d:Ϭ}:(Gp s c d).bs[F s.bs]?=Y c/\(Gp s c d).bs[F s.bs+1]?=Y Z4/\(Gp s c d).bs[F s.bs+2]?=Y d:=by simp[*,Gp]
def Ul {s:AY} {c d:Ϭ} {p:Nat} {x:Ϭ} (h:s.bs[p]?=Y x):(Gp s c d).bs[p]?=Y x:=Am (Am (Am h _) _) _
def TC {s:AY} (hs:BM s) {c d:Ϭ} (e:Ap 0 c=Z) (f:Ap 0 d=Z):BM (Gp s c d):=by
 intro b hb;simp only[Gp,CU,DW] at hb;rcases hb with ((hb|rfl)|rfl)|rfl
 .exact BV (by simp[Gp]) b (hs b hb)
 .exact BV AD _ e
 .rfl
 .exact BV AD _ f
def Lh {s:AY} {u:Nat} {fn:AV} (I:close [] 0 0 fn=G) {k' i':Int} {n':Ϝ} {a:AV} {rows:Ϯ} {Post:AV->Prop} (m:A3 a rows)
  (D:EK (BB (k'==5)) (
   Ex (Gp s [AG k',SS n',AG i',a] [AG k',SS n',AG i',.AE []]) (.ptr (F s.bs) 0) 2 λt=>
   EX (env R) (Gp s [AG k',SS n',AG i',a] [AG k',SS n',AG i',.AE []]) G t λx=>
   G4 (env R) (Co (env R) 121 (F s.bs) (F s.bs) (F s.ts)) (fn) [x,AG u] (Gp s [AG k',SS n',AG i',a] [AG k',SS n',AG i',.AE []]) λl b=>
   Iu l 0 λf=>
   Iu l 1 λy=>
   cr b (Uj f) (Y 0) .neq f (.pv (.sc (.pointer G))) λz=>
   EK z (
   Iv b f λA=>
   EX (env R) b (Y 4) A λB=>
   G4 (env R) (Co (env R) 121 (F s.bs) (F s.bs) (F s.ts)) (.func (.func 146) [] []) [B] b λC p=>
   Hw (Co (env R) 121 (F s.bs) (F s.bs) (F s.ts)) p 4 (.ptr (F s.bs+1) 0) C λk=>
   EX (env R) k (Y 4) (.ptr (F s.bs+1) 0) λr=>
   QI (F s.bs) (F s.ts) Post r k) (
   jL R (F s.bs) (F s.bs) (F s.ts) (AG u) (fn) (.ptr (F s.bs) 0) (.ptr (F s.bs+1) 0) (.ptr (F s.bs+2) 0) y b (QI (F s.bs) (F s.ts) Post))) (
   Zc R (F s.bs) (F s.bs) (F s.ts) (AG u) (fn) (.ptr (F s.bs) 0) (.ptr (F s.bs+1) 0) (.ptr (F s.bs+2) 0) (Gp s [AG k',SS n',AG i',a] [AG k',SS n',AG i',.AE []]) (QI (F s.bs) (F s.ts) Post))) :
  ∃r,Post r/\∀L,Bk (env R) L 121 [.agg [AG k',SS n',AG i',a],AG u,fn] s r s:=by
 refine i121 (by simp[*]) (AGK ?_);refine Bs (cs:=[AG k',SS n',AG i',a]) rfl (by simp[m.ok]) (Bh ?_);refine Ag (cs:=[AG k',SS n',AG i',a]) (Am (A0 _ _) _) rfl (Bh ?_);refine Bn (old:=Z4) (A0 _ _) rfl rfl AH AD (by simp[m.ok]) (.inl AD) ?_;have e:((s.bs++[[AG k',SS n',AG i',a]]++[Z4]++[Z4]).set (F (s.bs++[[AG k',SS n',AG i',a]]++[Z4])) [AG k',SS n',AG i',a])=(Gp s [AG k',SS n',AG i',a] [AG k',SS n',AG i',a]).bs:=by grind[Gp]
 have n:F (s.bs++[[AG k',SS n',AG i',a]]++[Z4])=F s.bs+2:=AD;have o:F (s.bs++[[AG k',SS n',AG i',a]])=F s.bs+1:=AD;simp only at e n o ⊢;rw[e];simp only[n,o];have⟨i,E,j⟩:=I7 (s:=s) (c:=[AG k',SS n',AG i',a]) (d:=[AG k',SS n',AG i',a]);refine AR (Ab j) (C1 (off:=3) j (AU 4) rfl AD rfl (.inl AD) ?_);have H:(Gp s [AG k',SS n',AG i',a] [AG k',SS n',AG i',a]).bs.set (F s.bs+2) ([AG k',SS n',AG i',a].set 3 (.AE []))=(Gp s [AG k',SS n',AG i',a] [AG k',SS n',AG i',.AE []]).bs:=by simp[*,Gp]
 show Ex ⟨(Gp s [AG k',SS n',AG i',a] [AG k',SS n',AG i',a]).bs.set (F s.bs+2) ([AG k',SS n',AG i',a].set 3 (.AE [])),s.ts⟩ _ _ _
 rw[H];have⟨i,E,j⟩:=I7 (s:=s) (c:=[AG k',SS n',AG i',a]) (d:=[AG k',SS n',AG i',.AE []]);exact AR (Ab i) (Ad i rfl (BE D))
def QD {s:AY} {p:Nat} {f:Ϭ} {fn:AV} {ts ls:Ϣ} {a:AV} (b:A3 a (Aj ts)) (m:F ts<2 ^ 38) (j:F ls=F ts) {k i0 i':Int} {n:Ϝ} {u:Nat} (o:u<2 ^ 60) (hs:BM s) (i:s.bs[p]?=Y f)
  (x:∀(q:Nat) (t l:Ty),ts[q]?=Y t->ls[q]?=Y l->∀s,BM s->s.bs[p]?=Y f->∃r,BD l r/\∀L,Bk (env R) L 121 [.agg ((Av t).map .pv),AG (u+Dz k q:Nat),fn] s r s)
  {Post:AV->Prop} (y:∀r,BD (.mk k n i' ls) r->Post r) :
  Zc R (F s.bs) (F s.bs) (F s.ts) (AG u) fn (.ptr (F s.bs) 0) (.ptr (F s.bs+1) 0) (.ptr (F s.bs+2) 0) (Gp s [AG k,SS n,AG i0,a] [AG k,SS n,AG i',.AE []]) (QI (F s.bs) (F s.ts) Post):=by
 have⟨e,z,A⟩:=I7 (s:=s) (c:=[AG k,SS n,AG i0,a]) (d:=[AG k,SS n,AG i',.AE []]);exact AGL (AR (Ab e) (Ad e rfl (Au (n:=F ts) (by rw[b.BG,Ae]) (td b m j o hs i x y (F ts) 0 _ (.AE []) AA (TC hs (by simp[Ap,A6,b.A6]) AX) (Ul i) e z A (.inl rfl) (AU _)))))
def tq {s:AY} {fn:AV} {u:Nat} {n:Ϝ} {i i':Int} {a:AV} (e:A3 a []) (f:u<2 ^ 60) (hs:BM s) {p:Nat} {j:Ϭ} (k:s.bs[p]?=Y j) {Post:AV->Prop} (l:∀r,BD (.mk 5 n i' []) r->Post r) :
  jL R (F s.bs) (F s.bs) (F s.ts) (AG u) fn (.ptr (F s.bs) 0) (.ptr (F s.bs+1) 0) (.ptr (F s.bs+2) 0) (AG i') (Gp s [AG 5,SS n,AG i,a] [AG 5,SS n,AG i,.AE []]) (QI (F s.bs) (F s.ts) Post):=by
 have⟨m,o,b⟩:=I7 (s:=s) (c:=[AG 5,SS n,AG i,a]) (d:=[AG 5,SS n,AG i,.AE []]);refine AGM (AR (Ab b) (C1 b AD rfl AD rfl (.inl AD) ?_));have e3:(Gp s [AG 5,SS n,AG i,a] [AG 5,SS n,AG i,.AE []]).bs.set (F s.bs+2) ([AG 5,SS n,AG i,.AE []].set 2 (AG i'))=(Gp s [AG 5,SS n,AG i,a] [AG 5,SS n,AG i',.AE []]).bs:=by simp[*,Gp]
 show Zc R _ _ _ _ _ _ _ _ ⟨(Gp s [AG 5,SS n,AG i,a] [AG 5,SS n,AG i,.AE []]).bs.set (F s.bs+2) ([AG 5,SS n,AG i,.AE []].set 2 (AG i')),s.ts⟩ _
 rw[e3];exact QD (ts:=[]) (ls:=[]) e AD rfl f hs k AD l
def mA {v u:Nat} {k:Int}:∀(ts:Ϣ) (b q:Nat) (l:Ty),(CO (LB v u k b ts))[q]?=Y l->∃t,ts[q]?=Y t/\(CO ts)[q]?=Y (ren t)/\l=ren (sub v (u+Dz k (b+q)) t)
 | [],_,_,_,h=>by grind[LB,CO]
 | t::ts,b,0,l,h=>by grind[LB,CO]
 | t::ts,b,q+1,l,h=>by
  simp only[LB,CO,Ia] at h ⊢;have⟨d,e,f,i⟩:=mA ts (b+1) q l h
  grind
def cu {v u:Nat} {k:Int}:∀(ts:Ϣ) (b:Nat),F (CO (LB v u k b ts))=F (CO ts)
 | [],_=>rfl
 | t::ts,b=>by simp[LB,CO,cu ts (b+1)]
mutual
def cw {N v p:Nat}:∀(t:Ty),AP t<2 ^ 38->Ez N t=Z->N4 t=Z->∀(u:Nat),u+AP t<2 ^ 60->∀(x:AV),BD (ren t) x->∀(s:AY),BM s->s.bs[p]?=Y [AG 2,SS (36::Hf v),AG 0,.AE []] ->
  ∃r,BD (ren (sub v u t)) r/\∀L,Bk (env R) L 121 [x,AG u,AMa p] s r s
 | .mk k n i ts,h,j,m,u,U,x,hx,s,y,o=>by
  have ι:=(BJ.1 o).1;simp only[AP] at h U;rw[Ez] at j;rw[N4] at m
  by_cases D:k=7
  .subst D
   simp only[CS,AQ,AK,Eu] at j;have z:=j.1;subst z;have A:ren (.mk 7 n i [])=.mk 2 (36::Hf i.toNat) 0 []:=rfl;have B:ren (sub v u (.mk 7 n i []))=.mk 2 (36::Hf i.toNat) 0 []:=rfl;rw[A] at hx;rw[B];obtain⟨a,rfl,e⟩:=hx;exact Lh rfl e (A4 (QD (ts:=[]) (ls:=[]) e AD rfl AA y o AD λr f=>f))
  .have A:=HF k n i ts D
   rw[A] at hx;obtain⟨a,rfl,e⟩:=hx
   by_cases W:k=5
   .subst W
    simp only[CS,Nj,Fy,AK,Eu] at m;have z:=m.1.1.1;have X:i<2 ^ 60:=AB;subst z;refine Lh rfl e (BH ?_);have⟨E,H,ν⟩:=I7 (s:=s) (c:=[AG 5,SS n,AG i,a]) (d:=[AG 5,SS n,AG i,.AE []]);have O:BM (Gp s [AG 5,SS n,AG i,a] [AG 5,SS n,AG i,.AE []]):=TC y (by simp[Ap,A6,e.A6]) AX;have C:=Ul (c:=[AG 5,SS n,AG i,a]) (d:=[AG 5,SS n,AG i,.AE []]) o;refine AR (Ab E) (Ad E rfl ?_);refine⟨_,_,AGE i u AA X p O AB _,B9 rfl (B9 rfl ?_)⟩;have M:sub v u (.mk 5 n i [])=bif i==(u:Int) then ph v else bif decide ((u:Int)<i) then .mk 5 n (i-1) [] else .mk 5 n i []:=AX
    rw[M];cases ξ:(i==(u:Int)) with
    | true=>
     simp only[AQ];refine zi (Ab C) (BH (DK (Ab C) (Ag C rfl ?_)));have α:=Ud (R:=R) (ren (ph v)) Bp (.agg [AG 2,SS (36::Hf v),AG 0,.AE []]) ⟨_,rfl,.AE _⟩;refine AI α ?_;rintro w ⟨b,rfl,hb⟩;refine Bn H rfl rfl AH AD (by simp[hb.ok]) (.inl AD) (Ag (BT H) rfl ?_);exact⟨.agg [AG 2,SS (36::Hf v),AG 0,b],by simp[hb.close],⟨b,rfl,hb⟩⟩
    | false=>
     simp only[AL];refine l9 (A4 (tq e AA y o λr f=>?_));cases I:decide ((u:Int)<i) with
     | true=>rw[I] at f; exact f
     | false=>rw[I] at f; exact f
   .have β:(k==5)=false:=by grind
    have γ:(k==7)=false:=AB;have B:ren (sub v u (.mk k n i ts))=.mk k n i (CO (LB v u k 0 ts)):=by grind[sub,HF]
    rw[B];refine Lh rfl e ?_;rw[β];rw[γ] at j;simp only[AL,AK] at j m;have κ:=Bl ts;refine A4 (QD e (by grind[Bx]) (cu ts 0) AA y o ?_ λr f=>f);intro q t l K Q δ S T;have⟨ε,ζ,η,θ⟩:=mA ts 0 q l Q;rw[η] at K;cases K;rw[θ];have μ:=Q3 k q;rw[CY];exact Xc ts AA j.2.2 m.2 (u+Dz k q) AA ε (A8 ζ) δ S T
def Xc {N v p:Nat}:∀(l:Ϣ),Ak l<2 ^ 38->Gr N l=Z->RG l=Z->∀(u:Nat),u+Ak l<2 ^ 60->∀t∈l,∀(s:AY),BM s->s.bs[p]?=Y [AG 2,SS (36::Hf v),AG 0,.AE []] ->
  ∃r,BD (ren (sub v u t)) r/\∀L,Bk (env R) L 121 [.agg ((Av (ren t)).map .pv),AG u,AMa p] s r s
 | [],_,_,_,_,_,_,h=>by cases h
 | e::l,h,d,b,u,f,t,hm=>by
  simp only[Ak] at h f;simp only[Gr,AK] at d;simp only[RG,AK] at b;rcases BF.1 hm with h' | h'
  .rw[h']
   exact cw e AA d.1 b.1 u AA _ (BD.Bo _)
  .exact Xc l AA d.2 b.2 u AA t h'
end
def SY {N v:Nat} {t:Ty} (h:AP t<2 ^ 38) (z:Ez N t=Z) (A:N4 t=Z) {x:AV} (hx:BD (ren t) x):Ah (env R) 89 [x,phA v] λr=>BD (ren (sub v 0 t)) r:=by
 obtain⟨d,e,f,E,B⟩:∃k n i ts,ren t=.mk k n i ts:=by
  have⟨k,n,i,ts⟩:=ren t;exact⟨k,n,i,ts,rfl⟩
 have s:=hx;rw[B] at hx;obtain⟨a,rfl,j⟩:=hx;refine e89 (u0:=.agg [AG d,SS e,AG f,a]) (u1:=phA v) (by simp[j.close,BZ,close]) (AMb ?_);refine Bs (cs:=[AG d,SS e,AG f,a]) rfl (by simp[j.ok]) (Bs (cs:=[AG 2,SS (36::Hf v),AG 0,.AE []]) rfl AD (Bh (Ag (cs:=[AG d,SS e,AG f,a]) rfl rfl ?_)))
 have C:BM ⟨[[AG d,SS e,AG f,a],[AG 2,SS (36::Hf v),AG 0,.AE []],Z4],[]⟩:=by
  intro b hb;simp only[BF,ER,ES] at hb;rcases hb with rfl|rfl|rfl <;> simp[Ap,A6,j.A6]
 have⟨r,l,D⟩:=cw (R:=R) (v:=v) (p:=1) t h z A 0 AA _ s ⟨[[AG d,SS e,AG f,a],[AG 2,SS (36::Hf v),AG 0,.AE []],Z4],[]⟩ C rfl;refine⟨r,_,D _,?_⟩;have u:=l
 obtain⟨k2,m,o,H,y⟩:∃k n i ts,ren (sub v 0 t)=.mk k n i ts:=by
  have⟨k,n,i,ts⟩:=ren (sub v 0 t);simp
 rw[y] at l;obtain⟨b,rfl,hb⟩:=l;refine Bn (old:=Z4) (id:=2) rfl rfl rfl AH (AO _) (by simp[hb.ok]) (.inl (AO _)) (Ag (cs:=[AG k2,SS m,AG o,b]) rfl rfl ?_);exact⟨.agg [AG k2,SS m,AG o,b],by simp[hb.close],u⟩
end
mutual
def zj:Ty->Bool
 | .mk _ _ _ ts=>decide (F ts<2 ^ 38)&&WR ts
def WR:Ϣ->Bool
 | []=>Z
 | t::l=>zj t&&WR l
end
mutual
def tu:∀t:Ty,AP t<2 ^ 38->zj t=Z
 | .mk k n i ts,h=>by
  simp only[AP] at h;have b:=Bl ts;rw[zj,mB ts AA,Ax AA];rfl
def mB:∀l:Ϣ,Ak l<2 ^ 38->WR l=Z
 | [],_=>by rw[WR]
 | t::l,h=>by
  simp only[Ak] at h;rw[WR,tu t AA,mB l AA];rfl
end
def shT (t:Ty):Prop:=zj t=Z/\AP t<2 ^ 59
def shT.of {t:Ty} (h:AP t<2 ^ 38):shT t:=⟨tu t h,AA⟩
section
variable {R:RT}
abbrev AMc (p:Nat):AV:=.func (.func 134) [] [.ptr p 0]
def AGN (i u:Int) (k:-(2 ^ 60)<=i) (l:i<2 ^ 60) (m:0<=u) (o:u<2 ^ 60) (p:Nat) {s:AY} (hs:BM s) (j:s.bs[p]?=Y [.AE []]) (L:Ba) :
  Bk (env R) L 134 [AG i,AG u,.ptr p 0] s (.tuple [.pv (.sc (.pointer G)),AG i]) s:=by
 have d:∀(f:Bool),QM f (F s.bs) (λv b=>v=.tuple [.pv (.sc (.pointer G)),AG i]/\b=s) (.tuple [.pv (.sc (.pointer G)),AG i]) s:=by
  intro f;have e:s.bs.take (F s.bs)=s.bs:=Lu;refine KF (ds:=[.pv (.sc (.pointer G)),AG i]) ?_ ?_ ?_
  .rw[e,Cl]
   exact hs
  all_goals simp
 obtain⟨v,b,⟨rfl,rfl⟩,r⟩:=AWc (R:=R) (L:=L) (s:=s) (t0:=AG i) (t1:=AG u) (t2:=.ptr p 0) (Post:=λv b=>v=.tuple [.pv (.sc (.pointer G)),AG i]/\b=s) AX (AGO (FL AA AA (Fq (by
  by_cases h:i>=u
  .rw[Ax h]
   refine Aw (Aw (Ad j rfl (Aw (Au (n:=0) rfl (Aw (Ao (pk ?_)))))));rw[A5 AA];exact A4 (tv (d _))
  .rw[A5 h]
   exact B7 (B7 (B7 (B7 (pk (A4 (tv (d _)))))))))))
 omega
mutual
def Xd {p:Nat}:∀(t:Ty),zj t=Z->N4 t=Z->∀(u:Nat),u+AP t<2 ^ 60->∀(x:AV),BD t x->∀(s:AY),BM s->s.bs[p]?=Y [.AE []] ->
  ∃r,BD t r/\∀L,Bk (env R) L 121 [x,AG u,AMc p] s r s
 | .mk k n i ts,h,b,u,E,x,hx,s,f,j=>by
  simp only[AP] at E;rw[zj,AK,Cu] at h;obtain⟨M,h⟩:=h;rw[N4] at b;obtain⟨a,rfl,e⟩:=hx
  by_cases H:k=5
  .subst H
   simp only[CS,Nj,Fy,AK,Eu,Cu] at b;have A:=b.1.1.1;subst A;refine Lh rfl e (BH ?_);have⟨y,Q,S⟩:=I7 (s:=s) (c:=[AG 5,SS n,AG i,a]) (d:=[AG 5,SS n,AG i,.AE []]);have B:BM (Gp s [AG 5,SS n,AG i,a] [AG 5,SS n,AG i,.AE []]):=TC f (by simp[Ap,A6,e.A6]) AX;exact AR (Ab y) (Ad y rfl ⟨_,_,AGN i u b.1.1.2 b.1.2 AA AA p B (Ul j) _,B9 rfl (B9 rfl (l9 (A4 (tq e AA f j λr m=>m))))⟩)
  .have I:(k==5)=false:=by grind
   refine Lh rfl e ?_;rw[I];simp only[AK] at b;have N:=Bl ts;refine A4 (QD e AA rfl AA f j ?_ λr m=>m);intro q t l z o K C D;rw[z] at o;cases o;have O:=Q3 k q;exact Um ts h b.2 (u+Dz k q) AA t (A8 z) K C D
def Um {p:Nat}:∀(l:Ϣ),WR l=Z->RG l=Z->∀(u:Nat),u+Ak l<2 ^ 60->∀t∈l,∀(s:AY),BM s->s.bs[p]?=Y [.AE []] ->
  ∃r,BD t r/\∀L,Bk (env R) L 121 [.agg ((Av t).map .pv),AG u,AMc p] s r s
 | [],_,_,_,_,_,h=>by cases h
 | e::l,h,b,u,d,t,hm=>by
  simp only[Ak] at d;rw[WR,AK] at h;simp only[RG,AK] at b;rcases BF.1 hm with h' | h'
  .rw[h']
   exact Xd e h.1 b.1 u AA _ (BD.Bo _)
  .exact Um l h.2 b.2 u AA t h'
end
def Zd {t:Ty} (h:shT t) (f:N4 t=Z) {x:AV} (hx:BD t x):Ah (env R) 107 [x,.AE []] λr=>BD t r:=by
 obtain⟨k,n,i,ts⟩:=t;have e:=hx;obtain⟨a,rfl,d⟩:=hx;refine AWd (u0:=.agg [AG k,SS n,AG i,a]) (u1:=.AE []) (by simp[d.close,BZ,close]) (AGP ?_);refine Bs (cs:=[AG k,SS n,AG i,a]) rfl (by simp[d.ok]) (Bs (cs:=[.AE []]) rfl AD (Bh (Ag (cs:=[AG k,SS n,AG i,a]) rfl rfl ?_)))
 have j:BM ⟨[[AG k,SS n,AG i,a],[.AE []],Z4],[]⟩:=by
  intro b hb;simp only[BF,ER,ES] at hb;rcases hb with rfl|rfl|rfl <;> simp[Ap,A6,d.A6]
 have⟨r,l,m⟩:=Xd (R:=R) (p:=1) (.mk k n i ts) h.1 f 0 (by have:=h.2; omega) _ e ⟨[[AG k,SS n,AG i,a],[.AE []],Z4],[]⟩ j rfl;refine⟨r,_,m _,?_⟩;obtain⟨b,rfl,hb⟩:=l;refine Bn (old:=Z4) (id:=2) rfl rfl rfl AH (AO _) (by simp[hb.ok]) (.inl (AO _)) (Ag (cs:=[AG k,SS n,AG i,b]) rfl rfl ?_);exact⟨.agg [AG k,SS n,AG i,b],by simp[hb.close],⟨b,rfl,hb⟩⟩
def NN {t:Ty} (h:shT t) (f:N4 t=Z) {x:AV} (hx:BD t x):Ah (env R) 70 [x] λr=>BD t r:=by
 obtain⟨k,n,i,ts⟩:=t;have e:=hx;obtain⟨a,rfl,d⟩:=hx;refine e70 (u0:=.agg [AG k,SS n,AG i,a]) (by simp[d.close]) (AMd ?_);refine Bs (cs:=[AG k,SS n,AG i,a]) rfl (by simp[d.ok]) (Bh (Ag (cs:=[AG k,SS n,AG i,a]) rfl rfl (AI (Zd h f e) ?_)));rintro r ⟨b,rfl,hb⟩;refine Bn (old:=Z4) (id:=1) rfl rfl rfl AH (AO _) (by simp[hb.ok]) (.inl (AO _)) (Ag (cs:=[AG k,SS n,AG i,b]) rfl rfl ?_);exact⟨.agg [AG k,SS n,AG i,b],by simp[hb.close],⟨b,rfl,hb⟩⟩
end
def QE {n:Int} {s:AY} {K:Ϡ} (b:K (.AE [[.sc (.int .i64 n)]]) s):HJ ϴ s 1 [(AG 0)] 1 [(0,1,AG n)] K:=by
 simp[HJ,GC,CZ];exact b
def zk {L:Ba} {s:AY} {a:AV} {l:Ϛ} {n:Int} {K:Ϡ} (j:D1 0 s.ts 3 a (Ai l)) (f:L.rt=0) (m:F l<2 ^ 40) (h:∀d b,D1 0 b 3 d (Ai (l++[n]))->K d ⟨s.bs,b⟩) :
  I6 ϴ L s 3 1 8 a (.AE [[.sc (.int .i64 n)]]) K:=by
 have i:=BP l;have:=NL (L:=L) (bs:=s.bs) (ts:=[]) (x:=s.ts) (e:=3) (k:=1) (bytes:=8) (a:=a) (rows:=Ai l) (row:=[.sc (.int .i64 n)]) (K:=K) AB AA (by grind[Ai]) rfl AA AD AA AA (by grind[Ai])
 simp_all
def DL {bs:Ϩ} {n:Nat} (h:n<=F bs) (b:Ϭ):(bs++[b]).take n=bs.take n:=Yh h
def CN {bs X:Ϩ} {n j:Nat} {v:Ϭ} (h:bs.take n=X) (b:X[j]?=Y v):bs[j]?=Y v:=AB
theorem Ep {bs X:Ϩ} {n j:Nat} {c:Ϭ} (h:bs.take n=X):(bs.set j c).take n=X.set j c:=by grind[List.take_set]
def Ze {rr:Bool} {A:Nat} {c:Ϭ} {s0:AY} {bs:Ϩ} {ts:Ϫ} {Post:Ϡ} (d:BM s0) (f:bs.take (F s0.bs)=s0.bs.set A c) (e:Ap (F s0.bs) c=Z) (i:Post (.tuple []) ⟨s0.bs.set A c,ts⟩):QM rr (F s0.bs) Post (.tuple []) ⟨bs,ts⟩:=by
 refine KF (ds:=[]) ?_ rfl ?_
 .have:=BM.set d e ts (j:=A)
  rw[Cl];intro b hb;have:=this b AB
  grind
 grind
section
variable {R:RT}
abbrev jM (A Bz:Nat):AV:=.func (.func 56) [] [.ptr A 0,.ptr Bz 0]
def uA (R:RT) (A Bz:Nat) (x:AV) (l m:Ϛ) (s:AY):Prop:=∀(L:Ba) (c:AV),L.ro=0->L.rt=0->s.bs[A]?=Y [c]->D1 0 s.ts 3 c (Ai l) ->
 ∃v d,(∃e b,D1 0 b 3 e (Ai (l++m))/\v=.tuple []/\d=⟨s.bs.set A [e],b⟩)/\Bk (env R) L 56 [x,.ptr A 0,.ptr Bz 0] s v d
def uB {A Bz:Nat} {ts:Ϣ} {a:AV} (L:A3 a (Aj ts)) (U:F ts<2 ^ 38) {l:Ϛ} {s0:AY} (E:BM s0) (hA:A<F s0.bs) (hF:s0.bs[Bz]?=Y [jM A Bz]) (T:A≠Bz)
  (M:∀t∈ts,∀(l:Ϛ) (s:AY),BM s->s.bs[Bz]?=Y [jM A Bz]->F l+F (Af t)<2 ^ 40->uA R A Bz (.agg ((Av t).map .pv)) l (Af t) s)
  (hb:F l+F (B5 ts)<2 ^ 40) {rr:Bool} {Post:Ϡ} (N:∀d i,D1 0 i 3 d (Ai (l++B5 ts))->Post (.tuple []) ⟨s0.bs.set A [d],i⟩) :
  ∀(j q:Nat) (done:Ϛ) (bs:Ϩ) (tk:Ϫ) (c:AV),q+j=F ts->done++B5 (ts.drop q)=l++B5 ts->BM ⟨bs,tk⟩->F s0.bs<=F bs->bs.take (F s0.bs)=s0.bs.set A [c]->D1 0 tk 3 c (Ai done) ->
   ABy R 0 0 0 (.ptr Bz 0) a (AG (F ts)) (AG q) ⟨bs,tk⟩ (QM rr (F s0.bs) Post):=by
 intro j
 induction j with
 | zero=>
  intro q done bs tk c O f z hn k o;refine ABz (Ao ?_);rw[A5 AA];rw[CR AA,B5,G9] at f;refine A4 (Ze E k (by simp[Ap,o.BA.A6]) (N c tk ?_))
  grind
 | succ j H=>
  intro q done bs tk c O f z hn k o;refine ABz (Ao ?_);rw[Ax AA];have⟨t,B⟩:∃t,ts[q]?=Y t:=⟨_,Az AA⟩;have m:F ((Av t).map AV.pv)=4:=by grind[Aq]
  have p:=DG t
  have r:Ap (F bs+1) ((Av t).map AV.pv)=true:=by
   obtain⟨k1,W,X,α⟩:=t;rfl
  refine BH (AMe (BL L (row:=Av t) AA (by grind[BK]) (Aq _) AA (Cd (Bh ?_))));have u:=M t (A8 B);have I:ts.drop q=t::ts.drop (q+1):=drop_cons B;rw[I,B5,<-EG] at f;have K:=Bu List.length f;simp only[B6] at K;generalize (Av t).map AV.pv=b at m p r u;refine Bn (A0 bs Z4) m rfl AH (AO _) p (.inl (AO _)) ?_;have e:(bs++[Z4]).set (F bs) b=bs++[b]:=AD;rw[e];have C:(s0.bs.set A [c])[Bz]?=Y [jM A Bz]:=AB;have Q:(s0.bs.set A [c])[A]?=Y [c]:=by rw[Cv AA]
  have x:BM ⟨bs++[b],tk⟩:=BM.app (s:=⟨bs,tk⟩) z r;have n:=(DL hn b).trans k;obtain⟨v,β,⟨d,i,D,rfl,rfl⟩,S⟩:=u done ⟨bs++[b],tk⟩ x (CN n C) AA (Co (env R) 56 0 0 0) c rfl rfl (CN n Q) o;refine Ad (Am (CN k C) b) rfl (Ag (A0 bs b) m ⟨_,_,S,AMf (Bb AA AA ?_)⟩);have y:=Ep (j:=A) (c:=[d]) n;rw[Ib] at y;exact H (q+1) (done++Af t) _ i d AA f (BM.set (s:=⟨bs++[b],tk⟩) x (by simp[Ap,A6,D.BA.A6]) _) AB y D
mutual
def cx {A Bz:Nat} (r:A≠Bz):∀(t:Ty),AP t<2 ^ 38->∀(x:AV),BD t x->∀(l:Ϛ) (s:AY),BM s->s.bs[Bz]?=Y [jM A Bz]->F l+F (Af t)<2 ^ 40->uA R A Bz x l (Af t) s
 | .mk k n i ts,h,x,hx,l,s,d,hF,hb,L,c,B,C,hA,p=>by
  obtain⟨a,rfl,e⟩:=hx;simp only[AP] at h;rw[Af] at hb ⊢;have E:=(BJ.1 hA).1;have K:=Bl ts;refine m56 (by simp[Da,F9]) ?_;rw[B,C];have D:BM ⟨s.bs++[[AG k,SS n,AG i,a]],s.ts⟩:=BM.app d (by simp[Ap,A6,e.A6]);have g:=A0 s.bs [AG k,SS n,AG i,a];refine AMg (Bs (cs:=[AG k,SS n,AG i,a]) rfl (by simp[e.ok]) (AR (Ab g) (Ad g rfl (BE ?_))));have u:=Am hA [AG k,SS n,AG i,a];have I:s.bs.set A [c]=s.bs:=by grind[List.set_getElem_self]
  have m:(s.bs++[[AG k,SS n,AG i,a]]).take (F s.bs)=s.bs.set A [c]:=AB;cases y:(k==5) with
  | true=>
   rw[y] at hb;refine BH (Ad u rfl (AR (Ab g) (Ad g rfl (QE ⟨AH,zk p rfl AA λf o b=>?_⟩))));refine C1 u AD b.BA.cells (AO _) b.BA.ok (.inl (AO _)) ?_;have z:=Ep (j:=A) (c:=[f]) m;rw[Ib] at z;exact Ze d z (by simp[Ap,b.BA.A6]) ⟨f,o,b,rfl,rfl⟩
  | false=>
   refine A4 (BE ?_);cases H:(k==3) with
   | true=>
    rw[y,H] at hb;refine BH (AR (Ab g) (Ad g rfl (Au (n:=F ts) (by rw[e.BG,Ae]) ?_)));exact uB (l:=l) e AA d E hF r (λt hm l s d hF hb=>Xe r ts AA t hm l s d hF hb) hb (λf o b=>⟨f,o,b,rfl,rfl⟩) (F ts) 0 l _ s.ts c AA AD D AD m p
   | false=>
    refine A4 (Ze d m (by simp[Ap,p.BA.A6]) ⟨c,s.ts,?_,rfl,rfl⟩)
    grind
def Xe {A Bz:Nat} (b:A≠Bz):∀(ts:Ϣ),Ak ts<2 ^ 38->∀t∈ts,∀(l:Ϛ) (s:AY),BM s->s.bs[Bz]?=Y [jM A Bz]->F l+F (Af t)<2 ^ 40->uA R A Bz (.agg ((Av t).map .pv)) l (Af t) s
 | [],_,_,h=>by cases h
 | e::l,h,t,hm=>by
  simp only[Ak] at h;rcases BF.1 hm with h' | h'
  .rw[h']
   exact cx b e AA _ (BD.Bo _)
  .exact Xe b l AA t h'
end
def C7 (b:Br):Ϧ:=.list (Aj b.AN)::Av b.AM
def HM (b:Br) (x:AV):Prop:=∃a y,x=.agg (a::y)/\A3 a (Aj b.AN)/\BD b.AM (.agg y)
def HM.Bo (b:Br):HM b (.agg ((C7 b).map .pv)):=⟨_,_,rfl,.list _,BD.Bo _⟩
def TD {E:Env} {s:AY} {id:Nat} {a:AV} {cs:Ϭ} {K:AV->Prop} (hb:s.bs[id]?=Y (a::cs)) (b:F cs=4) (h:K (.agg cs)):EX E s (Y 4) (.ptr id 1) K:=by
 simp only[EX,hb,wO,Dd];refine⟨by simp[b],?_⟩
 show K (.agg (cs.take 4))
 rw[CC AA];exact h
def BD.cells {t:Ty} {y:Ϭ} (h:BD t (.agg y)):F y=4/\y.all BS=Z/\Ap 0 y=Z/\∀bs n m,BZ bs n m y=Y y:=by
 obtain⟨k,n,i,ts⟩:=t;obtain⟨a,d,b⟩:=h;cases d;exact⟨rfl,by simp[b.ok],by simp[Ap,A6,b.A6],λbs n m=>by simp[b.close,BZ,close]⟩
def Fg {b:Br} (h:AP b.AM<2 ^ 38) (d:F (Af b.AM)<2 ^ 40) {x:AV} (hx:HM b x):Ah (env R) 23 [x] λr=>A3 r (Ai (Af b.AM)):=by
 obtain⟨a,y,rfl,e,f⟩:=hx;have⟨j,o,hid,i⟩:=f.cells;refine e23 (u0:=.agg (a::y)) (by simp[BZ,close,e.close,i]) (AMh ?_);refine Bs (cs:=a::y) rfl (by simp[e.ok]; grind) (Bh (Bh ?_));refine C1 (id:=2) (off:=0) (cs:=[.pv (.sc .nilFunc)]) rfl AH rfl (AO _) rfl (.inl (AO _)) ?_;refine Ad (id:=2) rfl rfl (AR (Ab (c:=a) (cs:=y) rfl) ?_)
 show EX _ _ _ (.ptr 0 1) _
 refine TD rfl j ?_
 have k:BM ⟨[a::y,[.AE []],[jM 1 2]],[]⟩:=by
  intro c d;simp only[BF,ER,ES] at d;rcases d with rfl|rfl|rfl
  .exact BV (AO _) _ (by simp[Ap,e.A6,hid])
  all_goals rfl
 obtain⟨v,s,⟨t,p,l,rfl,rfl⟩,m⟩:=cx (R:=R) (A:=1) (Bz:=2) AH b.AM h _ f [] ⟨[a::y,[.AE []],[jM 1 2]],[]⟩ k rfl AB (Co (env R) 23 0 0 0) (.AE []) rfl rfl rfl (.inl rfl);refine⟨_,_,m,Ad (id:=1) rfl rfl ?_⟩;obtain⟨r,n,u⟩:=MP l _ 0;exact⟨r,n,AB⟩
def QF {b:Br} (h:AP b.AM<2 ^ 38) (o:F b.AN<2 ^ 38) (i:F (Af b.AM)<2 ^ 40) {x:AV} (hx:HM b x):Ah (env R) 46 [x] λr=>r=BB (decide (F b.AN<=6)&&decide (F (Af b.AM)<=3)):=by
 have e:=hx;obtain⟨a,y,rfl,d,j⟩:=hx;have⟨p,m,hid,f⟩:=j.cells;refine e46 (u0:=.agg (a::y)) (by simp[BZ,close,d.close,f]) (AMi ?_);have g:∀ts,(AY.mk [a::y] ts).bs[0]?=Y (a::y):=λ_=>rfl
 refine Bs (cs:=a::y) rfl (by simp[d.ok]; grind) (AR (Ab (g _)) (Ad (g _) rfl (Au (n:=F b.AN) (by rw[d.BG,Ae]) (ZW ?_))))
 by_cases k:F b.AN<=6
 .rw[Ax AA]
  refine Aw (Ag (g _) AB (Aw (AI (Fg h i e) λr l=>Aw (Au (n:=F (Af b.AM)) (by rw[l.BG,BP]) (Aw (ZW (pk ?_)))))));refine⟨_,rfl,?_⟩;rw[Ax k];have:((F (Af b.AM):Int)<=3)<->(F (Af b.AM)<=3):=AA
  grind
 .rw[A5 AA]
  refine B7 (B7 (B7 (B7 (pk ⟨_,rfl,?_⟩))))
  grind
def Ds {s:AY} {p:PV} {K:AV->Prop} (b:K (.pv p)):EX (env R) s G (.DF [p] 0) K:=by simp[*]
def ixI (n:Int) (l:Ϛ):Int:=match l.findIdx? (·==n) with
 | some j=>j
 | none=>-1
def jN {l:Ϛ} {n:Int} (k:F l<2 ^ 40) {b:AV} (hb:BN b (Ai l)):Ah (env R) 93 [b,AG n] λr=>r=AG (ixI n l):=by
 have⟨a,i,d⟩:=hb.closed [] 0;refine e93 (u0:=a) (u1:=AG n) (by simp[*]) (AMj (Au (n:=F l) (by rw[d.BG,BP]) ?_))
 suffices H:∀(j q:Nat),q+j=F l->(∀p,p<q->l[p]?≠Y n)->AB0 R 0 0 0 a (AG n) (AG (F l)) (AG q) ⟨[],[]⟩ (QP λr=>r=AG (ixI n l)) from H (F l) 0 AA (λp o=>by omega)
 intro j
 induction j with
 | zero=>
  intro q f hn;refine AB1 (Ao ?_);rw[A5 AA];refine A4 (AMk ⟨_,rfl,?_⟩)
  grind[List.getElem?_of_mem,ixI]
 | succ j e=>
  intro q f hn;refine AB1 (Ao ?_);rw[Ax AA];have⟨m,hm⟩:∃m,l[q]?=Y m:=⟨_,Az AA⟩;refine BH (AMl (BL d (row:=[.sc (.int .i64 m)]) AA (by simp[*,Ai]) rfl AA ?_));refine Ds ?_;refine BE ?_;cases s:n==m with
  | true=>
   refine BH ⟨_,rfl,?_⟩;have:l.findIdx? (·==n)=Y q:=by grind[List.findIdx?_eq_some_iff_getElem]
   rw[ixI,this]
  | false=>
   refine A4 (AMm (Bb AA AA (e (q+1) AA ?_)))
   grind
end
def tok:AV->Option Nat
 | .own t _=>Y t
 | _=>G
def Cx (a d:AV) (ts b:Ϫ):Prop:=F ts<=F b/\(∀t,t<F ts->tok a≠Y t->b[t]?=ts[t]?)/\(tok d=tok a\/∃t,tok d=Y t/\F ts<=t)
theorem Cx.refl (a:AV) (ts:Ϫ):Cx a a ts ts:=⟨AU _,λ_ _ _=>rfl,.inl rfl⟩
def Cx.trans {a b c:AV} {ts d e:Ϫ} (h:Cx a b ts d) (k:Cx b c d e):Cx a c ts e:=by
 obtain⟨f,i,j⟩:=h;obtain⟨k1,k2,k3⟩:=k;refine⟨BC f k1,λt l m=>?_,?_⟩
 all_goals grind
def Dt (b:AV) (ts:Ϫ):Prop:=∀t,tok b=Y t->F ts<=t
def Dt.QG {b e:AV} {d ts i:Ϫ} (h:Dt b d) (j:Cx b e ts i) (l:F d<=F ts):Dt e d:=by
 intro t k;rcases j.2.2 with f|⟨u,f,m⟩
 .exact h t (by rw[<-f,k])
 grind
def Cx.side {a f b j:AV} {d ts e:Ϫ} (h:Cx a f d ts) (k:Cx b j ts e) (hb:Dt b d):Cx a f d e:=by
 obtain⟨l,m,n⟩:=h;obtain⟨k1,k2,k3⟩:=k;refine⟨BC l k1,λt o p=>?_,n⟩;rw[k2 t AA λi=>?_,m t o p];have:=hb t i;omega
def SZ (a b:AV):Prop:=∀t,tok a=Y t->tok b≠Y t
def SZ.symm {a b:AV} (h:SZ a b):SZ b a:=λt d e=>h t e d
def D1.uC {lo:Nat} {ts:Ϫ} {k:Nat} {a:AV} {rows:Ϯ} (h:D1 lo ts k a rows) {t:Nat} (b:tok a=Y t):t<F ts:=by
 rcases h with rfl|⟨u,rfl,d,_⟩
 .cases b
 .cases b
  grind
def SZ.QG {a i b:AV} {lo k:Nat} {ts j:Ϫ} {rows:Ϯ} (h:SZ a b) (l:Cx a i ts j) (hb:D1 lo ts k b rows):SZ i b:=by
 intro t d f;rcases l.2.2 with e|⟨u,e,m⟩
 .exact h t (by rw[<-e,d]) f
 .rw[e] at d
  cases d;have:=D1.uC hb f;omega
def Cx.keep {a e b:AV} {lo k:Nat} {ts d:Ϫ} {rows:Ϯ} (f:Cx a e ts d) (hb:D1 lo ts k b rows) (h:SZ a b):D1 lo d k b rows:=by
 rcases hb with rfl|⟨t,rfl,i,j⟩
 .exact .inl rfl
 .refine .inr ⟨t,rfl,?_,j⟩
  rw[f.2.1 t (BJ.1 i).1 λl=>h t l rfl];omega
theorem SZ.AE (a:AV) (rows:Ϯ):SZ a (.AE rows):=λ_ _ h=>by cases h
theorem Dt.AE (ts:Ϫ) (rows:Ϯ):Dt (.AE rows) ts:=λ_ h=>by cases h
def RH {L:Ba} {s:AY} {e:Nat} {k bytes:Nat} {a y:AV} {rows m:Ϯ} {K:Ϡ} (p:D1 0 s.ts e a rows) (O:L.rt=0) (N:∀r∈rows,F r=k) (hm:∀r∈m,F r=k) (E:0<k)
  (H:DS s k y=Y (m.flatten.map .pv)) (n:(m.flatten.map AV.pv).all BS=Z) (hb:(F rows+F m)*bytes<=2 ^ 45) (o:F rows+F m<=2 ^ 45)
  (h:∀d b,D1 0 b e d (rows++m)->Cx a d s.ts b->K d ⟨s.bs,b⟩):I6 ϴ L s e k bytes a y K:=by
 obtain⟨S,ts⟩:=s;have j:(rows.all λr=>F r==k)=true:=AB;unfold I6;rw[H];have z:=NP m hm;have A:=GY m hm;cases T:m.flatten with
 | nil=>
  have B:m=[]:=by
   cases m with
   | nil=>rfl
   | cons r m=>
    grind
  subst B;have:=h a ts AB (Cx.refl _ _);rcases p with rfl|⟨t,rfl,f,x⟩ <;> simp[*]
 | cons c i=>
  have l:m.flatten.map AV.pv=.pv c::i.map .pv:=AB
  have I:F (AV.pv c::i.map .pv) / k=F m:=by
   rw[<-l,Bj,z,Nat.mul_div_cancel _ E]
  have C:C0 (AV.pv c::i.map .pv)=Y m.flatten:=by grind[Li]
  rw[l] at n;simp only[wO,CH,n,I,C,A];refine⟨Ay,?_⟩;rcases p with rfl|⟨t,rfl,f,x⟩
  .refine⟨⟨hb,o,j⟩,?_⟩
   refine h (.own (F ts) (rows++m)) (ts++[(F rows+F m,e)]) (.inr ⟨_,rfl,AD,AO _⟩) ⟨AD,λt M _=>?_,.inr ⟨_,rfl,AU _⟩⟩;rw[C3 M]
  .refine⟨⟨hb,o,f,AA,j⟩,?_⟩
   have Q:t<F ts:=(BJ.1 f).1;refine h (.own t (rows++m)) (ts.set t (F rows+F m,e)) (.inr ⟨_,rfl,AB,x⟩) ⟨AD,λu U hn=>?_,.inl rfl⟩;rw[Ge];intro D;exact hn (by rw[D]; rfl)
def pG (t:Ty):(([Av t].flatten).map AV.pv).all BS=true:=by grind[DG]
def Jj {L:Ba} {s:AY} {a:AV} {es:Ϣ} {t:Ty} {K:Ϡ} (f:D1 0 s.ts 25 a (Aj es)) (e:L.rt=0) (l:F es<2 ^ 38) (h:∀d b,D1 0 b 25 d (Aj (es++[t]))->Cx a d s.ts b->K d ⟨s.bs,b⟩) :
  I6 ϴ L s 25 4 56 a (.AE [Av t]) K:=by
 have k:=Ae es;have hm:∀r∈[Av t],F r=4:=by simp[Aq]
 refine RH (m:=[Av t]) f e (λr i=>HV i) hm AA (D7 (.inl (.AE _)) hm) (pG t) AB AB λd b n j=>h d b ?_ j
 grind[Ff,Aj]
def cy {L:Ba} {s:AY} {a:AV} {l:Ϛ} {n:Int} {K:Ϡ} (f:D1 0 s.ts 3 a (Ai l)) (e:L.rt=0) (k:F l<2 ^ 40) (h:∀d b,D1 0 b 3 d (Ai (l++[n]))->Cx a d s.ts b->K d ⟨s.bs,b⟩) :
  I6 ϴ L s 3 1 8 a (.AE [[.sc (.int .i64 n)]]) K:=by
 have j:=BP l;have hm:∀r∈[[PV.sc (.int .i64 n)]],F r=1:=AD;refine RH (m:=[[.sc (.int .i64 n)]]) f e Dw hm AA (D7 (.inl (.AE _)) hm) AD AB AB λd b o i=>h d b ?_ i
 grind[Ai]
theorem cz {rr:Bool} {A:Nat} {c:Ϭ} {cs ds:Ϭ} {s0:AY} {bs:Ϩ} {ts:Ϫ} {Post:Ϡ} (e:BM s0) (i:bs.take (F s0.bs)=s0.bs.set A c) (f:Ap (F s0.bs) c=Z) (d:BZ bs (F s0.bs) (F ts) cs=Y ds) (k:Post (.agg ds) ⟨s0.bs.set A c,ts⟩):QM rr (F s0.bs) Post (.agg cs) ⟨bs,ts⟩:=by
 refine Zf (ds:=ds) ?_ d ?_
 .have:=BM.set e f ts (j:=A)
  rw[Cl];intro b hb;have:=this b AB
  grind
 grind
theorem Cf {bs:Ϩ} {n j:Nat} {c:Ϭ} (h:n<=j):(bs.set j c).take n=bs.take n:=by grind[List.take_set,List.set_eq_of_length_le]
def BX.Jk {v:Ty} {cs:Ϭ} (h:BX v (.agg cs)) (bs:Ϩ) (n m:Nat):∃ds,BZ bs n m cs=Y ds/\BX v (.agg ds):=by
 obtain⟨k,c,i,ts⟩:=v;obtain⟨a,d,e⟩:=h;cases d;have⟨b,j,f⟩:=e.close bs n m;exact⟨[AG k,SS c,AG i,b],by simp[*],⟨b,rfl,f⟩⟩
abbrev jO (o:Ϟ):Ϛ:=o.map λ(x:Nat)=>(x:Int)
def zl (o:Ϟ) {i:Int} (h:0<=i):ixI i (jO o)=match o.findIdx? (·==i.toNat) with
  | some j=>(j:Int)
  | none=>-1:=by
 rw[ixI,List.findIdx?_map];have:((λx:Int=>x==i)∘λx:Nat=>(x:Int))=λx:Nat=>x==i.toNat:=AB
 grind
section
variable {R:RT}
abbrev c8 (P A Bz:Nat):AV:=.func (.func 91) [] [.ptr P 0,.ptr A 0,.ptr Bz 0]
structure WS (P A Bz e:Nat) (B:Ϣ) (bs:Ϩ):Prop where
 hP:bs[P]?=Y [.ptr e 0]
 hF:bs[Bz]?=Y [c8 P A Bz]
 he:∃c cs,bs[e]?=Y (c::cs)/\BN c (Aj B)
 nP:A≠P
 nF:A≠Bz
 ne:A≠e
def WS.of {P A Bz e:Nat} {B:Ϣ} {bs d:Ϩ} (h:WS P A Bz e B bs) (b:∀j c,j≠A->bs[j]?=Y c->d[j]?=Y c):WS P A Bz e B d:=by
 have⟨c,f,i,k⟩:=h.he;exact⟨b _ _ h.nP.symm h.hP,b _ _ h.nF.symm h.hF,⟨c,f,b _ _ h.ne.symm i,k⟩,h.nP,h.nF,h.ne⟩
def WS.tk {P A Bz e n:Nat} {B:Ϣ} {bs b:Ϩ} {c:Ϭ} (h:WS P A Bz e B bs) (f:b.take n=bs.set A c):WS P A Bz e B b:=
 h.of λj d i k=>CN f AB
def uD (R:RT) (P A Bz N:Nat) (x:AV) (o:Ϟ) (t:Ty) (s:AY):Prop:=∀(L:Ba) (c:AV),L.ro=0->L.rt=0->s.bs[A]?=Y [c]->D1 0 s.ts 3 c (Ai (jO o)) ->
 ∃v e,(∃d b f,D1 0 b 3 d (Ai (jO (Lc N t o).2))/\Cx c d s.ts b/\v=.agg f/\BX (ren (Lc N t o).1) (.agg f)/\e=⟨s.bs.set A [d],b⟩)/\Bk (env R) L 91 [x,.ptr P 0,.ptr A 0,.ptr Bz 0] s v e
def uE {P A Bz e N:Nat} {B ts:Ϣ} (a2:F B=N) {a:AV} (σ:BN a (Aj (CO ts))) (a3:F ts<2 ^ 38) {k i:Int} {n:Ϝ} (Ψ:k≠7) {o0:Ϟ} {c0:AV} {s0:AY} (μ:BM s0) (hA:A<F s0.bs) (O:WS P A Bz e B s0.bs)
  (τ:∀t∈ts,∀(o:Ϟ) (s:AY),BM s->WS P A Bz e B s.bs->F o+AP t<2 ^ 40->uD R P A Bz N (.agg ((Av (ren t)).map .pv)) o t s)
  (κ:∀t∈ts,∀o,F (Lc N t o).2<=F o+AP t) (hb:F o0+Ak ts<2 ^ 40) {rr:Bool} {Post:Ϡ}
  (υ:∀f m ds,D1 0 m 3 f (Ai (jO (HL N ts o0).2))->Cx c0 f s0.ts m->BX (.mk k n i (CO (HL N ts o0).1)) (.agg ds)->Post (.agg ds) ⟨s0.bs.set A [f],m⟩) :
  ∀(j q:Nat) (o:Ϟ) (done:Ϣ) (bs:Ϩ) (tk:Ϫ) (b c:AV),q+j=F ts->done++(HL N (ts.drop q) o).1=(HL N ts o0).1->(HL N (ts.drop q) o).2=(HL N ts o0).2->F done=q->F o+Ak (ts.drop q)<=F o0+Ak ts ->
   BM ⟨bs,tk⟩->bs.take (F s0.bs)=s0.bs.set A [c]->bs[F s0.bs]?=Y [AG k,SS n,AG i,a]->bs[F s0.bs+1]?=Y Z4->bs[F s0.bs+2]?=Y [AG k,SS n,AG i,b] ->
   D1 0 tk 3 c (Ai (jO o))->D1 0 tk 25 b (Aj (CO done))->Cx c0 c s0.ts tk->Dt b s0.ts->SZ c b ->
   AB2 R 0 0 0 (.ptr Bz 0) (.ptr (F s0.bs+1) 0) (.ptr (F s0.bs+2) 0) a (AG (F ts)) (AG q) ⟨bs,tk⟩ (QM rr (F s0.bs) Post):=by
 have Ω:=Bl ts;intro j
 induction j with
 | zero=>
  intro q o done bs tk b c φ r p ν ε ζ C η D E y l H L K;refine AB3 (Ao ?_);rw[A5 AA];rw[CR AA,HL,G9] at r;rw[CR AA,HL] at p;simp only at r p;rw[r] at l;rw[p] at y;refine A4 (AMn (Ag E rfl (Bn D rfl rfl AH (AO _) (by simp[l.BA.ok]) (.inl (AO _)) (Ag (BT D) rfl ?_))));have⟨ds,χ,ψ⟩:=BX.Jk (v:=.mk k n i (CO (HL N ts o0).1)) (cs:=[AG k,SS n,AG i,b]) ⟨b,rfl,l.BA⟩ (bs.set (F s0.bs+1) [AG k,SS n,AG i,b]) (F s0.bs) (F tk);exact cz μ ((Cf AA).trans C) (by simp[Ap,y.BA.A6]) χ (υ c tk ds y H ψ)
 | succ j ξ=>
  intro q o done bs tk b c φ r p ν ε ζ C η D E y l H L K;refine AB3 (Ao ?_);rw[Ax AA];have⟨t,θ⟩:∃t,ts[q]?=Y t:=⟨_,Az AA⟩;have a0:(CO ts)[q]?=Y (ren t):=by grind[Bx]
  have U:=A8 θ;have M:F ((Av (ren t)).map AV.pv)=4:=by grind[Aq]
  have W:=DG (ren t)
  have X:Ap (F bs+1) ((Av (ren t)).map AV.pv)=true:=by
   have⟨k1,a4,a5,a6⟩:=ren t;rfl
  refine BH (AMo (Bc σ (row:=Av (ren t)) AA (by simp[*,BK]) (Aq _) AA (Cd (Bh ?_))));have α:=τ t U;have β:ts.drop q=t::ts.drop (q+1):=drop_cons θ;rw[β,HL] at r p;rw[β,Ak] at ε;generalize (Av (ren t)).map AV.pv=d at M W X α;refine Bn (A0 bs Z4) M rfl AH (AO _) W (.inl (AO _)) ?_;have e:(bs++[Z4]).set (F bs) d=bs++[d]:=AD;rw[e];have a7:=(BJ.1 E).1;have ο:F s0.bs<=F bs:=AA;have γ:=(DL ο d).trans C;have δ:BM ⟨bs++[d],tk⟩:=BM.app (s:=⟨bs,tk⟩) ζ X;have ω:(s0.bs.set A [c])[A]?=Y [c]:=by rw[Cv AA]
  have Γ:(s0.bs.set A [c])[Bz]?=Y [c8 P A Bz]:=by rw[Ge O.nF]; exact O.hF
  obtain⟨v,a8,⟨f,m,ds,Q,I,rfl,Δ,rfl⟩,Θ⟩:=α o ⟨bs++[d],tk⟩ δ (O.tk γ) AA (Co (env R) 91 0 0 0) c rfl rfl (CN γ ω) y;have Λ:=Am D d;have S:=Am E d;have Ξ:=Am η d;have u:((bs++[d]).set A [f])[F s0.bs+2]?=Y [AG k,SS n,AG i,b]:=BR S AA;refine AR (Ab S) (Ad S rfl (Ad (Am (CN C Γ) d) rfl (Ag (A0 bs d) M ⟨_,_,Θ,Eg Δ ⟨AH,Jj (I.keep l K) rfl ?_ ?_⟩⟩)))
  .grind[Bx]
  .intro ι π x z
   have Φ:CO done++[ren (Lc N t o).1]=CO (done++[(Lc N t o).1]):=by simp[Bx]
   rw[Φ] at x;refine AR (Ab u) (C1 u AD x.BA.cells (AO _) x.BA.ok (.inl (AO _)) ?_);refine⟨AR (Ab u) (D8 _ _),Ad u rfl (Fm l),AMp (Bb AA AA ?_)⟩;have T:SZ b f:=(K.QG I l).symm;have ρ:(((bs++[d]).set A [f]).set (F s0.bs+2) [AG k,SS n,AG i,ι]).take (F s0.bs)=s0.bs.set A [f]:=by simp[*,Cf,Ep]
   have ς:BM ⟨(bs++[d]).set A [f],m⟩:=BM.set (s:=⟨bs++[d],tk⟩) δ (by simp[Ap,A6,Q.BA.A6]) _;have:=κ t U o
   have a1:=ξ (q+1) (Lc N t o).2 (done++[(Lc N t o).1]) _ π ι f AA (by simp[*]) p AB AA
    (BM.set (s:=⟨(bs++[d]).set A [f],m⟩) ς (by simp[Ap,A6,x.BA.A6]) _) ρ (BR (BR Ξ AA) AA) (BR (BR Λ AA) AA) (BT u)
    (z.keep Q T) x ((H.trans I).side z L) (L.QG z (BC H.1 I.1)) (T.QG z Q).symm
   grind
end
end Go.Proofs.YtpgfpakdnijngaaGreatDoor
