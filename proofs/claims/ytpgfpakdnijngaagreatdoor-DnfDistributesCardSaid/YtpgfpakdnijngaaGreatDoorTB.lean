/-
  Branches: replaced occurrences, placeholders in terms, the relation of branches.
-/
import Derived.Test.YtpgfpakdnijngaaGreatDoorTA
set_option linter.unusedSimpArgs false
set_option linter.unusedVariables false
namespace Go.Proofs.YtpgfpakdnijngaaGreatDoor
open Go.Tel
section
variable (c:Ty)
mutual
theorem O5:∀ (b:Ty) (k:Nat),k<(Ap b).length->Ap (Qz c b k)=(Ap b).take k++(Ap c++(Ap b).drop (k+1))
 | .mk q n i ts,k,hk=>by
  rw[Ap] at hk ⊢;rw[Qz];cases b5:(q==5) with
  | true=>
   rw[b5] at hk;have:k=0:=by simpa using hk
   subst this;simp
  | false=>
   rw[b5] at hk;cases b3:(q==3) with
   | true=>
    rw[b3] at hk;simp only[AB,AE] at hk ⊢;rw[Ap,b5,b3];exact Zs ts k hk
   | false=>rw[b3] at hk; simp at hk
theorem Zs:∀ (l:List Ty) (k:Nat),k<(CQ l).length->CQ (Lv c l k)=(CQ l).take k++(Ap c++(CQ l).drop (k+1))
 | [],k,hk=>by simp[CQ] at hk
 | t::l,k,hk=>by
  rw[CQ] at hk ⊢;rw[Lv]
  by_cases h:k<(Ap t).length
  ·rw[Au h]
   simp only[AE,CQ];rw[O5 t k h,OS (by omega),List.drop_append_of_le_length (by omega)];simp
  ·rw[A9 h]
   simp only[AB,CQ]
   have hk':k-(Ap t).length<(CQ l).length:=by
    rw[Ab] at hk;omega
   have e1:(Ap t).take k=Ap t:=CL (by omega);have e2:(Ap t).drop (k+1)=[]:=Cf (by omega);rw[Zs l _ hk',List.take_append,e1,List.drop_append,e2];rw[show k+1-(Ap t).length=k-(Ap t).length+1 by omega];simp
end
mutual
theorem qJ:∀ (b:Ty) (k:Nat),∀ i∈vis (Qz c b k),i∈vis b\/i∈vis c
 | .mk q n j ts,k,i,hi=>by
  rw[Qz] at hi;cases b5:(q==5) with
  | true=>
   rw[b5] at hi;cases b0:(k==0) with
   | true=>rw[b0] at hi; exact .inr (by simpa using hi)
   | false=>rw[b0] at hi; exact .inl (by simpa using hi)
  | false=>
   rw[b5] at hi;cases b3:(q==3) with
   | true=>
    rw[b3] at hi;simp only[AB,AE] at hi;rw[vis,b5,b3] at hi ⊢;simp only[AB,EN,AE] at hi ⊢;exact jA ts k i hi
   | false=>
    rw[b3] at hi;exact .inl (by simpa using hi)
theorem jA:∀ (l:List Ty) (k:Nat),∀ i∈Et (Lv c l k),i∈Et l\/i∈vis c
 | [],k,i,hi=>by simp[Lv,Et] at hi
 | t::l,k,i,hi=>by
  rw[Lv] at hi;simp only[Et,BL];cases b:decide (k<(Ap t).length) with
  | true=>
   rw[b] at hi;simp only[AE,Et,BL] at hi;rcases hi with hi|hi
   ·rcases qJ t k i hi with h|h
    ·exact .inl (.inl h)
    ·exact .inr h
   ·exact .inl (.inr hi)
  | false=>
   rw[b] at hi;simp only[AB,Et,BL] at hi;rcases hi with hi|hi
   ·exact .inl (.inl hi)
   ·rcases jA l _ i hi with h|h
    ·exact .inl (.inr h)
    ·exact .inr h
end
mutual
theorem AAp (p:Int->Bool):∀ (b:Ty) (k:Nat),oI p (Qz c b k)=true->oI p b=true\/oI p c=true
 | .mk q n j ts,k,hi=>by
  rw[Qz] at hi;cases b5:(q==5) with
  | true=>
   rw[b5] at hi;cases b0:(k==0) with
   | true=>rw[b0] at hi; exact .inr (by simpa using hi)
   | false=>rw[b0] at hi; exact .inl (by simpa using hi)
  | false=>
   rw[b5] at hi;cases b3:(q==3) with
   | true=>
    have h3:q=3:=by simpa using b3
    subst h3;simp only[AB,AE,BH] at hi;rw[oI] at hi ⊢;simp only[show((3:Int)==2)=false from rfl,AB,BH,Ec] at hi ⊢;exact qK p ts k hi
   | false=>
    rw[b3] at hi;exact .inl (by simpa using hi)
theorem qK (p:Int->Bool):∀ (l:List Ty) (k:Nat),S1 p (Lv c l k)=true->S1 p l=true\/oI p c=true
 | [],k,hi=>by simp[Lv,S1] at hi
 | t::l,k,hi=>by
  rw[Lv] at hi;simp only[S1,DJ];cases b:decide (k<(Ap t).length) with
  | true=>
   rw[b] at hi;simp only[AE,S1,DJ] at hi;rcases hi with hi|hi
   ·rcases AAp p t k hi with h|h
    ·exact .inl (.inl h)
    ·exact .inr h
   ·exact .inl (.inr hi)
  | false=>
   rw[b] at hi;simp only[AB,S1,DJ] at hi;rcases hi with hi|hi
   ·exact .inl (.inl hi)
   ·rcases qK p l _ hi with h|h
    ·exact .inl (.inr h)
    ·exact .inr h
end
mutual
theorem AAq (hc:bd c=true):∀ (b:Ty) (k:Nat),bd b=true->bd (Qz c b k)=true
 | .mk q n j ts,k,h=>by
  rw[Qz];cases b5:(q==5) with
  | true=>
   cases b0:(k==0) with
   | true=>simpa using hc
   | false=>simpa using h
  | false=>
   cases b3:(q==3) with
   | true=>
    have h3:q=3:=by simpa using b3
    subst h3;rw[bd] at h;simp only[AB,AE];rw[bd];have:=qL hc ts k (by simpa using h);simpa using this
   | false=>simpa using h
theorem qL (hc:bd c=true):∀ (l:List Ty) (k:Nat),Mz l=true->Mz (Lv c l k)=true
 | [],k,h=>h
 | t::l,k,h=>by
  simp only[Mz,AG] at h;rw[Lv];cases decide (k<(Ap t).length) with
  | true=>simp[Mz,AAq hc t k h.1,h.2]
  | false=>simp[Mz,qL hc l _ h.2,h.1]
end
end
mutual
theorem qN:∀ (b:Ty),pl b=true->∀ i∈vis b,oA (·==i) b=true
 | .mk k n j ts,h,i,hi=>by
  rw[vis] at hi;rw[oA];cases b5:(k==5) with
  | true=>rw[b5] at hi; simp at hi; simp[hi]
  | false=>
   cases b2:(k==2) with
   | true=>
    rw[pl,b5,b2] at h;rw[b5,b2] at hi;simp only[AB,AE,D0] at h hi;simp[jB ts h i hi]
   | false=>
    have hc:Q0 (.mk k n j ts)=true:=by
     rw[pl,b5,b2] at h;simpa using h
    have:=eX _ hc;rw[vis] at this;rw[this] at hi;cases hi
theorem jB:∀ (l:List Ty),Uw l=true->∀ i∈Et l,eW (·==i) l=true
 | [],_,i,hi=>by cases hi
 | t::l,h,i,hi=>by
  simp only[Uw,AG] at h;rw[Et,BL] at hi;rw[eW,DJ];rcases hi with hi|hi
  ·exact .inl (qN t h.1 i hi)
  ·exact .inr (jB l h.2 i hi)
end
mutual
theorem Vd:∀ (b:Ty),bd b=true->∀ i∈vis b,i∈Ap b\/oI (·==i) b=true
 | .mk k n j ts,h,i,hi=>by
  cases b2:(k==2) with
  | true=>
   have h2:k=2:=by simpa using b2
   subst h2
   have hp:pl (.mk 2 n j ts)=true:=by
    rw[bd] at h;rw[pl];simpa using h
   right
   rw[oI];simpa using qN _ hp i hi
  | false=>
   rw[vis] at hi;rw[Ap,oI];cases b5:(k==5) with
   | true=>rw[b5] at hi; exact .inl (by simpa using hi)
   | false=>
    cases b3:(k==3) with
    | true=>
     rw[bd,b5,b2,b3] at h;rw[b5,b2,b3] at hi;simp only[AB,AE,EN] at h hi;have:=S5 ts h i hi;simpa[b2] using this
    | false=>
     rw[b5,b2,b3] at hi;simp at hi
theorem S5:∀ (l:List Ty),Mz l=true->∀ i∈Et l,i∈CQ l\/S1 (·==i) l=true
 | [],_,i,hi=>by cases hi
 | t::l,h,i,hi=>by
  simp only[Mz,AG] at h;rw[Et,BL] at hi;rw[CQ,BL,S1,DJ];rcases hi with hi|hi
  ·rcases Vd t h.1 i hi with h' | h'
   ·exact .inl (.inl h')
   ·exact .inr (.inl h')
  ·rcases S5 l h.2 i hi with h' | h'
   ·exact .inl (.inr h')
   ·exact .inr (.inr h')
end
mutual
theorem qO (p:Int->Bool):∀ (b:Ty),oI p b=true->∃ i∈vis b,p i=true
 | .mk k n j ts,h=>by
  rw[oI] at h;cases b2:(k==2) with
  | true=>
   rw[b2] at h;simp only[AE] at h;exact qP p _ h
  | false=>
   rw[b2] at h;simp only[AB,AG] at h;have h3:k=3:=by simpa using h.1
   subst h3;rw[vis];simpa using jC p ts h.2
theorem jC (p:Int->Bool):∀ (l:List Ty),S1 p l=true->∃ i∈Et l,p i=true
 | [],h=>by cases h
 | t::l,h=>by
  rw[S1,DJ] at h;rw[Et];rcases h with h|h
  ·obtain⟨i,h1,h2⟩:=qO p t h
   exact⟨i,BL.2 (.inl h1),h2⟩
  ·obtain⟨i,h1,h2⟩:=jC p l h
   exact⟨i,BL.2 (.inr h1),h2⟩
theorem qP (p:Int->Bool):∀ (b:Ty),oA p b=true->∃ i∈vis b,p i=true
 | .mk k n j ts,h=>by
  rw[oA] at h;rw[vis];cases b5:(k==5) with
  | true=>
   rw[b5] at h;exact⟨j,by simp,by simpa using h⟩
  | false=>
   rw[b5] at h;simp only[AB,AG] at h;simpa[h.1] using jD p ts h.2
theorem jD (p:Int->Bool):∀ (l:List Ty),eW p l=true->∃ i∈Et l,p i=true
 | [],h=>by cases h
 | t::l,h=>by
  rw[eW,DJ] at h;rw[Et];rcases h with h|h
  ·obtain⟨i,h1,h2⟩:=qP p t h
   exact⟨i,BL.2 (.inl h1),h2⟩
  ·obtain⟨i,h1,h2⟩:=jD p l h
   exact⟨i,BL.2 (.inr h1),h2⟩
end
mutual
def inst (σ:List Nat) (u:Nat):Ty->Ty
 | .mk k n i ts=>bif k==5 then(bif decide ((u:Int)<=i) then(match σ[(i-u).toNat]? with
  | some v=>ph v
  | none=>.mk k n i ts) else .mk k n i ts) else .mk k n i (C5 σ u k 0 ts)
def C5 (σ:List Nat) (u:Nat) (k:Int) (j:Nat):List Ty->List Ty
 | []=>[]
 | t::l=>inst σ (u+HF k j) t::C5 σ u k (j+1) l
end
theorem EK {u:Nat} {k i:Int} {n:List UInt8} {ts:List Ty} (h:Dg u (.mk k n i ts)=true) (h5:k≠5):Eg u k 0 ts=true:=by
 have b5:(k==5)=false:=by simpa using h5
 rw[Dg,b5] at h;simpa using h
theorem MT {u:Nat} {i:Int} {n:List UInt8} {ts:List Ty} (h:Dg u (.mk 5 n i ts)=true):i<u:=by
 rw[Dg] at h
 by_cases hi:(u:Int)<=i
 ·simp[hi] at h
 ·omega
theorem JN {n:List UInt8} {i:Int} {ts:List Ty} (h:valid (.mk 5 n i ts)=true):n=[]/\ts=[]/\0<=i:=by
 simp only[valid,root,shape,AG] at h;have h1:=h.1;simp at h1;exact⟨h1.1,h1.2.1.1,h1.2.1.2⟩
mutual
theorem JF (σ:List Nat):∀ (t:Ty) (u:Nat),valid t=true->Dg u t=true->inst σ u t=t
 | .mk k n i ts,u,hv,hc=>by
  rw[inst]
  by_cases h5:k=5
  ·subst h5
   have:=MT hc;have h:¬ (u:Int)<=i:=by omega
   simp[h]
  ·have b5:(k==5)=false:=by simpa using h5
   simp only[valid,AG] at hv;rw[b5];simp only[AB];rw[Zt σ ts u k 0 hv.2 (EK hc h5)]
theorem Zt (σ:List Nat):∀ (l:List Ty) (u:Nat) (k:Int) (j:Nat),Bw l=true->Eg u k j l=true->C5 σ u k j l=l
 | [],_,_,_,_,_=>rfl
 | t::l,u,k,j,hv,hc=>by
  simp only[Bw,AG] at hv;simp only[Eg,AG] at hc;rw[C5,JF σ t _ hv.1 hc.1,Zt σ l u k (j+1) hv.2 hc.2]
end
mutual
theorem Kq (v:Nat) (σ:List Nat):∀ (t:Ty) (u:Nat),valid t=true->Dg (u+1+σ.length) t=true->sub v u (inst σ (u+1) t)=inst (v::σ) u t
 | .mk k n i ts,u,hv,hc=>by
  rw[inst,inst]
  by_cases h5:k=5
  ·subst h5
   have hi:=MT hc;obtain⟨rfl,rfl,h0⟩:=JN hv;simp only[BH,AE]
   by_cases hu:(u:Int)+1<=i
   ·have h1:((u+1:Nat):Int)<=i:=by omega
    have h2:(u:Int)<=i:=by omega
    rw[Au h1,Au h2];simp only[AE];have e:(i-(u:Int)).toNat=(i-((u+1:Nat):Int)).toNat+1:=by omega
    rw[e,FN];obtain⟨w,hw⟩:∃ w,σ[(i-((u+1:Nat):Int)).toNat]?=some w:=⟨_,Ak (by omega)⟩;rw[hw];simp[sub,KT]
   ·have h1:¬ ((u+1:Nat):Int)<=i:=by omega
    rw[A9 h1];simp only[AB];rw[sub];simp only[BH,AE]
    by_cases he:i=u
    ·subst he
     simp
    ·have b1:(i==(u:Int))=false:=by simpa using he
     have h2:¬ (u:Int)<i:=by omega
     have h3:¬ (u:Int)<=i:=by omega
     rw[b1,A9 h2,A9 h3];simp
  ·have b5:(k==5)=false:=by simpa using h5
   simp only[valid,AG] at hv;rw[b5];simp only[AB];rw[sub,b5];simp only[AB];rw[Ve v σ ts u k 0 hv.2 (EK hc h5)]
theorem Ve (v:Nat) (σ:List Nat):∀ (l:List Ty) (u:Nat) (k:Int) (j:Nat),Bw l=true->Eg (u+1+σ.length) k j l=true->KT v u k j (C5 σ (u+1) k j l)=C5 (v::σ) u k j l
 | [],_,_,_,_,_=>rfl
 | t::l,u,k,j,hv,hc=>by
  simp only[Bw,AG] at hv;simp only[Eg,AG] at hc;rw[C5,KT,C5];have e:u+1+HF k j=u+HF k j+1:=by omega
  rw[e,Kq v σ t (u+HF k j) hv.1 (by rw[show u+HF k j+1+σ.length=u+1+σ.length+HF k j by omega]; exact hc.1),Ve v σ l u k (j+1) hv.2 hc.2]
end
theorem Q3 {n:List UInt8} {i:Int} {ts:List Ty} (h:valid (.mk 2 n i ts)=true):JZ ts=true:=by
 simp only[valid,root,shape,AG] at h;have h1:=h.1.2;simp at h1;exact h1.2
mutual
theorem Ny (σ:List Nat):∀ (t:Ty),valid t=true->plain t=true->Dg σ.length t=true->pl t=true/\inst σ 0 t=tr (fun i=>σ.getD i.toNat 0) t
 | .mk k n i ts,hv,hp,hc=>by
  by_cases h5:k=5
  ·subst h5
   obtain⟨rfl,rfl,h0⟩:=JN hv;have hi:=MT hc;refine⟨by simp[pl],?_⟩;rw[inst,tr,CD];have h1:((0:Nat):Int)<=i:=by omega
   rw[Au h1];simp only[BH,AE];have e:(i-((0:Nat):Int)).toNat=i.toNat:=by omega
   rw[e];obtain⟨w,hw⟩:∃ w,σ[i.toNat]?=some w:=⟨_,Ak (by omega)⟩;rw[hw];simp[List.getD,hw]
  ·have b5:(k==5)=false:=by simpa using h5
   by_cases h2:k=2
   ·subst h2
    have JM:=Q3 hv;simp only[valid,AG] at hv;obtain⟨q1,q2⟩:=Q4 σ ts 2 (by decide) 0 hv.2 JM (EK hc (by decide));refine⟨by rw[pl]; simpa using q1,?_⟩;rw[inst,tr,CD,b5];simp only[AB,BH,D0,AE];rw[q2]
   ·have h0:Dg 0 (.mk k n i ts)=true:=by
     rw[plain,b5] at hp;simpa[h2] using hp
    have Bu:Q0 (.mk k n i ts)=true:=by rw[Q0,hv,h0]; rfl
    refine⟨?_,?_⟩
    ·rw[pl,b5]
     simpa[h2] using Bu
    ·rw[JF σ _ 0 hv h0,tr,LZ _ _ Bu]
theorem Q4 (σ:List Nat):∀ (l:List Ty) (k:Int),k≠6->∀ (j:Nat),Bw l=true->JZ l=true->Eg σ.length k j l=true->Uw l=true/\C5 σ 0 k j l=Rw (fun i=>σ.getD i.toNat 0) l
 | [],_,_,_,_,_,_=>⟨rfl,rfl⟩
 | t::l,k,h6,j,hv,hp,hc=>by
  simp only[Bw,AG] at hv;simp only[JZ,AG] at hp;have b6:(k==6)=false:=by simpa using h6
  have hb:HF k j=0:=by simp[HF,b6]
  simp only[Eg,AG,hb,Dq] at hc;obtain⟨q1,q2⟩:=Ny σ t hv.1 hp.1 hc.1;obtain⟨r1,r2⟩:=Q4 σ l k h6 (j+1) hv.2 hp.2 hc.2;refine⟨by rw[Uw,q1,r1]; rfl,?_⟩;rw[C5,hb,Dq,q2,r2];rfl
end
mutual
theorem QA (u:Nat):∀ (t:Ty),valid t=true->Dg u t=true->∀ i∈vis t,0<=i/\i<u
 | .mk k n j ts,hv,hc,i,hi=>by
  rw[vis] at hi
  by_cases h5:k=5
  ·subst h5
   obtain⟨rfl,rfl,h0⟩:=JN hv;have:=MT hc;have e:i=j:=by simpa using hi
   subst e;exact⟨h0,this⟩
  ·have b5:(k==5)=false:=by simpa using h5
   rw[b5] at hi;cases b:(k==2||k==3) with
   | false=>rw[b] at hi; simp at hi
   | true=>
    rw[b] at hi;simp only[AB,AE] at hi;simp only[valid,AG] at hv;exact S6 u ts k (by rintro rfl; simp at b) 0 hv.2 (EK hc h5) i hi
theorem S6 (u:Nat):∀ (l:List Ty) (k:Int),k≠6->∀ (j:Nat),Bw l=true->Eg u k j l=true->∀ i∈Et l,0<=i/\i<u
 | [],_,_,_,_,_,i,hi=>by cases hi
 | t::l,k,h6,j,hv,hc,i,hi=>by
  simp only[Bw,AG] at hv;have b6:(k==6)=false:=by simpa using h6
  have hb:HF k j=0:=by simp[HF,b6]
  simp only[Eg,AG,hb,Dq] at hc;rw[Et,BL] at hi;rcases hi with hi|hi
  ·exact QA u t hv.1 hc.1 i hi
  ·exact S6 u l k h6 (j+1) hv.2 hc.2 i hi
end
def CY {α β:Type} (R:α->β->Prop):List α->List β->Prop
 | [],[]=>True
 | a::l,b::m=>R a b/\CY R l m
 | _,_=>False
section
variable {α β:Type}
theorem CY.mono {R S:α->β->Prop} (h:∀ a b,R a b->S a b):∀ {l:List α} {m:List β},CY R l m->CY S l m
 | [],[],_=>trivial
 | _::_,_::_,⟨h1,h2⟩=>⟨h _ _ h1,h2.mono h⟩
 | [],_::_,h=>h.elim
 | _::_,[],h=>h.elim
theorem CY.length {R:α->β->Prop}:∀ {l:List α} {m:List β},CY R l m->l.length=m.length
 | [],[],_=>rfl
 | _::_,_::_,⟨_,h⟩=>by simp[h.length]
 | [],_::_,h=>h.elim
 | _::_,[],h=>h.elim
theorem CY.append {R:α->β->Prop}:∀ {l l':List α} {m m':List β},CY R l m->CY R l' m'->CY R (l++l') (m++m')
 | [],_,[],_,_,h=>h
 | _::_,_,_::_,_,⟨h1,h2⟩,h=>⟨h1,h2.append h⟩
 | [],_,_::_,_,h,_=>h.elim
 | _::_,_,[],_,h,_=>h.elim
end
def Ls {α:Type} (Q:List Ty->α->Ty->Prop) (B:List Ty):Option (List α)->GF->Prop
 | none,(none,B')=>B<+:B'
 | some r,(some ps,B')=>B<+:B'/\CY (Q B') r ps
 | _,_=>False
theorem Db {A B C:List Ty} (h:A<+:B) (h':B<+:C):A<+:C:=h.trans h'
theorem M3 {A B:List Ty} (h:A<+:B) {i:Nat} {t:Ty} (hi:A[i]?=some t):B[i]?=some t:=by
 obtain⟨C,rfl⟩:=h;have:=(Ae.1 hi).1;rw[BA this];exact hi
theorem Gd {A B:List Ty} (h:A<+:B):A.length<=B.length:=h.length_le
section
variable (Ai:Nat->Bool)
theorem eZ {α β γ:Type} {Q:List Ty->γ->Ty->Prop} (hQ:∀ B B' a b,B<+:B'->Q B a b->Q B' a b) {S:α->β->Prop} {g:α->Option (List γ)} {g':β->List Ty->GF} {B0:List Ty}
  (hg:∀ a b B,B0<+:B->S a b->Ls Q B (g a) (g' b B)):∀ (l:List α) (m:List β) (out:List γ) (out':List Ty) (B:List Ty),B0<+:B->CY S l m->CY (Q B) out out'->Ls Q B (O2 Ai g l out) (CN Ai g' m out' B)
 | [],[],out,out',B,_,_,h=>⟨CW _,h⟩
 | [],_::_,_,_,_,_,h,_=>h.elim
 | _::_,[],_,_,_,_,h,_=>h.elim
 | a::l,b::m,out,out',B,hB,⟨h1,h2⟩,h=>by
  have hs:=hg a b B hB h1;rw[O2,CN];cases hr:g a with
  | none=>
   rw[hr] at hs;rcases hgb:g' b B with ⟨r',B'⟩
   rw[hgb] at hs;cases r' with
   | some _=>exact hs.elim
   | none=>exact hs
  | some r=>
   rw[hr] at hs;rcases hgb:g' b B with ⟨r',B'⟩
   rw[hgb] at hs;cases r' with
   | none=>exact hs.elim
   | some ps=>
    obtain⟨hp,ha⟩:=hs;have hall:CY (Q B') (out++r) (out'++ps):=(h.mono fun a b=>hQ _ _ a b hp).append ha;have hl:(out++r).length=(out'++ps).length:=hall.length
    show Ls Q B (bif Ai (out++r).length then none else _) (bif Ai (out'++ps).length then(none,B') else _)
    rw[<-hl];cases Ai (out++r).length with
    | true=>exact hp
    | false=>
     have:=eZ hQ hg l m (out++r) (out'++ps) B' (Db hB hp) h2 hall;simp only[AB];revert this;cases O2 Ai g l (out++r) <;> obtain⟨r2,B2⟩:=CN Ai g' m (out'++ps) B' <;> cases r2 <;> intro this
     ·exact Db hp this
     ·exact this
     ·exact this
     ·exact⟨Db hp this.1,this.2⟩
end
def Nd (φ σ:List Nat) (v:Nat) (i:Int):Nat:=bif i==hole then v else bif decide (0<=i) then φ.getD i.toNat 0 else σ.getD (-1-i).toNat 0
theorem Kr {φ σ:List Nat} {v:Nat}:Nd φ σ v hole=v:=by simp[Nd]
theorem X2 {φ σ:List Nat} {v x:Nat} {i:Nat} (h:φ[i]?=some x) (hs:φ.length<hole):Nd φ σ v (i:Int)=x:=by
 have hl:=(Ae.1 h).1
 have hne:((i:Int)==hole)=false:=by
  simp only[D1,ne_eq];omega
 unfold Nd;rw[hne];simp[List.getD,h]
theorem Ge {φ σ:List Nat} {v:Nat} {i:Int} (h:i<0):Nd φ σ v i=σ.getD (-1-i).toNat 0:=by
 have hne:(i==hole)=false:=by
  simp only[D1,ne_eq,hole];omega
 have h0:¬ 0<=i:=by omega
 unfold Nd;rw[hne,A9 h0];rfl
structure Rl (h:Bool) (v:Nat) (B:List Ty) (lo hi:Nat) (σ:List Nat) (b:Br) (p:Ty) (φ:List Nat):Prop where
 nd:φ.Nodup
 O6:∀ x∈φ,lo<=x/\x<hi
 len:b.bounds.length=φ.length
 Ks:∀ (i x:Nat),φ[i]?=some x->B[x]?=b.bounds[i]?
 small:φ.length<hole
 bd:bd b.body=true
 vis:∀ i∈vis b.body,(0<=i/\i<φ.length)\/(i<0/\-i<=σ.length)\/(h=true/\i=hole)
 eq:p=tr (Nd φ σ v) b.body
theorem Rl.mono {h:Bool} {v:Nat} {B B':List Ty} {lo lo' hi hi':Nat} {σ:List Nat} {b:Br} {p:Ty} {φ:List Nat} (H:Rl h v B lo hi σ b p φ) (hB:B<+:B') (hb:hi<=B.length) (h1:lo'<=lo) (h2:hi<=hi'):Rl h v B' lo' hi' σ b p φ:=
 {H with
  O6:=fun x hx=>by have:=H.O6 x hx; omega
  Ks:=fun i x hx=>by
   have h3:=H.Ks i x hx;have h4:=(H.O6 x (BK hx)).2;obtain⟨t,ht⟩:∃ t,B[x]?=some t:=⟨_,Ak (by omega)⟩;rw[M3 hB ht,<-h3,ht] }
theorem X3 {φ:List Nat} {i:Int} (h0:0<=i) (h1:i<φ.length):∃ x,φ[i.toNat]?=some x/\x∈φ:=by
 obtain⟨x,hx⟩:∃ x,φ[i.toNat]?=some x:=⟨_,Ak (by omega)⟩;exact⟨x,hx,BK hx⟩
theorem Rl.qQ {h:Bool} {v:Nat} {B:List Ty} {lo hi:Nat} {σ:List Nat} {b:Br} {p:Ty} {φ:List Nat} (H:Rl h v B lo hi σ b p φ) {w:Nat} (hw:w<lo\/hi<=w) (hσ:w∉σ) {i:Int} (hi:i∈Proofs.YtpgfpakdnijngaaGreatDoor.vis b.body) (hh:i≠hole):Nd φ σ v i≠w:=by
 rcases H.vis i hi with ⟨h0,h1⟩|⟨h0,h1⟩|⟨_,h1⟩
 ·obtain⟨x,hx,hm⟩:=X3 h0 h1
  have:=H.O6 x hm
  have e:Nd φ σ v i=x:=by
   have:=X2 (σ:=σ) (v:=v) hx H.small;rw[Int.toNat_of_nonneg h0] at this;exact this
  omega
 ·rw[Ge h0]
  obtain⟨x,hx⟩:∃ x,σ[(-1-i).toNat]?=some x:=⟨_,Ak (by omega)⟩;simp only[List.getD,hx,I2];rintro rfl;exact hσ (BK hx)
 ·exact absurd h1 hh
theorem HP {l:List Int} {k:Nat} (h:l.findIdx? (·==hole)=some k):l[k]?=some hole/\∀ i∈l.take k,i≠hole:=by
 rw[XA] at h;obtain⟨h1,h2,h3⟩:=h;refine⟨?_,?_⟩
 ·rw[Ak h1]
  simpa using h2
 ·intro i hi
  obtain⟨j,hj,e⟩:=List.getElem_of_mem hi;have hjl:j<k:=by simp at hj; omega
  have:=h3 j hjl;rw[List.getElem_take] at e;rw[e] at this;simpa using this
theorem Nz {l:List Int} {k:Nat} (h:l[k]?=some hole) (hn:∀ i∈l.take k,i≠hole):l.count hole=(l.drop (k+1)).count hole+1/\(l.take k).count hole=0:=by
 obtain⟨h1,h2⟩:=Ae.1 h;have h0:(l.take k).count hole=0:=J1.2 fun hm=>hn _ hm rfl
 refine⟨?_,h0⟩
 have e:l.take k++hole::l.drop (k+1)=l:=by
  rw[<-h2,<-W9 h1,OT]
 have:l.count hole=(l.take k++hole::l.drop (k+1)).count hole:=by rw[e]
 rw[this,J2,List.count_cons,h0];simp
theorem O7 {φ ψ σ:List Nat} {v:Nat} {i:Int} (h:(0<=i/\i<φ.length)\/(i<0)\/i=hole) (hs:φ.length<hole):Nd (φ++ψ) σ v i=Nd φ σ v i:=by
 rcases h with ⟨h0,h1⟩|h|rfl
 ·have hne:(i==hole)=false:=by
   simp only[D1,ne_eq];omega
  unfold Nd;rw[hne,Au h0];simp only[AB,AE,List.getD];rw[BA (by omega)]
 ·rw[Ge h,Ge h]
 ·rw[Kr,Kr]
theorem AIK {B:List Ty} {lo hi:Nat} {c:Br} {q:Ty} {φ ψ σ:List Nat} {v w:Nat} (H:Rl false w B lo hi [] c q ψ) (hs:φ.length+ψ.length<hole):q=tr (Nd (φ++ψ) σ v) (Jt φ.length c.body) /\
  (∀ i∈vis (Jt φ.length c.body),φ.length<=i/\i<φ.length+ψ.length)/\bd (Jt φ.length c.body)=true/\Ap (Jt φ.length c.body)=(Ap c.body).map fun i=>bif decide (0<=i)&&!(i==hole) then i+φ.length else i:=by
 have hv:∀ i∈vis c.body,0<=i/\i<ψ.length:=by
  intro i hi;rcases H.vis i hi with h|h|h
  ·exact h
  ·simp at h; omega
  ·cases h.1
 have eg:Jt φ.length=CD fun i=>var (bif decide (0<=i)&&!(i==hole) then i+φ.length else i):=by
  unfold Jt;congr 1
  funext i
  cases (decide (0<=i)&&!(i==hole)) <;> rfl
 have hg:∀ i∈vis c.body,(bif decide (0<=i)&&!(i==hole) then i+(φ.length:Int) else i)=i+φ.length:=by
  intro i hi;have:=hv i hi
  have hne:(i==hole)=false:=by
   simp only[D1,ne_eq];omega
  rw[hne,Au this.1];rfl
 rw[eg];refine⟨?_,?_,P9 _ _ H.bd,Ei _ _⟩
 ·rw[H.eq,tr,tr,Hx]
  refine Eu _ fun i hi=>?_
  have hi':=hv i hi;rw[hg i hi];obtain⟨x,hx,_⟩:=X3 hi'.1 hi'.2
  have e1:Nd ψ [] w i=x:=by
   have:=X2 (σ:=[]) (v:=w) hx H.small;rwa [Int.toNat_of_nonneg hi'.1] at this
  have e2:Nd (φ++ψ) σ v (i+φ.length)=x:=by
   have hx':(φ++ψ)[φ.length+i.toNat]?=some x:=by
    rw[CV (by omega)];simpa using hx
   have:=X2 (σ:=σ) (v:=v) hx' (by simpa using hs);rw[show((φ.length+i.toNat:Nat):Int)=i+φ.length by omega] at this;exact this
  rw[e1,e2]
 ·rw[M0]
  intro j hj;obtain⟨i,hi,rfl⟩:=Bb.1 hj;have:=hv i hi;rw[hg i hi];omega
section
variable {Ai:Nat->Bool}
def qR (Ai:Nat->Bool) (l:Option (List Br)) (h fR:Nat) (b:Br):Option (List Br):=match h with
 | 0=>some [b]
 | _+1=>match l with
  | none=>none
  | some r=>Iz Ai r fR b
theorem fill_eq {l:Option (List Br)} {ex:List Ty->GF} {v lo:Nat} {σ:List Nat} {w:Nat} (hlo:lo<=v) (hσ:v∉σ)
  (hex:∀ B,Ls (fun B' c q=>∃ ψ,Rl false 0 B' B.length B'.length [] c q ψ) B l (ex B)) (hw:∀ r,l=some r->∀ c∈r,c.bounds.length<=w) :
  ∀ (h fR:Nat) (b:Br) (p:Ty) (B:List Ty) (φ:List Nat),Rl true v B (v+1) B.length σ b p φ->v<B.length->oI (·==hole) b.body=false->(Ap b.body).count hole=h->h<=fR->φ.length+h*w<hole ->
   Ls (fun B' b p=>∃ φ,Rl false 0 B' lo B'.length σ b p φ) B (qR Ai l h fR b) (B8 Ai ex v h p B):=by
 intro h
 induction h with
 | zero=>
  intro fR b p B φ H hv hI h0 hf hs;rw[B8,qR]
  suffices G:Rl false 0 B lo B.length σ b p φ from⟨CW _,⟨φ,G⟩,Al⟩
  have hno:∀ i∈vis b.body,i≠hole:=by
   rintro i hi rfl;rcases Vd b.body H.bd _ hi with h|h
   ·exact absurd h0 (Nat.ne_of_gt (XB.2 h))
   ·rw[hI] at h; cases h
  refine { nd:=H.nd,O6:=fun x hx=>?_,len:=H.len,Ks:=H.Ks,small:=H.small,bd:=H.bd,vis:=fun i hi=>?_,eq:=?_ }
  ·have:=H.O6 x hx
   omega
  ·rcases H.vis i hi with h|h|h
   ·exact .inl h
   ·exact .inr (.inl h)
   ·exact absurd h.2 (hno i hi)
  ·rw[H.eq]
   refine Eu _ fun i hi=>?_
   have hne:(i==hole)=false:=by simpa using hno i hi
   unfold Nd;rw[hne];rfl
 | succ h ih=>
  intro fR b p B φ H hv hI h0 hf hs;have hmem:hole∈Ap b.body:=XB.1 (by omega)
  have qT:C6 v false p=true:=by
   rw[H.eq,qH _ _ _ H.bd,DJ]
   right
   rw[HG];exact⟨hole,hmem,by simp[Kr]⟩
  rw[B8,qT];simp only[AE];have hx:=hex B;cases hl:l with
  | none=>
   rw[hl] at hx;rcases hgb:ex B with ⟨r',B'⟩
   rw[hgb] at hx;cases r' with
   | some _=>exact hx.elim
   | none=>exact hx
  | some r=>
   rw[hl] at hx;rcases hgb:ex B with ⟨r',B'⟩
   rw[hgb] at hx;cases r' with
   | none=>exact hx.elim
   | some ps=>
    obtain⟨hp,hall⟩:=hx;obtain⟨f,rfl⟩:∃ f,fR=f+1:=⟨fR-1,by omega⟩
    obtain⟨k,hk⟩:∃ k,KG b.body=some k:=by
     cases hh:KG b.body with
     | some k=>exact⟨k,rfl⟩
     | none=>
      unfold KG at hh;rw[LA] at hh;have:=hh hole hmem;simp at this
    obtain⟨SA,hk2⟩:=HP hk;obtain⟨NT,Pc⟩:=Nz SA hk2;rw[show qR Ai (some r) (h+1) (f+1) b=Iz Ai r (f+1) b from rfl];simp only;rw[Iz,hk];simp only
    have step:=eZ (Ai:=Ai) (Q:=fun B' b p=>∃ φ,Rl false 0 B' lo B'.length σ b p φ) (fun A A' a q hA ⟨φ,h⟩=>⟨φ,h.mono hA (AL _) (AL _) (Gd hA)⟩)
     (S:=fun c q=>c∈r/\∃ ψ,Rl false 0 B' B.length B'.length [] c q ψ) (g:=fun c=>Iz Ai r f (F0 b k c)) (g':=fun c B=>B8 Ai ex v h (KU (·==(v:Int)) c p 0) B) (B0:=B') ?_ r ps [] [] B' (CW _) ?_ Al
    ·revert step
     cases O2 Ai (fun c=>Iz Ai r f (F0 b k c)) r [] <;> obtain⟨r2,B2⟩:=CN Ai (fun c B=>B8 Ai ex v h (KU (·==(v:Int)) c p 0) B) ps [] B' <;> cases r2 <;> intro step
     ·exact Db hp step
     ·exact step
     ·exact step
     ·exact⟨Db hp step.1,step.2⟩
    ·rintro c q A hA ⟨hcr,ψ,hψ⟩
     have Bu:=hw r hl c hcr;rw[hψ.len] at Bu;have hmul:(h+1)*w=h*w+w:=by rw[CH,Mn]
     have nV:φ.length+ψ.length<hole:=by omega
     obtain⟨s1,s2,s3,s4⟩:=AIK (φ:=φ) (σ:=σ) (v:=v) hψ nV;have hkl:k<(Ap b.body).length:=(Ae.1 SA).1
     have e0:p=tr (Nd (φ++ψ) σ v) b.body:=by
      rw[H.eq];refine Eu _ fun i hi=>?_
      rw[O7 _ H.small];rcases H.vis i hi with h' | h' | h'
      ·exact .inl h'
      ·exact .inr (.inl h'.1)
      ·exact .inr (.inr h'.2)
     have e1:KU (·==(v:Int)) q p 0=tr (Nd (φ++ψ) σ v) (Qz (Jt φ.length c.body) b.body k):=by
      rw[s1,e0];refine(AAo _ _ _ _ k 0 H.bd ⟨hole,SA,by simp[Kr]⟩ ?_).symm;rw[List.countP_eq_zero];intro i hi;have AIL:=O3 b.body i (List.mem_of_mem_take hi);have hne:=H.qQ (w:=v) (.inl (XC v)) hσ AIL (hk2 i hi)
      have:=O7 (ψ:=ψ) (σ:=σ) (v:=v) (φ:=φ) (i:=i) (by
       rcases H.vis i AIL with h' | h' | h'
       ·exact .inl h'
       ·exact .inr (.inl h'.1)
       ·exact .inr (.inr h'.2)) H.small
      rw[this];have AEW:((Nd φ σ v i:Nat):Int)≠(v:Int):=by omega
      simpa using AEW
     have hno:hole∉vis (Jt φ.length c.body):=fun hh=>by
      have:=s2 _ hh;omega
     have hnc:(Ap (Jt φ.length c.body)).count hole=0:=J1.2 fun hm=>hno (O3 _ _ hm)
     have hBB:B<+:A:=Db hp hA;have key:=ih f (F0 b k c) (KU (·==(v:Int)) q p 0) A (φ++ψ) ?_ (GN hv (Gd hBB)) ?_ ?_ (by omega) (by rw[Ab]; omega)
     ·rw[hl] at key
      cases h with
      | zero=>
       have hz:KG (F0 b k c).body=none:=by
        have hz0:(Ap (F0 b k c).body).count hole=0:=by
         show(Ap (Qz (Jt b.bounds.length c.body) b.body k)).count hole=0
         rw[H.len,O5 _ _ _ hkl,J2,J2,Pc,hnc];omega
        unfold KG;rw[LA];intro x hx;simp only[D1,ne_eq];rintro rfl;exact absurd hz0 (Nat.ne_of_gt (XB.2 hx))
       have e:Iz Ai r f (F0 b k c)=some [F0 b k c]:=by
        cases f with
        | zero=>rfl
        | succ f=>rw[Iz,hz]
       show Ls _ A (Iz Ai r f (F0 b k c)) _
       rw[e];exact key
      | succ h=>exact key
     ·refine { nd:=?_,O6:=?_,len:=?_,Ks:=?_,small:=?_,bd:=?_,vis:=?_,eq:=?_ }
      ·rw[OQ]
       refine⟨H.nd,hψ.nd,fun x hx y hy=>?_⟩;have:=(H.O6 x hx).2;have:=(hψ.O6 y hy).1;omega
      ·intro x hx
       have hAl:=Gd hBB;have hAl':=Gd hA;rcases BL.1 hx with hx|hx
       ·have:=H.O6 x hx
        omega
       ·have:=hψ.O6 x hx
        omega
      ·simp only[F0,Ab,H.len,hψ.len]
      ·intro i x hx
       show A[x]?=(b.bounds++c.bounds)[i]?
       by_cases hi:i<φ.length
       ·rw[BA hi] at hx
        rw[BA (by rw[H.len]; exact hi)];have:=H.Ks i x hx;have hxl:=(H.O6 x (BK hx)).2;obtain⟨t,ht⟩:∃ t,B[x]?=some t:=⟨_,Ak (by omega)⟩;rw[M3 hBB ht,<-this,ht]
       ·rw[CV (by omega)] at hx
        rw[CV (by rw[H.len]; omega),H.len];have:=hψ.Ks _ x hx;have hxl:=(hψ.O6 x (BK hx)).2;obtain⟨t,ht⟩:∃ t,B'[x]?=some t:=⟨_,Ak (by omega)⟩;rw[M3 hA ht,<-this,ht]
      ·rw[Ab]
       exact nV
      ·show bd (Qz (Jt b.bounds.length c.body) b.body k)=true
       rw[H.len];exact AAq _ s3 _ _ H.bd
      ·intro i hi
       have hi':i∈vis (Qz (Jt b.bounds.length c.body) b.body k):=hi;rw[H.len] at hi';rw[Ab];rcases qJ _ _ _ i hi' with h' | h'
       ·rcases H.vis i h' with h'' | h'' | h''
        ·exact .inl ⟨h''.1,by omega⟩
        ·exact .inr (.inl h'')
        ·exact .inr (.inr h'')
       ·have:=s2 i h'
        exact .inl ⟨by omega,by omega⟩
      ·rw[e1]
       show _=tr (Nd (φ++ψ) σ v) (Qz (Jt b.bounds.length c.body) b.body k)
       rw[H.len]
     ·show oI (·==hole) (Qz (Jt b.bounds.length c.body) b.body k)=false
      rw[H.len];cases hh:oI (·==hole) (Qz (Jt φ.length c.body) b.body k) with
      | false=>rfl
      | true=>
       rcases AAp _ _ _ _ hh with h' | h'
       ·rw[hI] at h'; cases h'
       ·obtain⟨i,hi,he⟩:=qO _ _ h'
        have:i=hole:=by simpa using he
        rw[this] at hi;exact absurd hi hno
     ·show(Ap (Qz (Jt b.bounds.length c.body) b.body k)).count hole=h
      rw[H.len,O5 _ _ _ hkl,J2,J2,Pc,hnc];omega
    ·have:∀ {r':List Br} {ps:List Ty},(∀ c∈r',c∈r)->CY (fun c q=>∃ ψ,Rl false 0 B' B.length B'.length [] c q ψ) r' ps->CY (fun c q=>c∈r/\∃ ψ,Rl false 0 B' B.length B'.length [] c q ψ) r' ps:=by
      intro r'
      induction r' with
      | nil=>intro ps _ h; cases ps with
       | nil=>trivial
       | cons _ _=>exact h.elim
      | cons a r' ih=>intro ps hm h; cases ps with
       | nil=>exact h.elim
       | cons q ps=>exact⟨⟨hm a (by simp),h.1⟩,ih (fun c hc=>hm c (Du _ hc)) h.2⟩
     exact this (fun c hc=>hc) hall
end
def ex6:List Nat->Nat
 | [b,c]=>c*(b+1)
 | _=>0
mutual
def cv:Ty->Nat
 | .mk k _ _ ts=>bif k==6 then ex6 (Lt ts) else bif k==3||k==4 then(Lt ts).sum else 1
def Lt:List Ty->List Nat
 | []=>[]
 | t::l=>cv t::Lt l
end
def ym:List Nat->List Nat->Nat
 | [b,c],[_,cc]=>c+1+(cc+1)*b
 | _,_=>0
mutual
def bw:Ty->Nat
 | .mk k _ _ ts=>bif k==6 then ym (cu ts) (Lt ts) else bif k==3||k==4 then(cu ts).sum else 0
def cu:List Ty->List Nat
 | []=>[]
 | t::l=>bw t::cu l
end
section
variable {Ai:Nat->Bool}
theorem MU {α β:Type} {g:α->Option (List β)}:∀ {l:List α} {out r:List β},O2 Ai g l out=some r->∀ d∈r,d∈out\/∃ a∈l,∃ s,g a=some s/\d∈s
 | [],out,r,h,d,hd=>by
  rw[O2] at h;cases h;exact .inl hd
 | a::l,out,r,h,d,hd=>by
  rw[O2] at h;cases hg:g a with
  | none=>rw[hg] at h; cases h
  | some s=>
   rw[hg] at h;simp only at h;cases hb:Ai (out++s).length with
   | true=>rw[hb] at h; cases h
   | false=>
    rw[hb] at h;rcases MU h d hd with h' | ⟨a',h1,s',h2,h3⟩
    ·rcases BL.1 h' with h' | h'
     ·exact .inl h'
     ·exact .inr ⟨a,by simp,s,hg,h'⟩
    ·exact .inr ⟨a',Du _ h1,s',h2,h3⟩
theorem Zu (n:Nat) (b:Ty):(Ap (Jt n b)).length=(Ap b).length:=by
 have eg:Jt n=CD fun i=>var (bif decide (0<=i)&&!(i==hole) then i+n else i):=by
  unfold Jt;congr 1
  funext i
  cases (decide (0<=i)&&!(i==hole)) <;> rfl
 rw[eg,Ei,AZ]
theorem X4 (n:Nat):Rv n=CD fun i=>var (bif i==-1 then(n:Int) else bif decide (i<0) then i+1 else i):=by
 unfold Rv;congr 1
 funext i
 cases (i==-1) <;> cases decide (i<0) <;> rfl
theorem QB (n m:Int):UU n m=CD fun i=>var (bif i==n then m else i):=by
 unfold UU;congr 1
 funext i
 cases (i==n) <;> rfl
theorem MV:yj=CD fun i=>var (-1-i):=rfl
theorem S7 {l:List Br} {w u:Nat} (hl:∀ c∈l,c.bounds.length<=w/\(Ap c.body).length<=u):∀ (f:Nat) (b:Br) (r:List Br),Iz Ai l f b=some r ->
  ∀ d∈r,d.bounds.length<=b.bounds.length+f*w/\(Ap d.body).length<=(Ap b.body).length+f*u
 | 0,b,r,h,d,hd=>by
  rw[Iz] at h;cases h;rw[Bj.1 hd];omega
 | f+1,b,r,h,d,hd=>by
  rw[Iz] at h;have m1:(f+1)*w=f*w+w:=by rw[CH,Mn]
  have m2:(f+1)*u=f*u+u:=by rw[CH,Mn]
  cases hk:KG b.body with
  | none=>
   rw[hk] at h;cases h;rw[Bj.1 hd];omega
  | some k=>
   rw[hk] at h;rcases MU h d hd with h' | ⟨c,h1,s,h2,h3⟩
   ·cases h'
   ·have:=S7 hl f _ s h2 d h3
    have hc:=hl c h1;have hkl:k<(Ap b.body).length:=(Ae.1 (HP hk).1).1
    have e:(Ap (F0 b k c).body).length=(Ap b.body).length-1+(Ap c.body).length:=by
     show(Ap (Qz (Jt b.bounds.length c.body) b.body k)).length=_
     rw[O5 _ _ _ hkl];simp only[Ab,DU,Rj,Zu];omega
    have e2:(F0 b k c).bounds.length=b.bounds.length+c.bounds.length:=by simp[F0]
    omega
theorem Zv {cr:Option (List Br)} {bound:Ty} {b:Br} {w u:Nat} (hl:∀ l,cr=some l->∀ c∈l,c.bounds.length<=w/\(Ap c.body).length<=u) {r:List Br} (h:LY Ai cr bound b=some r) :
  ∀ d∈r,d.bounds.length<=b.bounds.length+1+(Ap b.body).length*w/\(Ap d.body).length<=(Ap b.body).length*(u+1):=by
 intro d hd;have ec:(Ap (Rv b.bounds.length b.body)).length=(Ap b.body).length:=by rw[X4,Ei,AZ]
 have ec2:∀ m,(Ap (UU b.bounds.length m (Rv b.bounds.length b.body))).length=(Ap b.body).length:=fun m=>by rw[QB,Ei,AZ,ec]
 have hm:(Ap b.body).length<=(Ap b.body).length*(u+1):=Nat.le_mul_of_pos_right _ (by omega);have hm2:(Ap b.body).length*(u+1)=(Ap b.body).length+(Ap b.body).length*u:=by rw[J3,Mm]; omega
 unfold LY at h;cases hI:oI (·==(b.bounds.length:Int)) (Rv b.bounds.length b.body) with
 | true=>
  rw[hI] at h;simp only[AE,AY] at h;subst h;rw[Bj.1 hd];simp only[Ab,A3,BV,ec];omega
 | false=>
  rw[hI] at h;simp only[AB] at h;cases hh:KG (UU b.bounds.length hole (Rv b.bounds.length b.body)) with
  | none=>
   rw[hh] at h;simp only[AY] at h;subst h;rw[Bj.1 hd];simp only[ec2];omega
  | some k=>
   rw[hh] at h;cases hb:cr with
   | none=>rw[hb] at h; cases h
   | some l=>
    rw[hb] at h;have:=S7 (hl l hb) _ _ r h d hd;simp only[ec2] at this;omega
theorem MW {α β:Type} {g:α->Option β}:∀ {ts:List α} {ls:List β},Hw (ts.map g)=some ls->CY (fun t l=>g t=some l) ts ls
 | [],ls,h=>by
  simp only[EM,Hw,AY] at h;subst h
  trivial
 | t::ts,ls,h=>by
  simp only[CI] at h;cases hg:g t with
  | none=>rw[hg,Hw] at h; cases h
  | some a=>
   rw[hg,Hw] at h;cases hr:Hw (ts.map g) with
   | none=>rw[hr] at h; cases h
   | some r=>
    rw[hr] at h;simp only[AY] at h;subst h;exact⟨hg,MW hr⟩
theorem Vf:∀ {ls:List (List Br)} {ws us:List Nat} {out r:List Br} {N M:Nat},(CY (fun l w=>∀ c∈l,c.bounds.length<=w) ls ws)->(CY (fun l w=>∀ c∈l,(Ap c.body).length<=w) ls us) ->
  (∀ b∈out,b.bounds.length<=N/\(Ap b.body).length<=M/\∃ args,b.body=.mk 3 [] 0 args)->NI Ai ls out=some r->∀ d∈r,d.bounds.length<=N+ws.sum/\(Ap d.body).length<=M+us.sum
 | [],[],[],out,r,N,M,_,_,ho,h,d,hd=>by
  rw[NI] at h;cases h;have:=ho d hd;simp;omega
 | [],_::_,_,_,_,_,_,h,_,_,_,_,_=>h.elim
 | [],[],_::_,_,_,_,_,_,h,_,_,_,_=>h.elim
 | _::_,[],_,_,_,_,_,h,_,_,_,_,_=>h.elim
 | _::_,_::_,[],_,_,_,_,_,h,_,_,_,_=>h.elim
 | l::ls,w::ws,u::us,out,r,N,M,⟨hw,hws⟩,⟨hu,iJ⟩,ho,h,d,hd=>by
  rw[NI] at h;cases hb:Ai (Ja out l).length with
  | true=>rw[hb] at h; cases h
  | false=>
   rw[hb] at h;have:=Vf (N:=N+w) (M:=M+u) hws iJ ?_ h d hd
   ·simp only[Gq]
    omega
   ·intro b hb'
    unfold Ja at hb';obtain⟨b0,h0,h1⟩:=LB.1 hb';obtain⟨c,h2,rfl⟩:=Bb.1 h1;obtain⟨q1,q2,args,q3⟩:=ho b0 h0;have:=hw c h2;have:=hu c h2;rw[q3];refine⟨by simp only[Ab]; omega,?_,_,rfl⟩
    have ea:CQ (args++[Jt b0.bounds.length c.body])=CQ args++Ap (Jt b0.bounds.length c.body):=by
     have:∀ (l:List Ty) (t:Ty),CQ (l++[t])=CQ l++Ap t:=by
      intro l t
      induction l with
      | nil=>simp[CQ]
      | cons a l ih=>simp[CQ,ih]
     exact this _ _
    have e3:Ap (.mk 3 [] 0 (args++[Jt b0.bounds.length c.body]))=CQ args++Ap (Jt b0.bounds.length c.body):=by
     rw[Ap];simpa using ea
    have e4:Ap b0.body=CQ args:=by
     rw[q3,Ap];rfl
    rw[e3,Ab,Zu,<-e4];omega
theorem QC:∀ l:List Ty,Lt l=l.map cv
 | []=>rfl
 | t::l=>by rw[Lt,QC l]; rfl
theorem Hy:∀ l:List Ty,cu l=l.map bw
 | []=>rfl
 | t::l=>by rw[cu,Hy l]; rfl
theorem CY.MX {α β γ:Type} {R:α->β->Prop} {S:β->γ->Prop} {g:α->γ}:∀ {l:List α} {m:List β},(∀ a b,a∈l->R a b->S b (g a))->CY R l m->CY S m (l.map g)
 | [],[],_,_=>trivial
 | a::l,b::m,h,⟨h1,h2⟩=>⟨h a b (by simp) h1,h2.MX fun a b ha=>h a b (Du _ ha)⟩
 | [],_::_,_,h=>h.elim
 | _::_,[],_,h=>h.elim
theorem CY.QD {α β:Type} {R:α->β->Prop}:∀ {l:List α} {m:List β},CY R l m->∀ b∈m,∃ a∈l,R a b
 | [],[],_,b,h=>by cases h
 | a::l,c::m,⟨h1,h2⟩,b,h=>by
  rcases Av.1 h with rfl|h
  ·exact⟨a,by simp,h1⟩
  ·obtain⟨a',h3,h4⟩:=h2.QD b h
   exact⟨a',Du _ h3,h4⟩
 | [],_::_,h,_,_=>h.elim
 | _::_,[],h,_,_=>h.elim
theorem FX:∀ {l:List Nat} {n:Nat},n∈l->n<=l.sum
 | a::l,n,h=>by
  rw[Gq];rcases Av.1 h with rfl|h
  ·omega
  ·have:=FX h
   omega
theorem Ej:∀ (f:Nat) (t:Ty) (l:List Br),Gi Ai f t=some l->∀ c∈l,c.bounds.length<=bw t/\(Ap c.body).length<=cv t
 | 0,t,l,h,c,hc=>by rw[Gi] at h; cases h
 | f+1,.mk k n i ts,l,h,c,hc=>by
  rw[Gi] at h;rw[bw,cv]
  by_cases k0:k=0
  ·subst k0
   simp only[BH,AE,AY] at h;subst h;rw[Bj.1 hc];simp[Ap]
  have b0:(k==0)=false:=by simpa using k0
  rw[b0] at h;simp only[AB] at h;cases b25:(k==2||k==5) with
  | true=>
   rw[b25] at h;simp only[AE,AY] at h;subst h;rw[Bj.1 hc]
   have b6:(k==6)=false:=by
    cases b6:(k==6) with
    | false=>rfl
    | true=>have:k=6:=by simpa using b6
            subst this; simp at b25
   have Lx:(k==3||k==4)=false:=by
    cases Lx:(k==3||k==4) with
    | false=>rfl
    | true=>have:k=3\/k=4:=by simpa using Lx
            rcases this with rfl|rfl <;> simp at b25
   rw[b6,Lx];simp only[AB,MV,Ei,AZ,BV,AL,true_and];rw[Ap];cases b5:(k==5) with
   | true=>simp
   | false=>
    have b3:(k==3)=false:=by
     simp only[FM] at Lx;exact Lx.1
    simp[b3]
  | false=>
   rw[b25] at h;simp only[AB] at h
   by_cases k3:k=3
   ·subst k3
    simp only[BH,AE] at h;cases hs:Hw (ts.map (Gi Ai f)) with
    | none=>rw[hs] at h; cases h
    | some ls=>
     rw[hs] at h;simp only at h;have ha:=MW hs;cases he:ls.any List.isEmpty with
     | true=>rw[he] at h; cases h; cases hc
     | false=>
      rw[he] at h;have q1:CY (fun l w=>∀ c∈l,c.bounds.length<=w) ls (ts.map bw):=ha.MX fun t l _ hg c hc=>(Ej f t l hg c hc).1
      have q2:CY (fun l w=>∀ c∈l,(Ap c.body).length<=w) ls (ts.map cv):=ha.MX fun t l _ hg c hc=>(Ej f t l hg c hc).2
      have:=Vf (N:=0) (M:=0) q1 q2 (fun b hb=>by
       rw[Bj.1 hb];exact⟨by simp,by simp[Ap,CQ],_,rfl⟩) h c hc
      rw[<-Hy,<-QC] at this;simpa using this
   have b3:(k==3)=false:=by simpa using k3
   rw[b3] at h;simp only[AB] at h
   by_cases k4:k=4
   ·subst k4
    simp only[BH,AE] at h;cases hs:Hw (ts.map (Gi Ai f)) with
    | none=>rw[hs] at h; cases h
    | some ls=>
     rw[hs] at h;simp only at h;have ha:=MW hs;cases hb:Ai ls.flatten.length with
     | true=>rw[hb] at h; cases h
     | false=>
      rw[hb] at h;simp only[AB,AY] at h;subst h;obtain⟨l',h1,h2⟩:=XD.1 hc;obtain⟨t,h3,h4⟩:=ha.QD l' h1;have:=Ej f t l' h4 c h2;have s1:bw t<=(cu ts).sum:=by rw[Hy]; exact FX (Ed h3)
      have s2:cv t<=(Lt ts).sum:=by rw[QC]; exact FX (Ed h3)
      simp only[show((4:Int)==6)=false from rfl,AB,BH,EN,AE];omega
   have b4:(k==4)=false:=by simpa using k4
   rw[b4] at h;simp only[AB] at h
   by_cases k6:k=6
   ·subst k6
    simp only[BH,AE] at h ⊢;rcases ts with _|⟨b,_|⟨body,_|⟨z,r⟩⟩⟩
    ·cases h; cases hc
    ·cases h; cases hc
    ·simp only[Zn] at h
     cases hb:Gi Ai f body with
     | none=>rw[hb] at h; cases h
     | some l0=>
      rw[hb] at h;simp only at h;simp only[Lt,cu,ex6,ym];rcases MU h c hc with h' | ⟨a,h1,s,h2,h3⟩
      ·cases h'
      ·have i0:=Ej f body l0 hb a h1
       have i1:=Zv (fun l hl c hc=>Ej f b l hl c hc) h2 c h3;have m1:(Ap a.body).length*bw b<=cv body*bw b:=CB _ i0.2;have m2:(Ap a.body).length*(cv b+1)<=cv body*(cv b+1):=CB _ i0.2;have m3:(cv body+1)*bw b=cv body*bw b+bw b:=by rw[CH,Mn]
       omega
    ·cases h; cases hc
   ·have b6:(k==6)=false:=by simpa using k6
    rw[b6] at h;cases h;cases hc
end
section
variable {Ai:Nat->Bool}
theorem JG {φ σ:List Nat} {v:Nat} {i:Int} (h0:0<=i) (h1:i<φ.length) (hs:φ.length<=hole):∃ x,φ[i.toNat]?=some x/\x∈φ/\Nd φ σ v i=x:=by
 obtain⟨x,hx,hm⟩:=X3 h0 h1;refine⟨x,hx,hm,?_⟩
 have hne:(i==hole)=false:=by
  simp only[D1,ne_eq];omega
 unfold Nd;rw[hne,Au h0];simp[List.getD,hx]
theorem yp {cr:Option (List Br)} {ex:List Ty->GF} {HF:Ty} {v:Nat} {σ:List Nat} {w:Nat} (hσ:v∉σ)
  (hex:∀ B,Ls (fun B' c q=>∃ ψ,Rl false 0 B' B.length B'.length [] c q ψ) B cr (ex B)) (hw:∀ r,cr=some r->∀ c∈r,c.bounds.length<=w)
  {b:Br} {p:Ty} {B:List Ty} {φ:List Nat} (H:Rl false 0 B (v+1) B.length (v::σ) b p φ) (hv:B[v]?=some HF) (hs:φ.length+1+(Ap b.body).length*w<hole) :
  Ls (fun B' b p=>∃ φ,Rl false 0 B' v B'.length σ b p φ) B (LY Ai cr HF b) (BX Ai ex v p B):=by
 have hvl:=(Ae.1 hv).1
 have hφ:(φ.length:Int)+1<hole:=by
  have:(0:Int)<=((Ap b.body).length:Int)*w:=by
   have:=Int.natCast_nonneg ((Ap b.body).length*w);simpa using this
  omega
 obtain⟨g1,hg1⟩:∃ g1:Int->Int,g1=fun i=>bif i==-1 then(φ.length:Int) else bif decide (i<0) then i+1 else i:=⟨_,rfl⟩
 obtain⟨b1,NF⟩:∃ b1,b1=Rv b.bounds.length b.body:=⟨_,rfl⟩;have hbi:b1=CD (fun i=>var (g1 i)) b.body:=by rw[NF,X4,H.len,hg1]
 have yq:bd b1=true:=by rw[hbi]; exact P9 _ _ H.bd
 have AOS:(Ap b1).length=(Ap b.body).length:=by rw[hbi,Ei,AZ]
 have hv1:∀ i∈vis b1,(0<=i/\i<φ.length+1)\/(i<0/\-i<=σ.length):=by
  rw[hbi,M0];intro j hj;obtain⟨i,hi,rfl⟩:=Bb.1 hj;rw[hg1];rcases H.vis i hi with h|h|h
  ·have e1:(i==-1)=false:=by simp only[D1,ne_eq]; omega
   have e2:¬ i<0:=by omega
   simp only[e1,A9 e2,AB];omega
  ·by_cases e:i=-1
   ·subst e
    simp;omega
   ·have e1:(i==-1)=false:=by simpa using e
    simp only[e1,Au h.1,AB,AE];simp only[A3] at h;omega
  ·cases h.1
 have hnv:v∉φ:=fun hm=>by have:=(H.O6 v hm).1; omega
 have hφ':((φ++[v]).length:Int)<=hole:=by simp only[Ab,A3,BV]; omega
 have e1:p=tr (Nd (φ++[v]) σ 0) b1:=by
  rw[H.eq,hbi,tr,tr,Hx];refine Eu _ fun i hi=>?_
  rcases H.vis i hi with h|h|h
  ·have e1:g1 i=i:=by
    rw[hg1];have e1:(i==-1)=false:=by simp only[D1,ne_eq]; omega
    have e2:¬ i<0:=by omega
    simp only[e1,A9 e2,AB]
   rw[e1,O7 (.inl h) H.small];obtain⟨x,hx,_,e3⟩:=JG (σ:=v::σ) (v:=0) h.1 h.2 (by omega);obtain⟨y,hy,_,e4⟩:=JG (σ:=σ) (v:=0) h.1 h.2 (by omega);rw[e3,e4];rw[hx] at hy;cases hy;rfl
  ·by_cases e:i=-1
   ·subst e
    have e1:g1 (-1)=(φ.length:Int):=by rw[hg1]; rfl
    obtain⟨y,hy,_,e4⟩:=JG (φ:=φ++[v]) (σ:=σ) (v:=0) (i:=(φ.length:Int)) (by omega) (by simp only[Ab,A3,BV]; omega) hφ';rw[e1,e4,Ge (by omega)];simp at hy;subst hy;simp
   ·have e1:g1 i=i+1:=by
     rw[hg1];have e1:(i==-1)=false:=by simpa using e
     simp only[e1,Au h.1,AB,AE]
    rw[e1,Ge h.1,Ge (by omega)];have e5:(-1-i).toNat=(-1-(i+1)).toNat+1:=by omega
    rw[e5];rfl
  ·cases h.1
 have key:∀ i∈vis b1,(Nd (φ++[v]) σ 0 i==v)=(i==(φ.length:Int)):=by
  intro i hi;rw[C0,Dv,Dv];rcases hv1 i hi with h|h
  ·obtain⟨y,hy,_,e4⟩:=JG (φ:=φ++[v]) (σ:=σ) (v:=0) h.1 (by simp only[Ab,A3,BV]; omega) hφ'
   rw[e4]
   by_cases e:i=φ.length
   ·subst e
    simp at hy;exact⟨fun _=>rfl,fun _=>hy.symm⟩
   ·rw[BA (by omega)] at hy
    constructor
    ·rintro rfl
     exact absurd (BK hy) hnv
    ·intro h'
     exact absurd h' e
  ·rw[Ge h.1]
   obtain⟨x,hx⟩:∃ x,σ[(-1-i).toNat]?=some x:=⟨_,Ak (by omega)⟩;simp only[List.getD,hx,I2];constructor
   ·rintro rfl
    exact absurd (BK hx) hσ
   ·intro h'; omega
 have qT:C6 v true p=oI (·==(b.bounds.length:Int)) b1:=by
  rw[e1,iu _ _ _ yq,H.len];exact S4 _ key
 unfold LY BX;rw[qT,<-NF];cases hI:oI (·==(b.bounds.length:Int)) b1 with
 | true=>
  refine And.intro (CW _) (And.intro ?_ Al);refine⟨φ++[v],?_⟩;refine { nd:=?_,O6:=?_,len:=?_,Ks:=?_,small:=?_,bd:=yq,vis:=?_,eq:=e1 }
  ·rw[OQ]
   refine⟨H.nd,by simp,fun x hx y hy=>?_⟩;rw[Bj.1 hy];rintro rfl;exact hnv hx
  ·intro x hx
   rcases BL.1 hx with hx|hx
   ·have:=H.O6 x hx
    omega
   ·rw[Bj.1 hx]
    omega
  ·simp[H.len]
  ·intro i x hx
   by_cases hi:i<φ.length
   ·rw[BA hi] at hx
    rw[BA (by rw[H.len]; exact hi)];exact H.Ks i x hx
   ·rw[CV (by omega)] at hx
    rw[CV (by rw[H.len]; omega),H.len]
    have hi0:i-φ.length=0:=by
     have:=(Ae.1 hx).1;simp at this;omega
    rw[hi0] at hx ⊢;simp at hx;subst hx;simpa using hv
  ·simp only[Ab,A3,BV]; omega
  ·intro i hi
   simp only[Ab,A3,BV];rcases hv1 i hi with h|h
   ·exact .inl ⟨h.1,by omega⟩
   ·exact .inr (.inl h)
 | false=>
  obtain⟨g2,hg2⟩:∃ g2:Int->Int,g2=fun i=>bif i==(φ.length:Int) then hole else i:=⟨_,rfl⟩
  have g2t:g2 (φ.length:Int)=hole:=by rw[hg2]; simp
  have g2f:∀ i,i≠(φ.length:Int)->g2 i=i:=by
   intro i hi;rw[hg2];have:(i==(φ.length:Int))=false:=by simpa using hi
   simp only[this,AB]
  obtain⟨b2,MA⟩:∃ b2,b2=UU b.bounds.length hole b1:=⟨_,rfl⟩;have hre:b2=CD (fun i=>var (g2 i)) b1:=by rw[MA,QB,H.len,hg2]
  have AIP:bd b2=true:=by rw[hre]; exact P9 _ _ yq
  have hne:∀ i∈vis b1,i≠hole:=by
   rintro i hi rfl;rcases hv1 _ hi with h|h
   ·omega
   ·unfold hole at h
    omega
  have AOW:∀ i∈vis b1,(g2 i==hole)=(i==(φ.length:Int)):=by
   intro i hi
   by_cases hb:i=(φ.length:Int)
   ·subst hb
    rw[g2t];simp
   ·rw[g2f i hb]
    have h1:(i==hole)=false:=by simpa using hne i hi
    have h2:(i==(φ.length:Int))=false:=by simpa using hb
    rw[h1,h2]
  have hv2:∀ i∈vis b2,(0<=i/\i<φ.length)\/(i<0/\-i<=σ.length)\/(true=true/\i=hole):=by
   rw[hre,M0];intro j hj;obtain⟨i,hi,rfl⟩:=Bb.1 hj
   by_cases hb:i=(φ.length:Int)
   ·subst hb
    exact .inr (.inr ⟨rfl,g2t⟩)
   ·rw[g2f i hb]
    rcases hv1 i hi with h|h
    ·exact .inl ⟨h.1,by omega⟩
    ·exact .inr (.inl h)
  have e2:p=tr (Nd φ σ v) b2:=by
   rw[e1,hre,tr,tr,Hx];refine Eu _ fun i hi=>?_
   by_cases hb:i=(φ.length:Int)
   ·have h:=key i hi
    have:Nd (φ++[v]) σ 0 i=v:=by simpa[hb] using h
    rw[this];subst hb;rw[g2t,Kr]
   ·rw[g2f i hb]
    rcases hv1 i hi with h|h
    ·rw[O7 (.inl ⟨h.1,by omega⟩) H.small]
     obtain⟨x,hx,_,e3⟩:=JG (φ:=φ) (σ:=σ) (v:=0) (i:=i) h.1 (by omega) (by omega);obtain⟨y,hy,_,e4⟩:=JG (φ:=φ) (σ:=σ) (v:=v) (i:=i) h.1 (by omega) (by omega);rw[e3,e4];rw[hx] at hy;cases hy;rfl
    ·rw[Ge h.1,Ge h.1]
  have hH2:Rl true v B (v+1) B.length σ ⟨b.bounds,b2⟩ p φ:=
   {nd:=H.nd,O6:=H.O6,len:=H.len,Ks:=H.Ks,small:=H.small,bd:=AIP,vis:=hv2,eq:=e2 }
  have hI2:oI (·==hole) b2=false:=by
   rw[hre,qG _ _ _ yq,<-hI,H.len];exact S4 _ AOW
  have AOX:(Ap b2).length=(Ap b.body).length:=by rw[hre,Ei,AZ,AOS]
  have X5:BF (·==(v:Int)) p=(Ap b2).count hole:=by
   rw[e2,eY _ _ _ AIP,List.count];refine List.countP_congr fun i hi=>?_
   have hvi:=O3 _ i hi
   have:(Nd φ σ v i=v)<->i=hole:=by
    constructor
    ·intro h
     by_cases hh:i=hole
     ·exact hh
     ·exact absurd h (hH2.qQ (.inl (XC v)) hσ hvi hh)
    ·rintro rfl
     exact Kr
   simp only[Dv];constructor
   ·intro h
    exact this.1 (by omega)
   ·intro h
    rw[this.2 h]
  have hle:(Ap b2).count hole<=(Ap b.body).length:=by rw[<-AOX]; exact List.count_le_length
  have hmul:(((Ap b2).count hole:Nat):Int)*w<=((Ap b.body).length:Int)*w:=by
   have:=CB w hle
   exact_mod_cast this
  have step:=fill_eq (Ai:=Ai) (l:=cr) (ex:=ex) (lo:=v) (AL v) hσ hex hw ((Ap b2).count hole) (Ap b.body).length ⟨b.bounds,b2⟩ p B φ hH2 hvl hI2 rfl hle (by omega);simp only[AB];rw[<-MA,X5];cases hh:KG b2 with
  | none=>
   have hz:(Ap b2).count hole=0:=by
    rw[J1];intro hm;unfold KG at hh;rw[LA] at hh;have:=hh hole hm;simp at this
   rw[hz] at step ⊢;exact step
  | some k=>
   have hz:(Ap b2).count hole≠0:=by
    rw[ne_eq,J1];intro hm;exact hm (BK (HP hh).1)
   obtain⟨c,hc⟩:∃ c,(Ap b2).count hole=c+1:=⟨(Ap b2).count hole-1,by omega⟩;rw[hc] at step ⊢;cases cr with
   | none=>exact step
   | some l=>exact step
end
theorem O8 {k i:Int} {n:List UInt8} {ts:List Ty} (h:root k n i ts=true) :
  (k=0/\n=[]/\i=0/\ts=[])\/(k=1/\n=[]/\i=0/\ts=[])\/k=2\/(k=3/\n=[]/\i=0)\/(k=4/\n=[]/\i=0/\ts≠[])\/(k=5/\n=[]/\ts=[]/\0<=i)\/(k=6/\n=[]/\i=0/\∃ b body,ts=[b,body]/\Dg 0 b=true):=by
 unfold root at h;simp only[AG,DJ,Dv] at h;obtain⟨⟨h1,h2⟩,h3⟩:=h;unfold shape at h3
 by_cases k0:k=0
 ·subst k0
  simp at h1 h2 h3;exact .inl ⟨rfl,h1,h2,h3⟩
 by_cases k1:k=1
 ·subst k1
  simp at h1 h2 h3;exact .inr (.inl ⟨rfl,h1,h2,h3⟩)
 by_cases k2:k=2
 ·exact .inr (.inr (.inl k2))
 by_cases k3:k=3
 ·subst k3
  simp at h1 h2 h3;exact .inr (.inr (.inr (.inl ⟨rfl,h1,h2⟩)))
 by_cases k4:k=4
 ·subst k4
  simp at h1 h2 h3;refine .inr (.inr (.inr (.inr (.inl ⟨rfl,h1,h2,?_⟩))));rintro rfl;simp at h3
 by_cases k5:k=5
 ·subst k5
  simp at h1 h2 h3;exact .inr (.inr (.inr (.inr (.inr (.inl ⟨rfl,h1,h3.1.1,h3.1.2⟩)))))
 by_cases k6:k=6
 ·subst k6
  simp at h1 h2 h3;refine .inr (.inr (.inr (.inr (.inr (.inr ⟨rfl,h1,h2,?_⟩)))));rcases ts with _|⟨b,_|⟨c,_|⟨d,l⟩⟩⟩ <;> simp at h3
  exact⟨_,_,rfl,h3⟩
 ·simp[k0,k1,k2,k3,k4,k5,k6] at h3
theorem CY.of_map {α β γ:Type} {R:α->γ->Prop} {g:β->γ}:∀ {l:List α} {m:List β},CY (fun a b=>R a (g b)) l m->CY R l (m.map g)
 | [],[],_=>trivial
 | _::_,_::_,⟨h1,h2⟩=>⟨h1,h2.of_map⟩
 | [],_::_,h=>h.elim
 | _::_,[],h=>h.elim
section
variable {Ai:Nat->Bool}
def C7 (n:Nat):Prop:=(n:Int)<hole
def qU (Ai:Nat->Bool) (f:Nat) (σ:List Nat) (t:Ty):Prop:=∀ B,(∀ x∈σ,x<B.length)->Ls (fun B' b p=>∃ φ,Rl false 0 B' B.length B'.length σ b p φ) B (Gi Ai f t) (Aj Ai f (inst σ 0 t) B)
def Ch (B':List Ty) (σ:List Nat):Nat->List Nat->List (List Br)->List (List Ty)->Prop
 | lo,[],[],[]=>lo<=B'.length
 | lo,w::ws,l::ls,ps::rs=>(∀ b∈l,b.bounds.length<=w)/\∃ mid,lo<=mid/\mid<=B'.length/\CY (fun b p=>∃ φ,Rl false 0 B' lo mid σ b p φ) l ps/\Ch B' σ mid ws ls rs
 | _,_,_,_=>False
theorem FB {k:Int} (h6:k≠6) (σ:List Nat):∀ (l:List Ty) (j:Nat),C5 σ 0 k j l=l.map (inst σ 0)
 | [],_=>rfl
 | t::l,j=>by
  have b6:(k==6)=false:=by simpa using h6
  have hb:HF k j=0:=by simp[HF,b6]
  rw[C5,hb,Dq,FB h6 σ l (j+1)];rfl
theorem jE {f:Nat} {σ:List Nat}:∀ (ts:List Ty) (out:List (List Ty)) (B:List Ty),(∀ x∈σ,x<B.length)->(∀ t∈ts,qU Ai f σ t) ->
  match Hw (ts.map (Gi Ai f)),Er (Aj Ai f) (ts.map (inst σ 0)) out B with
  | none,(none,B')=>B<+:B'
  | some ls,(some lps,B')=>∃ rs,lps=out++rs/\B<+:B'/\Ch B' σ B.length (ts.map bw) ls rs
  | _,_=>False
 | [],out,B,_,_=>by
  simp only[EM,Hw,Er];exact⟨[],by simp,CW _,AL _⟩
 | t::ts,out,B,hσ,h=>by
  have h0:=h t (by simp) B hσ;simp only[CI];rw[Er];cases hr:Gi Ai f t with
  | none=>
   rw[hr] at h0;rcases he:Aj Ai f (inst σ 0 t) B with ⟨r',B'⟩
   rw[he] at h0;cases r' with
   | some _=>exact h0.elim
   | none=>exact h0
  | some l=>
   rw[hr] at h0;rcases he:Aj Ai f (inst σ 0 t) B with ⟨r',B'⟩
   rw[he] at h0;cases r' with
   | none=>exact h0.elim
   | some ps=>
    obtain⟨hp,hall⟩:=h0;have ih:=jE ts (out++[ps]) B' (fun x hx=>GN (hσ x hx) (Gd hp)) (fun t ht=>h t (Du _ ht));rw[Hw];simp only;revert ih;cases Hw (ts.map (Gi Ai f)) <;> rcases Er (Aj Ai f) (ts.map (inst σ 0)) (out++[ps]) B' with ⟨r2,B2⟩ <;> cases r2 <;> intro ih
    ·exact Db hp ih
    ·exact ih
    ·exact ih
    ·obtain⟨rs,h1,h2,h3⟩:=ih
     refine⟨ps::rs,by simp[h1],Db hp h2,?_⟩;refine⟨fun b hb=>(Ej f t l hr b hb).1,B'.length,Gd hp,Gd h2,?_,h3⟩;exact hall.mono fun a b ⟨φ,hφ⟩=>⟨φ,hφ.mono h2 (AL _) (AL _) (AL _)⟩
theorem Vg:∀ (l:List Ty) (t:Ty),CQ (l++[t])=CQ l++Ap t
 | [],t=>by simp[CQ]
 | a::l,t=>by simp[CQ,Vg l t]
theorem Zw:∀ (l:List Ty) (t:Ty),Et (l++[t])=Et l++vis t
 | [],t=>by simp[Et]
 | a::l,t=>by simp[Et,Zw l t]
theorem jF:∀ (l:List Ty) (t:Ty),Mz (l++[t])=(Mz l&&bd t)
 | [],t=>by simp[Mz]
 | a::l,t=>by simp[Mz,jF l t,OU]
theorem Vh (f:Int->Ty):∀ (l:List Ty) (t:Ty),Cl f (l++[t])=Cl f l++[CD f t]
 | [],t=>by simp[Cl]
 | a::l,t=>by simp[Cl,Vh f l t]
theorem yu (φ:Int->Nat) (l:List Ty) (t:Ty):Rw φ (l++[t])=Rw φ l++[tr φ t]:=Vh _ l t
theorem tr3 (φ:Int->Nat) (n:List UInt8) (i:Int) (l:List Ty):tr φ (.mk 3 n i l)=.mk 3 n i (Rw φ l):=by
 rw[tr,CD];rfl
theorem AIR (n:List UInt8) (i:Int) (l:List Ty):vis (.mk 3 n i l)=Et l:=by
 rw[vis];rfl
theorem bd3 (n:List UInt8) (i:Int) (l:List Ty):bd (.mk 3 n i l)=Mz l:=by
 rw[bd];rfl
def TRl (B':List Ty) (σ:List Nat) (qV mid N:Nat) (b:Br) (args:List Ty):Prop:=∃ φ bs,Rl false 0 B' qV mid σ b (.mk 3 [] 0 args) φ/\b.body=.mk 3 [] 0 bs/\φ.length<=N
theorem jG {B':List Ty} {σ:List Nat} {qV lo mid N w:Nat} (hlo:qV<=lo) (hmid:lo<=mid) (hm:mid<=B'.length) (hs:((N+w:Nat):Int)<hole):∀ {out:List Br} {X6:List (List Ty)} {l:List Br} {ps:List Ty},CY (TRl B' σ qV lo N) out X6 ->
  (∀ b∈l,b.bounds.length<=w)->CY (fun b p=>∃ φ,Rl false 0 B' lo mid σ b p φ) l ps->CY (TRl B' σ qV mid (N+w)) (Ja out l) (X6.flatMap fun p=>ps.map fun x=>p++[x])
 | [],[],_,_,_,_,_=>trivial
 | [],_::_,_,_,h,_,_=>h.elim
 | _::_,[],_,_,h,_,_=>h.elim
 | b::out,args::X6,l,ps,⟨h1,h2⟩,hw,h=>by
  have ih:=jG hlo hmid hm hs h2 hw h
  have one:CY (TRl B' σ qV mid (N+w)) (l.map fun c=>(⟨b.bounds++c.bounds,match b.body with
    | .mk _ _ _ args=>.mk 3 [] 0 (args++[Jt b.bounds.length c.body])⟩:Br)) (ps.map fun x=>args++[x]):=by
   obtain⟨φ,bs,H,hb,hN⟩:=h1;clear ih;revert h hw;revert ps
   induction l with
   | nil=>intro ps _ h; cases ps with
    | nil=>trivial
    | cons _ _=>exact h.elim
   | cons c l ihl=>
    intro ps hw h;cases ps with
    | nil=>exact h.elim
    | cons q ps=>
     refine And.intro ?_ (ihl ps (fun b hb=>hw b (Du _ hb)) h.2);obtain⟨ψ,Hc⟩:=h.1
     have hψ:ψ.length<=w:=by
      have:=hw c (by simp);rw[Hc.len] at this;exact this
     have nV:φ.length+ψ.length<hole:=by omega
     obtain⟨gs,hgs⟩:∃ gs:Int->Int,gs=fun i=>bif decide (0<=i)&&!(i==hole) then i+φ.length else i:=⟨_,rfl⟩
     have eg:Jt φ.length=CD fun i=>var (gs i):=by
      unfold Jt;congr 1
      funext i
      have e:gs i=bif decide (0<=i)&&!(i==hole) then i+φ.length else i:=by rw[hgs]
      rw[e];cases (decide (0<=i)&&!(i==hole)) <;> rfl
     have gn:∀ i:Int,0<=i->i<ψ.length->gs i=i+φ.length:=by
      intro i h0 h1;rw[hgs]
      have hne:(i==hole)=false:=by
       simp only[D1,ne_eq];omega
      simp only[hne,Au h0,Rh,GR,AE]
     have gm:∀ i:Int,i<0->gs i=i:=by
      intro i h0;rw[hgs];have h1:¬ 0<=i:=by omega
      simp only[A9 h1,E2,AB]
     have e1:q=tr (Nd (φ++ψ) σ 0) (Jt φ.length c.body):=by
      rw[Hc.eq,eg,tr,tr,Hx];refine Eu _ fun i hi=>?_
      rcases Hc.vis i hi with h|h|h
      ·rw[gn i h.1 h.2]
       obtain⟨x,hx,_⟩:=X3 h.1 h.2;obtain⟨y,hy,_,e4⟩:=JG (φ:=ψ) (σ:=σ) (v:=0) h.1 h.2 (by have:=Hc.small; omega);obtain⟨z,hz,_,e5⟩:=JG (φ:=φ++ψ) (σ:=σ) (v:=0) (i:=i+φ.length) (by omega) (by simp only[Ab]; omega) (by simp only[Ab]; omega);rw[e4,e5];have e6:(i+(φ.length:Int)).toNat=φ.length+i.toNat:=by omega
       rw[e6,CV (by omega),XE,hy] at hz;cases hz;rfl
      ·rw[gm i h.1,Ge h.1,Ge h.1]
      ·cases h.1
     have e2:(.mk 3 [] 0 args:Ty)=tr (Nd (φ++ψ) σ 0) b.body:=by
      rw[H.eq];refine Eu _ fun i hi=>?_
      rw[O7 _ H.small];rcases H.vis i hi with h' | h' | h'
      ·exact .inl h'
      ·exact .inr (.inl h'.1)
      ·exact .inr (.inr h'.2)
     have AOZ:Mz bs=true:=by rw[<-bd3 [] 0 bs,<-hb]; exact H.bd
     have e3:args=Rw (Nd (φ++ψ) σ 0) bs:=by
      rw[hb,tr3] at e2;simpa using e2
     refine⟨φ++ψ,bs++[Jt φ.length c.body],?_,?_,by simp only[Ab]; omega⟩
     ·have eb:(match b.body with|.mk _ _ _ args=>.mk 3 [] 0 (args++[Jt b.bounds.length c.body]):Ty)=.mk 3 [] 0 (bs++[Jt φ.length c.body]):=by rw[hb,H.len]
      refine { nd:=?_,O6:=?_,len:=?_,Ks:=?_,small:=?_,bd:=?_,vis:=?_,eq:=?_ }
      ·rw[OQ]
       refine⟨H.nd,Hc.nd,fun x hx y hy=>?_⟩;have:=(H.O6 x hx).2;have:=(Hc.O6 y hy).1;omega
      ·intro x hx
       rcases BL.1 hx with hx|hx
       ·have:=H.O6 x hx
        omega
       ·have:=Hc.O6 x hx
        omega
      ·simp only[Ab,H.len,Hc.len]
      ·intro i x hx
       show B'[x]?=(b.bounds++c.bounds)[i]?
       by_cases hi:i<φ.length
       ·rw[BA hi] at hx
        rw[BA (by rw[H.len]; exact hi)];exact H.Ks i x hx
       ·rw[CV (by omega)] at hx
        rw[CV (by rw[H.len]; omega),H.len];exact Hc.Ks _ x hx
      ·simp only[Ab]; omega
      ·show bd (match b.body with|.mk _ _ _ args=>.mk 3 [] 0 (args++[Jt b.bounds.length c.body]):Ty)=true
       rw[eb,bd3,jF,AOZ,eg,P9 _ _ Hc.bd];rfl
      ·intro i hi
       have hi':i∈vis (match b.body with|.mk _ _ _ args=>.mk 3 [] 0 (args++[Jt b.bounds.length c.body]):Ty):=hi;rw[eb,AIR,Zw,BL] at hi';simp only[Ab];rcases hi' with hi' | hi'
       ·have hv:i∈vis b.body:=by rw[hb,AIR]; exact hi'
        rcases H.vis i hv with h' | h' | h'
        ·exact .inl ⟨h'.1,by omega⟩
        ·exact .inr (.inl h')
        ·cases h'.1
       ·rw[eg,M0] at hi'
        obtain⟨j,hj,rfl⟩:=Bb.1 hi';rcases Hc.vis j hj with h' | h' | h'
        ·rw[gn j h'.1 h'.2]
         exact .inl ⟨by omega,by omega⟩
        ·rw[gm j h'.1]
         exact .inr (.inl h')
        ·cases h'.1
      ·show(.mk 3 [] 0 (args++[q]):Ty)=tr _ (match b.body with|.mk _ _ _ args=>.mk 3 [] 0 (args++[Jt b.bounds.length c.body]):Ty)
       rw[eb,tr3,yu,<-e3,<-e1]
     ·show(match b.body with|.mk _ _ _ args=>.mk 3 [] 0 (args++[Jt b.bounds.length c.body]):Ty)=_
      rw[hb,H.len]
  unfold Ja at ih ⊢;rw[OV,OV];exact one.append ih
theorem yw {B':List Ty} {σ:List Nat} {qV:Nat} (ls:List (List Br)):∀ {ws:List Nat} {rs:List (List Ty)} {lo N:Nat} {out:List Br} {X6:List (List Ty)},qV<=lo->Ch B' σ lo ws ls rs->C7 (N+ws.sum)->CY (TRl B' σ qV lo N) out X6 ->
  match NI Ai ls out,DG Ai rs X6 with
  | none,none=>True
  | some r,some all=>CY (fun b args=>∃ φ,Rl false 0 B' qV B'.length σ b (.mk 3 [] 0 args) φ) r all
  | _,_=>False:=by
 induction ls with
 | nil=>
  intro ws rs lo N out X6 hlo hc hs h;rcases ws with _|⟨w,ws⟩
  ·rcases rs with _|⟨ps,rs⟩
   ·rw[NI,DG]
    exact h.mono fun a b ⟨φ,bs,H,_,_⟩=>⟨φ,H.mono (CW _) hc (AL _) hc⟩
   ·exact hc.elim
  ·exact hc.elim
 | cons l ls ih=>
  intro ws rs lo N out X6 hlo hc hs h;rcases ws with _|⟨w,ws⟩
  ·exact hc.elim
  rcases rs with _|⟨ps,rs⟩
  ·exact hc.elim
  obtain⟨hw,mid,h1,h2,h3,h4⟩:=hc;unfold C7 at hs;rw[Gq] at hs;have hp:=jG hlo h1 h2 (by omega) h hw h3;rw[NI,DG,<-hp.length];cases Ai (Ja out l).length with
  | true=>trivial
  | false=>exact ih (Bh hlo h1) h4 (by unfold C7; omega) hp
theorem Zx {B':List Ty} {σ:List Nat}:∀ {ws:List Nat} {ls:List (List Br)} {rs:List (List Ty)} {lo:Nat},Ch B' σ lo ws ls rs->ls.any List.isEmpty=rs.any List.isEmpty
 | [],[],[],_,_=>rfl
 | w::ws,l::ls,ps::rs,lo,⟨_,mid,_,_,h3,h4⟩=>by
  have hl:=h3.length;rw[J0,J0,Zx h4];cases l <;> cases ps <;> simp at hl ⊢
 | [],_::_,_,_,h=>h.elim
 | [],[],_::_,_,h=>h.elim
 | _::_,[],_,_,h=>h.elim
 | _::_,_::_,[],_,h=>h.elim
theorem X7 {f:Nat} {σ:List Nat}:∀ (ts:List Ty) (out:List Ty) (ok:Bool) (B:List Ty),(∀ x∈σ,x<B.length)->(∀ t∈ts,qU Ai f σ t) ->
  match Hw (ts.map (Gi Ai f)),FH (Aj Ai f) (ts.map (inst σ 0)) out ok B with
  | none,((_,ok'),B')=>B<+:B'/\ok'=false
  | some ls,((o,ok'),B')=>B<+:B'/\ok'=ok/\∃ ps,o=out++ps/\CY (fun b p=>∃ φ,Rl false 0 B' B.length B'.length σ b p φ) ls.flatten ps
 | [],out,ok,B,_,_=>by
  rw[EM,EM,Hw,FH];exact⟨CW _,rfl,[],by simp,Al⟩
 | t::ts,out,ok,B,hσ,h=>by
  have h0:=h t (by simp) B hσ;simp only[CI];rw[FH];cases hr:Gi Ai f t with
  | none=>
   rw[hr] at h0;rcases he:Aj Ai f (inst σ 0 t) B with ⟨r',B'⟩
   rw[he] at h0;cases r' with
   | some _=>exact h0.elim
   | none=>
    have hp:B<+:B':=h0;have ih:=X7 ts out false B' (fun x hx=>GN (hσ x hx) (Gd hp)) (fun t ht=>h t (Du _ ht));rw[Hw];simp only;revert ih;cases Hw (ts.map (Gi Ai f)) <;> rcases FH (Aj Ai f) (ts.map (inst σ 0)) out false B' with ⟨⟨o2,ok2⟩,B2⟩ <;> intro ih
    ·exact⟨Db hp ih.1,ih.2⟩
    ·exact⟨Db hp ih.1,ih.2.1⟩
  | some l=>
   rw[hr] at h0;rcases he:Aj Ai f (inst σ 0 t) B with ⟨r',B'⟩
   rw[he] at h0;cases r' with
   | none=>exact h0.elim
   | some ps=>
    obtain⟨hp,hall⟩:=h0;have ih:=X7 ts (out++ps) ok B' (fun x hx=>GN (hσ x hx) (Gd hp)) (fun t ht=>h t (Du _ ht));rw[Hw];simp only;revert ih;cases Hw (ts.map (Gi Ai f)) <;> rcases FH (Aj Ai f) (ts.map (inst σ 0)) (out++ps) ok B' with ⟨⟨o2,ok2⟩,B2⟩ <;> intro ih
    ·exact⟨Db hp ih.1,ih.2⟩
    ·obtain⟨h1,h2,qs,h3,h4⟩:=ih
     refine⟨Db hp h1,h2,ps++qs,by simp[h3],?_⟩;rw[GO];refine CY.append ?_ ?_
     ·exact hall.mono fun a b ⟨φ,hφ⟩=>⟨φ,hφ.mono h1 (AL _) (AL _) (Gd h1)⟩
     ·exact h4.mono fun a b ⟨φ,hφ⟩=>⟨φ,hφ.mono (CW _) (AL _) (Gd hp) (AL _)⟩
theorem Hz {u:Nat} {k:Int} (h6:k≠6):∀ {l:List Ty} {j:Nat} {t:Ty},Eg u k j l=true->t∈l->Dg u t=true
 | a::l,j,t,h,ht=>by
  have b6:(k==6)=false:=by simpa using h6
  have hb:HF k j=0:=by simp[HF,b6]
  simp only[Eg,AG,hb,Dq] at h;rcases Av.1 ht with rfl|ht
  ·exact h.1
  ·exact Hz h6 h.2 ht
theorem Cv:∀ {l:List Ty} {a:Ty},Bw l=true->a∈l->valid a=true
 | b::l,a,h1,h=>by
  simp only[Bw,AG] at h1;rcases Av.1 h with rfl|h
  ·exact h1.1
  ·exact Cv h1.2 h
theorem ee (hb0:Ai 0=false) (NF:Ai 1=false):∀ (f:Nat) (t:Ty) (σ:List Nat),valid t=true->Dg σ.length t=true->σ.Nodup->C7 (bw t)->qU Ai f σ t:=by
 intro f
 induction f with
 | zero=>
  intro t σ _ _ _ _ B _;rw[Gi,Aj];exact CW _
 | succ f X8=>
  intro t σ hv hc hn hs B hB;obtain⟨k,n,i,ts⟩:=t;have P5:=hv;simp only[valid,AG] at hv;have leaf:∀ {p:Ty} {b:Br},Rl false 0 B B.length B.length σ b p []->Ls (fun B' b p=>∃ φ,Rl false 0 B' B.length B'.length σ b p φ) B (some [b]) (some [p],B):=fun H=>⟨CW _,⟨[],H⟩,Al⟩
  rcases O8 hv.1 with ⟨rfl,rfl,rfl,rfl⟩|⟨rfl,rfl,rfl,rfl⟩|rfl|⟨rfl,rfl,rfl⟩|⟨rfl,rfl,rfl,hne⟩|⟨rfl,rfl,rfl,h0⟩|⟨rfl,rfl,rfl,b,body,rfl,hcb⟩
  ·rw[Gi,inst,C5]
   simp only[show((0:Int)==5)=false from rfl,AB];rw[Aj];simp only[BH,D0,AE,NF,AB];refine leaf { nd:=HI,O6:=fun x hx=>(by cases hx),len:=rfl,Ks:=fun i x hx=>(by simp at hx),small:=(by simp[hole]),bd:=?_,vis:=fun i hi=>(by simp[vis] at hi),eq:=?_ }
   ·rw[bd]
    simp[Q0,P5,Dg,Eg]
   ·rw[tr,CD]
    rfl
  ·rw[Gi,inst,C5]
   simp only[show((1:Int)==5)=false from rfl,AB];rw[Aj];simp only[show((1:Int)==0)=false from rfl,show((1:Int)==2)=false from rfl,show((1:Int)==7)=false from rfl,show((1:Int)==3)=false from rfl,show((1:Int)==4)=false from rfl,show((1:Int)==5)=false from rfl,show((1:Int)==6)=false from rfl,Fu,AB,hb0];exact⟨CW _,Al⟩
  ·have hp:plain (.mk 2 n i ts)=true:=by
    rw[plain,Q3 P5];simp
   obtain⟨q1,q2⟩:=Ny σ _ P5 hp hc
   have e:Aj Ai (f+1) (inst σ 0 (.mk 2 n i ts)) B=(some [inst σ 0 (.mk 2 n i ts)],B):=by
    rw[inst];simp only[show((2:Int)==5)=false from rfl,AB];rw[Aj];simp[NF]
   rw[Gi,e];simp only[show((2:Int)==0)=false from rfl,BH,D0,AE,AB]
   have hb:bd (.mk 2 n i ts)=true:=by
    rw[bd];rw[pl] at q1;simpa using q1
   refine leaf { nd:=HI,O6:=fun x hx=>(by cases hx),len:=rfl,Ks:=fun i x hx=>(by simp at hx),small:=(by simp[hole]),bd:=?_,vis:=fun j hj=>?_,eq:=?_ }
   ·rw[MV]
    exact P9 _ _ hb
   ·rw[MV,M0] at hj
    obtain⟨j',hj',rfl⟩:=Bb.1 hj;have:=QA _ _ P5 hc j' hj';exact .inr (.inl (by omega))
   ·rw[q2,MV,tr,tr,Hx]
    refine Eu _ fun j hj=>?_
    have:=QA _ _ P5 hc j hj;rw[Ge (by omega)];congr 2;omega
  ·have Bu:=EK hc (by decide)
   have ih:∀ t∈ts,qU Ai f σ t:=fun t ht=>X8 t σ (Cv hv.2 ht) (Hz (by decide) Bu ht) hn (by
    have:bw t<=(cu ts).sum:=by rw[Hy]; exact FX (Ed ht)
    unfold C7 at hs ⊢;rw[bw] at hs;simp only[show((3:Int)==6)=false from rfl,AB,BH,D0,AE] at hs;omega)
   have hq:=jE (Ai:=Ai) ts [] B hB ih;rw[Gi,inst];simp only[show((3:Int)==5)=false from rfl,AB];rw[Aj,FB (by decide)];simp only[show((3:Int)==0)=false from rfl,show((3:Int)==2)=false from rfl,show((3:Int)==7)=false from rfl,show((3:Int)==4)=false from rfl,show((3:Int)==5)=false from rfl,Fu,AB,BH,AE];cases ha:Hw (ts.map (Gi Ai f)) with
   | none=>
    rw[ha] at hq;rcases he:Er (Aj Ai f) (ts.map (inst σ 0)) [] B with ⟨r',B'⟩
    rw[he] at hq;cases r' with
    | some _=>exact hq.elim
    | none=>exact hq
   | some ls=>
    rw[ha] at hq;rcases he:Er (Aj Ai f) (ts.map (inst σ 0)) [] B with ⟨r',B'⟩
    rw[he] at hq;cases r' with
    | none=>exact hq.elim
    | some lps=>
     obtain⟨rs,h1,h2,h3⟩:=hq;simp only[Di] at h1;subst h1;simp only;rw[<-Zx h3];cases hem:ls.any List.isEmpty with
     | true=>exact⟨h2,Al⟩
     | false=>
      simp only[AB]
      have hw:C7 (0+(ts.map bw).sum):=by
       unfold C7 at hs ⊢;rw[bw] at hs;simp only[show((3:Int)==6)=false from rfl,AB,BH,D0,AE,Hy] at hs;omega
      have hcb:=yw (Ai:=Ai) ls (qV:=B.length) (out:=[⟨[],.mk 3 [] 0 []⟩]) (X6:=[[]]) (AL _) h3 hw (by
       refine And.intro ?_ Al;refine⟨[],[],{ nd:=HI,O6:=fun x hx=>(by cases hx),len:=rfl,Ks:=fun i x hx=>(by simp at hx),small:=(by simp[hole]),bd:=?_,vis:=fun i hi=>(by simp[vis,Et] at hi),eq:=?_ },rfl,AL _⟩
       ·rw[bd]
        simp[Mz]
       ·rw[tr,CD]
        simp[Cl])
      cases ht:NI Ai ls [⟨[],.mk 3 [] 0 []⟩] with
      | none=>
       rw[ht] at hcb;cases Y2:DG Ai lps [[]] with
       | none=>exact h2
       | some _=>rw[Y2] at hcb; exact hcb.elim
      | some r=>
       rw[ht] at hcb;cases Y2:DG Ai lps [[]] with
       | none=>rw[Y2] at hcb; exact hcb.elim
       | some all=>
        rw[Y2] at hcb
        have N0:Ai all.length=false:=by
         have gen:∀ (rs:List (List Ty)) (out:List (List Ty)) (all:List (List Ty)),Ai out.length=false->DG Ai rs out=some all->Ai all.length=false:=by
          intro rs
          induction rs with
          | nil=>intro out all ho h; rw[DG] at h; cases h; exact ho
          | cons ps rs ih=>
           intro out all ho h;rw[DG] at h;cases hb:Ai (out.flatMap fun p=>ps.map fun x=>p++[x]).length with
           | true=>rw[hb] at h; cases h
           | false=>
            rw[hb] at h;exact ih _ _ hb h
         exact gen lps [[]] all NF Y2
        simp only[N0,AB];refine⟨h2,?_⟩;exact CY.of_map hcb
  ·have Bu:=EK hc (by decide)
   have ih:∀ t∈ts,qU Ai f σ t:=fun t ht=>X8 t σ (Cv hv.2 ht) (Hz (by decide) Bu ht) hn (by
    have:bw t<=(cu ts).sum:=by rw[Hy]; exact FX (Ed ht)
    unfold C7 at hs ⊢;rw[bw] at hs;simp only[show((4:Int)==6)=false from rfl,AB,BH,EN,AE] at hs;omega)
   have hq:=X7 (Ai:=Ai) ts [] true B hB ih;rw[Gi,inst];simp only[show((4:Int)==5)=false from rfl,AB];rw[Aj,FB (by decide)];simp only[show((4:Int)==0)=false from rfl,show((4:Int)==2)=false from rfl,show((4:Int)==7)=false from rfl,show((4:Int)==3)=false from rfl,show((4:Int)==5)=false from rfl,Fu,AB,BH,AE];cases ha:Hw (ts.map (Gi Ai f)) with
   | none=>
    rw[ha] at hq;rcases he:FH (Aj Ai f) (ts.map (inst σ 0)) [] true B with ⟨⟨o,ok⟩,B'⟩
    rw[he] at hq;obtain⟨h1,rfl⟩:=hq;simp only[E2,AB];exact h1
   | some ls=>
    rw[ha] at hq;rcases he:FH (Aj Ai f) (ts.map (inst σ 0)) [] true B with ⟨⟨o,ok⟩,B'⟩
    rw[he] at hq;obtain⟨h1,rfl,ps,h2,h3⟩:=hq;simp only[Di] at h2;subst h2;simp only[Ec,<-h3.length];cases Ai ls.flatten.length with
    | true=>exact h1
    | false=>exact⟨h1,h3⟩
  ·have hp:plain (var i)=true:=by
    rw[plain];simp
   obtain⟨q1,q2⟩:=Ny σ _ P5 hp hc;have hi:=MT hc;obtain⟨w,hw⟩:∃ w,σ[i.toNat]?=some w:=⟨_,Ak (by omega)⟩
   have ei:inst σ 0 (var i)=ph w:=by
    rw[q2,tr,CD];simp[List.getD,hw]
   rw[Gi,ei,Aj];simp only[show((5:Int)==0)=false from rfl,show((5:Int)==2)=false from rfl,show((7:Int)==0)=false from rfl,show((7:Int)==2)=false from rfl,BH,EN,AE,AB,NF];refine leaf { nd:=HI,O6:=fun x hx=>(by cases hx),len:=rfl,Ks:=fun i x hx=>(by simp at hx),small:=(by simp[hole]),bd:=?_,vis:=fun j hj=>?_,eq:=?_ }
   ·rw[yj,CD]
    simp[bd]
   ·rw[yj,CD] at hj
    simp[vis] at hj;exact .inr (.inl (by omega))
   ·rw[yj,CD]
    simp only[BH,AE];rw[tr,CD];simp only[BH,AE];rw[Ge (by omega)];have:(-1-(-1-i)).toNat=i.toNat:=by omega
    rw[this];simp[List.getD,hw]
  ·simp only[Bw,AG,IK] at hv
   have Bu:=EK hc (by decide);simp only[Eg,AG,IK,show HF 6 0=0 from rfl,show HF 6 1=1 from rfl] at Bu
   have pG:bw b<=bw (.mk 6 [] 0 [b,body])/\bw body+1+cv body*bw b<=bw (.mk 6 [] 0 [b,body]):=by
    rw[bw];simp only[BH,AE,cu,Lt,ym];have:(cv body+1)*bw b=cv body*bw b+bw b:=by rw[CH,Mn]
    omega
   unfold C7 at hs;have ihB:=X8 b [] hv.2.1 (by simpa using hcb) HI (by unfold C7; omega)
   have hsub:sub B.length 0 (inst σ 1 body)=inst (B.length::σ) 0 body:=Kq B.length σ body 0 hv.2.2 (by
    have:0+1+σ.length=σ.length+1:=by omega
    rw[this];exact Bu.2)
   have hnot:B.length∉σ:=fun h=>absurd (hB _ h) (by omega)
   have ihY:=X8 body (B.length::σ) hv.2.2 (by simpa using Bu.2) (List.nodup_cons.2 ⟨hnot,hn⟩) (by unfold C7; omega) (B++[b]) (by
    intro x hx;simp only[Ab,A3,BV];rcases Av.1 hx with rfl|hx
    ·omega
    ·have:=hB x hx
     omega)
   have hib:inst σ 0 b=b:=JF σ b 0 hv.2.1 hcb;rw[Gi,inst];simp only[show((6:Int)==5)=false from rfl,AB,C5,show HF 6 0=0 from rfl,show HF 6 (0+1)=1 from rfl,Dq,CJ,hib];rw[Aj];simp only[show((6:Int)==0)=false from rfl,show((6:Int)==2)=false from rfl,show((6:Int)==7)=false from rfl,show((6:Int)==3)=false from rfl,show((6:Int)==4)=false from rfl,show((6:Int)==5)=false from rfl,Fu,AB,BH,AE,Zn];rw[hsub];have hpB:B<+:B++[b]:=XF _ _;cases hr:Gi Ai f body with
   | none=>
    rw[hr] at ihY;rcases he:Aj Ai f (inst (B.length::σ) 0 body) (B++[b]) with ⟨r',B'⟩
    rw[he] at ihY;cases r' with
    | some _=>exact ihY.elim
    | none=>exact Db hpB ihY
   | some l=>
    rw[hr] at ihY;rcases he:Aj Ai f (inst (B.length::σ) 0 body) (B++[b]) with ⟨r',B'⟩
    rw[he] at ihY;cases r' with
    | none=>exact ihY.elim
    | some ps=>
     obtain⟨hp,hall⟩:=ihY;have Ow:(B++[b]).length=B.length+1:=by simp
     rw[Ow] at hall;have dh:B'[B.length]?=some b:=M3 hp (by simp)
     have hex:∀ A,Ls (fun B' c q=>∃ ψ,Rl false 0 B' A.length B'.length [] c q ψ) A (Gi Ai f b) (Aj Ai f b A):=by
      intro A;have:=ihB A (fun x hx=>by cases hx);rw[JF [] b 0 hv.2.1 hcb] at this;exact this
     have hw:∀ r,Gi Ai f b=some r->∀ c∈r,c.bounds.length<=bw b:=fun r hr c hc=>(Ej f b r hr c hc).1
     have hsz:∀ c∈l,c.bounds.length<=bw body/\(Ap c.body).length<=cv body:=Ej f body l hr
     have step:=eZ (Ai:=Ai) (Q:=fun B' b p=>∃ φ,Rl false 0 B' B.length B'.length σ b p φ) (fun A A' a q hA ⟨φ,h⟩=>⟨φ,h.mono hA (AL _) (AL _) (Gd hA)⟩)
      (S:=fun c q=>c∈l/\∃ ψ,Rl false 0 B' (B.length+1) B'.length (B.length::σ) c q ψ) (g:=LY Ai (Gi Ai f b) b) (g':=BX Ai (Aj Ai f b) B.length) (B0:=B') (by
       rintro c q A hA ⟨Bu,φ,hφ⟩;have hc:=hsz c Bu;rw[hφ.len] at hc;have hφ':=hφ.mono hA (AL _) (AL _) (Gd hA);have hm:(Ap c.body).length*bw b<=cv body*bw b:=CB _ hc.2;have hm':(((Ap c.body).length:Nat):Int)*(bw b:Nat)<=(cv body:Nat)*(bw b:Nat):=by exact_mod_cast hm
       have hq:(((bw body+1+cv body*bw b:Nat)):Int)<hole:=by omega
       have hq':((bw body:Nat):Int)+1+(cv body:Nat)*(bw b:Nat)<hole:=by exact_mod_cast hq
       exact yp hnot hex hw hφ' (M3 hA dh) (by omega)) l ps [] [] B' (CW _) (by
       have:∀ {l':List Br} {ps:List Ty},(∀ c∈l',c∈l)->CY (fun c q=>∃ ψ,Rl false 0 B' (B.length+1) B'.length (B.length::σ) c q ψ) l' ps->CY (fun c q=>c∈l/\∃ ψ,Rl false 0 B' (B.length+1) B'.length (B.length::σ) c q ψ) l' ps:=by
        intro l'
        induction l' with
        | nil=>intro ps _ h; cases ps with
         | nil=>trivial
         | cons _ _=>exact h.elim
        | cons a l' ih=>intro ps hm h; cases ps with
         | nil=>exact h.elim
         | cons q ps=>exact⟨⟨hm a (by simp),h.1⟩,ih (fun c hc=>hm c (Du _ hc)) h.2⟩
       exact this (fun c hc=>hc) hall) Al
     simp only
     have AIS:∀ (m:List Ty) (out:List Ty) (A:List Ty),Ai out.length=false->∀ r A',CN Ai (BX Ai (Aj Ai f b) B.length) m out A=(some r,A')->Ai r.length=false:=by
      intro m
      induction m with
      | nil=>intro out A ho r A' h; rw[CN] at h; cases h; exact ho
      | cons q m ih=>
       intro out A ho r A' h;rw[CN] at h;rcases hg:BX Ai (Aj Ai f b) B.length q A with ⟨s,A1⟩
       rw[hg] at h;cases s with
       | none=>cases h
       | some s=>
        simp only at h;cases VM:Ai (out++s).length with
        | true=>rw[VM] at h; cases h
        | false=>
         rw[VM] at h;exact ih _ _ VM _ _ h
     have hbg:=AIS ps [] B' hb0;revert step;rcases hcs:CN Ai (BX Ai (Aj Ai f b) B.length) ps [] B' with ⟨r2,B2⟩
     have hpp:B<+:B':=Db hpB hp;cases O2 Ai (LY Ai (Gi Ai f b) b) l [] <;> cases r2 <;> intro step
     ·exact Db hpp step
     ·exact step.elim
     ·exact step.elim
     ·rename_i r1 r2
      simp only[hbg r2 B2 hcs,AB];exact⟨Db hpp step.1,step.2⟩
end
mutual
def occs:Ty->List Int->List Int
 | .mk k _ i ts,l=>bif k==5 then(bif l.contains i then l else l++[i]) else bif k==2||k==3 then Jc ts l else l
def Jc:List Ty->List Int->List Int
 | [],l=>l
 | t::ts,l=>Jc ts (occs t l)
end
def Zy (l:List Int):Nat->Nat->Ty->Ty
 | 0,_,t=>t
 | f+1,j,t=>Zy l f (j+1) (UU (l.getD j 0) (hole+1+j) t)
def ej:Nat->Nat->Ty->Ty
 | 0,_,t=>t
 | f+1,j,t=>ej f (j+1) (UU (hole+1+j) j t)
def nW:Ty:=.mk 0 [] 0 []
def N1 (b:Br):Br:=⟨(occs b.body []).map fun i=>b.bounds.getD i.toNat nW,ej (occs b.body []).length 0 (Zy (occs b.body []) (occs b.body []).length 0 b.body)⟩
mutual
def Lb (N:Nat):Ty->List Nat->Ty×List Nat
 | .mk k n i ts,o=>bif k==7&&decide (i<N) then(match o.findIdx? (·==i.toNat) with
   | some j=>(var j,o)
   | none=>(var o.length,o++[i.toNat]))
  else(.mk k n i (Gy N ts o).1,(Gy N ts o).2)
def Gy (N:Nat):List Ty->List Nat->List Ty×List Nat
 | [],o=>([],o)
 | t::l,o=>((Lb N t o).1::(Gy N l (Lb N t o).2).1,(Gy N l (Lb N t o).2).2)
end
def KH (B:List Ty) (p:Ty):Br:=⟨(Lb B.length p []).2.map fun x=>B.getD x nW,(Lb B.length p []).1⟩
mutual
theorem Vi (N:Nat):∀ (t:Ty) (o:List Nat),valid t=true->Lb N t o=(t,o)
 | .mk k n i ts,o,h=>by
  have b7:(k==7)=false:=by simpa using Jb h
  simp only[valid,AG] at h;rw[Lb,b7];simp only[E2,AB,S8 N ts o h.2]
theorem S8 (N:Nat):∀ (l:List Ty) (o:List Nat),Bw l=true->Gy N l o=(l,o)
 | [],_,_=>rfl
 | t::l,o,h=>by
  simp only[Bw,AG] at h;rw[Gy,Vi N t o h.1];simp only[S8 N l o h.2]
end
mutual
theorem Zz:∀ (t:Ty) (l:List Int),l<+:occs t l
 | .mk k _ i ts,l=>by
  rw[occs];cases (k==5) with
  | true=>
   cases l.contains i with
   | true=>exact CW _
   | false=>exact XF _ _
  | false=>
   cases (k==2||k==3) with
   | true=>exact Kt ts l
   | false=>exact CW _
theorem Kt:∀ (ts:List Ty) (l:List Int),l<+:Jc ts l
 | [],l=>CW _
 | t::ts,l=>(Zz t l).trans (Kt ts _)
end
mutual
theorem MY:∀ (t:Ty) (l:List Int),∀ i∈occs t l,i∈l\/i∈vis t
 | .mk k _ j ts,l,i,hi=>by
  rw[occs] at hi;rw[vis];cases b5:(k==5) with
  | true=>
   rw[b5] at hi;cases hc:l.contains j with
   | true=>rw[hc] at hi; exact .inl hi
   | false=>
    rw[hc] at hi;simp only[AE,AB,BL] at hi;rcases hi with hi|hi
    ·exact .inl hi
    ·exact .inr (by simpa using hi)
  | false=>
   rw[b5] at hi;cases b:(k==2||k==3) with
   | true=>
    rw[b] at hi;exact Vj ts l i hi
   | false=>
    rw[b] at hi;exact .inl hi
theorem Vj:∀ (ts:List Ty) (l:List Int),∀ i∈Jc ts l,i∈l\/i∈Et ts
 | [],l,i,hi=>.inl hi
 | t::ts,l,i,hi=>by
  rw[Et,BL];rcases Vj ts _ i hi with h|h
  ·rcases MY t l i h with h|h
   ·exact .inl h
   ·exact .inr (.inl h)
  ·exact .inr (.inr h)
end
mutual
theorem S9:∀ (t:Ty) (l:List Int),∀ i∈vis t,i∈occs t l
 | .mk k _ j ts,l,i,hi=>by
  rw[vis] at hi;rw[occs];cases b5:(k==5) with
  | true=>
   rw[b5] at hi;have:i=j:=by simpa using hi
   subst this;cases hc:l.contains i with
   | true=>simpa using hc
   | false=>simp
  | false=>
   rw[b5] at hi;cases b:(k==2||k==3) with
   | true=>
    rw[b] at hi;exact Vk ts l i hi
   | false=>
    rw[b] at hi;cases hi
theorem Vk:∀ (ts:List Ty) (l:List Int),∀ i∈Et ts,i∈Jc ts l
 | [],l,i,hi=>by cases hi
 | t::ts,l,i,hi=>by
  rw[Et,BL] at hi;rcases hi with hi|hi
  ·exact(Kt ts _).subset (S9 t l i hi)
  ·exact Vk ts _ i hi
end
mutual
theorem Lc:∀ (t:Ty) (l:List Int),l.Nodup->(occs t l).Nodup
 | .mk k _ j ts,l,hl=>by
  rw[occs];cases (k==5) with
  | true=>
   cases hc:l.contains j with
   | true=>exact hl
   | false=>
    simp only[AE,AB];rw[OQ];refine⟨hl,by simp,fun a ha b hb=>?_⟩;rw[Bj.1 hb];rintro rfl;simp[ha] at hc
  | false=>
   cases (k==2||k==3) with
   | true=>exact Q6 ts l hl
   | false=>exact hl
theorem Q6:∀ (ts:List Ty) (l:List Int),l.Nodup->(Jc ts l).Nodup
 | [],l,hl=>hl
 | t::ts,l,hl=>Q6 ts _ (Lc t l hl)
end
mutual
theorem jH:∀ (t:Ty) (l:List Int),vis t=[]->occs t l=l
 | .mk k _ j ts,l,hv=>by
  rw[vis] at hv;rw[occs];cases b5:(k==5) with
  | true=>rw[b5] at hv; simp at hv
  | false=>
   rw[b5] at hv;cases b:(k==2||k==3) with
   | true=>rw[b] at hv; exact Z0 ts l hv
   | false=>rfl
theorem Z0:∀ (ts:List Ty) (l:List Int),Et ts=[]->Jc ts l=l
 | [],l,_=>rfl
 | t::ts,l,hv=>by
  rw[Et,hY] at hv;rw[Jc,jH t l hv.1,Z0 ts l hv.2]
end
def pos (L:List Int) (i:Int):Nat:=L.idxOf i
theorem X9 {L:List Int} (hn:L.Nodup) {j:Nat} {i:Int} (h:L[j]?=some i):pos L i=j:=by
 obtain⟨h1,h2⟩:=Ae.1 h;have hm:i∈L:=BK h;have h3:L.idxOf i<L.length:=List.idxOf_lt_length_of_mem hm
 have h4:L[L.idxOf i]?=some i:=by
  rw[Ak h3,List.getElem_idxOf]
 exact(Rk h3 hn).1 (h4.trans h.symm)
section
variable {N:Nat} {ρ:Int->Nat} {L:List Int} (hL:L.Nodup) (hinj:∀ i∈L,∀ j∈L,ρ i=ρ j->i=j) (hN:∀ i∈L,ρ i<N)
include hL hinj hN
mutual
theorem jI:∀ (b:Ty) (l:List Int),pl b=true->occs b l<+:L->Lb N (tr ρ b) (l.map ρ)=(CD (fun i=>var (pos L i)) b,(occs b l).map ρ)
 | .mk k n i ts,l,h,hp=>by
  cases b5:(k==5) with
  | true=>
   rw[tr,CD,CD,occs,b5];simp only[AE]
   have hi:i∈L:=by
    have:i∈occs (.mk k n i ts) l:=S9 _ l i (by rw[vis,b5]; simp);exact hp.subset this
   have hNi:=hN i hi;rw[Lb];have hlt:((ρ i:Nat):Int)<N:=by omega
   rw[Au hlt];simp only[BH,GR,AE,Int.toNat_natCast];have hpre:l<+:L:=(Zz _ l).trans hp;cases hc:l.contains i with
   | true=>
    have hm:i∈l:=by simpa using hc
    obtain⟨j,hj⟩:=XG hm
    have hjL:L[j]?=some i:=by
     obtain⟨m,rfl⟩:=hpre;rw[BA (Ae.1 hj).1];exact hj
    have hf:(l.map ρ).findIdx? (·==ρ i)=some j:=by
     rw[XA];have hjl:=(Ae.1 hj).1;refine⟨by simpa using hjl,by simp[(Ae.1 hj).2],fun a ha=>?_⟩;simp only[List.getElem_map,Dv];intro he;have hal:a<l.length:=by omega
     have haL:L[a]?=some l[a]:=by
      obtain⟨m,rfl⟩:=hpre;rw[BA hal];exact Ak hal
     have e:=hinj _ (BK haL) _ hi he;rw[e] at haL;have:=(Rk (Ae.1 haL).1 hL).1 (haL.trans hjL.symm);omega
    rw[hf];simp only[AE];rw[X9 hL hjL]
   | false=>
    have hm:i∉l:=by simpa using hc
    have hjL:L[l.length]?=some i:=by
     rw[occs,b5,hc] at hp;simp only[AE,AB] at hp;obtain⟨m,rfl⟩:=hp;simp
    have hf:(l.map ρ).findIdx? (·==ρ i)=none:=by
     rw[LA];intro x hx;obtain⟨y,hy,rfl⟩:=Bb.1 hx;simp only[D1,ne_eq];intro he;have:=hinj y (hpre.subset hy) i hi he;exact hm (this ▸ hy)
    rw[hf];simp only[AB,AZ,Mk,CI,EM];rw[X9 hL hjL]
  | false=>
   cases b2:(k==2) with
   | true=>
    have h2:k=2:=by simpa using b2
    subst h2;rw[pl] at h;rw[occs] at hp ⊢;have:=Z1 ts l (by simpa using h) (by simpa using hp);rw[tr,CD,CD];simp only[AB,D0,AE,show((2:Int)==5)=false from rfl,BH];rw[Lb];simp only[show((2:Int)==7)=false from rfl,E2,AB];rw[this]
   | false=>
    have hc:Q0 (.mk k n i ts)=true:=by
     rw[pl,b5,b2] at h;simpa using h
    rw[tr,LZ _ _ hc,LZ _ _ hc,Vi N _ _ (M1 hc)];have:occs (.mk k n i ts) l=l:=jH _ l (eX _ hc);rw[this]
theorem Z1:∀ (ts:List Ty) (l:List Int),Uw ts=true->Jc ts l<+:L->Gy N (Rw ρ ts) (l.map ρ)=(Cl (fun i=>var (pos L i)) ts,(Jc ts l).map ρ)
 | [],l,_,_=>rfl
 | t::ts,l,h,hp=>by
  simp only[Uw,AG] at h;have _h:=hL;have _h:=hinj;have _h:=hN;have h1:=jI t l h.1 ((Kt ts _).trans hp);rw[Rw,Cl,Gy,h1];simp only;rw[show Cl (fun i=>ph (ρ i)) ts=Rw ρ ts from rfl,Z1 ts (occs t l) h.2 hp];rfl
end
end
section
variable {N:Nat} {ρ:Int->Nat} {L:List Int} (hL:L.Nodup) (hinj:∀ i∈L,∀ j∈L,ρ i=ρ j->i=j) (hN:∀ i∈L,ρ i<N)
include hL hinj hN
mutual
theorem qW:∀ (b:Ty) (l:List Int),bd b=true->occs b l<+:L->Lb N (tr ρ b) (l.map ρ)=(CD (fun i=>var (pos L i)) b,(occs b l).map ρ)
 | .mk k n i ts,l,h,hp=>by
  cases b3:(k==3) with
  | true=>
   have h3:k=3:=by simpa using b3
   subst h3;rw[bd] at h;rw[occs] at hp ⊢;have:=jJ ts l (by simpa using h) (by simpa using hp);rw[tr,CD,CD];simp only[AB,EN,AE,show((3:Int)==5)=false from rfl,BH];rw[Lb];simp only[show((3:Int)==7)=false from rfl,E2,AB];rw[this]
  | false=>
   have JM:pl (.mk k n i ts)=true:=by
    rw[bd,b3] at h;rw[pl];simpa using h
   exact jI hL hinj hN _ l JM hp
theorem jJ:∀ (ts:List Ty) (l:List Int),Mz ts=true->Jc ts l<+:L->Gy N (Rw ρ ts) (l.map ρ)=(Cl (fun i=>var (pos L i)) ts,(Jc ts l).map ρ)
 | [],l,_,_=>rfl
 | t::ts,l,h,hp=>by
  simp only[Mz,AG] at h;have _h:=hL;have _h:=hinj;have _h:=hN;have h1:=qW t l h.1 ((Kt ts _).trans hp);rw[Rw,Cl,Gy,h1];simp only;rw[show Cl (fun i=>ph (ρ i)) ts=Rw ρ ts from rfl,jJ ts (occs t l) h.2 hp];rfl
end
end
mutual
theorem Z2:∀ t:Ty,bd t=true->CD (fun i=>var i) t=t
 | .mk k n i ts,h=>by
  rw[CD];rw[bd] at h;cases b5:(k==5) with
  | true=>
   have h5:k=5:=by simpa using b5
   subst h5;simp at h;obtain⟨rfl,rfl⟩:=h;simp
  | false=>
   rw[b5] at h;cases b2:(k==2) with
   | true=>
    rw[b2] at h;simp only[AB,AE,D0] at h ⊢;rw[QE ts h]
   | false=>
    rw[b2] at h;cases b3:(k==3) with
    | true=>
     rw[b3] at h;simp only[AB,AE,EN] at h ⊢;rw[Vl ts h]
    | false=>simp
theorem Vl:∀ l:List Ty,Mz l=true->Cl (fun i=>var i) l=l
 | [],_=>rfl
 | t::l,h=>by
  simp only[Mz,AG] at h;rw[Cl,Z2 t h.1,Vl l h.2]
theorem qX:∀ t:Ty,pl t=true->CD (fun i=>var i) t=t
 | .mk k n i ts,h=>by
  rw[CD];rw[pl] at h;cases b5:(k==5) with
  | true=>
   have h5:k=5:=by simpa using b5
   subst h5;simp at h;obtain⟨rfl,rfl⟩:=h;simp
  | false=>
   rw[b5] at h;cases b2:(k==2) with
   | true=>
    rw[b2] at h;simp only[AB,AE,D0] at h ⊢;rw[QE ts h]
   | false=>
    rw[b2] at h;have hc:Q0 (.mk k n i ts)=true:=by simpa using h
    have e:=LZ (.mk k n i ts) (fun i=>var i) hc;rw[CD,b5,b2] at e;exact e
theorem QE:∀ l:List Ty,Uw l=true->Cl (fun i=>var i) l=l
 | [],_=>rfl
 | t::l,h=>by
  simp only[Uw,AG] at h;rw[Cl,qX t h.1,QE l h.2]
end
theorem jK (n m:Int) (g:Int->Int) (t:Ty):UU n m (CD (fun i=>var (g i)) t)=CD (fun i=>var (bif g i==n then m else g i)) t:=by
 rw[QB,Hx]
theorem Z3 {l:List Int}:∀ (f j:Nat) (g:Int->Int) (t:Ty),∃ g':Int->Int,Zy l f j (CD (fun i=>var (g i)) t)=CD (fun i=>var (g' i)) t /\
  ∀ i,(∀ q,l[q]?=some (g i)->q<f+j->j<=q->l.Nodup->(∀ x∈l,x<hole)->q<l.length->f+j<=l.length->g' i=hole+1+q)/\((∀ q,j<=q->q<f+j->l.getD q 0≠g i)->g' i=g i)
 | 0,j,g,t=>⟨g,rfl,fun i=>⟨fun q _ h1 h2=>by omega,fun _=>rfl⟩⟩
 | f+1,j,g,t=>by
  rw[Zy,jK];obtain⟨g',h1,h2⟩:=Z3 (l:=l) f (j+1) (fun i=>bif g i==l.getD j 0 then hole+1+j else g i) t;refine⟨g',h1,fun i=>⟨fun q hq q1 q2 hn hh ql hf=>?_,fun hno=>?_⟩⟩
  ·by_cases e:q=j
   ·subst e
    have e1:g i=l.getD q 0:=by simp[List.getD,hq]
    have:=(h2 i).2 (by
     intro r LU Qs;have e2:(g i==l.getD q 0)=true:=by simpa using e1
     simp only[e2,AE];have hr:r<l.length:=by omega
     have:l.getD r 0∈l:=by
      rw[J4,Ak hr];exact XH hr
     have:=hh _ this;omega)
    rw[this];have e2:(g i==l.getD q 0)=true:=by simpa using e1
    simp only[e2,AE]
   ·have hne:(g i==l.getD j 0)=false:=by
     simp only[D1,ne_eq];intro he
     have hj:l[j]?=some (g i):=by
      have hjl:j<l.length:=by omega
      rw[he,J4,Ak hjl];rfl
     have:=(Rk ql hn).1 (hq.trans hj.symm);omega
    exact(h2 i).1 q (by simpa only[hne,AB] using hq) (by omega) (by omega) hn hh ql (by omega)
  ·have h3:=hno j (AL _) (by omega)
   have hne:(g i==l.getD j 0)=false:=by
    simp only[D1,ne_eq];exact fun he=>h3 he.symm
   have:=(h2 i).2 (by
    intro r LU Qs;simp only[hne,AB];exact hno r (by omega) (by omega))
   rw[this];simp only[hne,AB]
theorem Z6:∀ (f j:Nat) (g:Int->Int) (t:Ty),∃ g':Int->Int,ej f j (CD (fun i=>var (g i)) t)=CD (fun i=>var (g' i)) t /\
  ∀ i,(∀ q:Nat,g i=hole+1+q->j<=q->q<f+j->(f+j:Nat)<hole->g' i=q)/\(g i<hole->g' i=g i)
 | 0,j,g,t=>⟨g,rfl,fun i=>⟨fun q _ h1 h2=>by omega,fun _=>rfl⟩⟩
 | f+1,j,g,t=>by
  rw[ej,jK];obtain⟨g',h1,h2⟩:=Z6 f (j+1) (fun i=>bif g i==hole+1+j then j else g i) t;refine⟨g',h1,fun i=>⟨fun q hq q1 q2 hf=>?_,fun hlt=>?_⟩⟩
  ·by_cases e:q=j
   ·subst e
    have e2:(g i==hole+1+(q:Int))=true:=by simpa using hq
    have:=(h2 i).2 (by simp only[e2,AE]; omega);rw[this];simp only[e2,AE]
   ·have hne:(g i==hole+1+(j:Int))=false:=by
     simp only[D1,ne_eq];omega
    exact(h2 i).1 q (by simpa only[hne,AB] using hq) (by omega) (by omega) (by omega)
  ·have hne:(g i==hole+1+(j:Int))=false:=by
    simp only[D1,ne_eq];omega
   have:=(h2 i).2 (by simp only[hne,AB]; exact hlt);rw[this];simp only[hne,AB]
theorem AEY {b:Ty} (hb:bd b=true) (hv:∀ i∈vis b,0<=i/\i<hole) (hl:C7 (occs b []).length):ej (occs b []).length 0 (Zy (occs b []) (occs b []).length 0 b)=CD (fun i=>var (pos (occs b []) i)) b:=by
 have hn:=Lc b [] HI
 have hm:∀ i∈occs b [],i<hole:=fun i hi=>by
  rcases MY b [] i hi with h|h
  ·cases h
  ·exact(hv i h).2
 have e0:b=CD (fun i=>var i) b:=(Z2 b hb).symm;obtain⟨g1,h1,h2⟩:=Z3 (l:=occs b []) (occs b []).length 0 (fun i=>i) b;obtain⟨g2,h3,h4⟩:=Z6 (occs b []).length 0 g1 b
 have e1:Zy (occs b []) (occs b []).length 0 b=CD (fun i=>var (g1 i)) b:=by
  rw[<-h1,<-e0]
 rw[e1,h3];refine Eu _ fun i hi=>?_
 have hmem:=S9 b [] i hi;obtain⟨q,hq⟩:=XG hmem;have hql:=(Ae.1 hq).1;have:=(h2 i).1 q hq (by omega) (by omega) hn hm hql (by omega);have:=(h4 i).1 q this (by omega) (by omega) hl;rw[this,X9 hn hq]
theorem qY {B:List Ty} {lo hi:Nat} {b:Br} {p:Ty} {φ:List Nat} (H:Rl false 0 B lo hi [] b p φ) (hB:hi<=B.length) (hl:C7 (occs b.body []).length):KH B p=N1 b:=by
 have hv:∀ i∈vis b.body,0<=i/\i<φ.length:=by
  intro i hi;rcases H.vis i hi with h|h|h
  ·exact h
  ·simp at h; omega
  ·cases h.1
 have hn:=Lc b.body [] HI
 have hmem:∀ i∈occs b.body [],0<=i/\i<φ.length:=fun i hi=>by
  rcases MY b.body [] i hi with h|h
  ·cases h
  ·exact hv i h
 have hs:=H.small;have JM:∀ i∈occs b.body [],∃ x,φ[i.toNat]?=some x/\x∈φ/\Nd φ [] 0 i=x:=fun i hi=>JG (hmem i hi).1 (hmem i hi).2 (by omega)
 have key:=qW (N:=B.length) (ρ:=Nd φ [] 0) (L:=occs b.body []) hn (by
  intro i hi j hj he;obtain⟨x,hx,_,ex⟩:=JM i hi;obtain⟨y,hy,_,ey⟩:=JM j hj;rw[ex,ey] at he;subst he;have h1:=hmem i hi;have h2:=hmem j hj;have:=(Rk (by omega) H.nd).1 (hx.trans hy.symm);omega) (by
  intro i hi;obtain⟨x,hx,hm,ex⟩:=JM i hi;rw[ex];have:=H.O6 x hm;omega) b.body [] H.bd (CW _)
 simp only[EM] at key;rw[<-H.eq] at key;have e2:=AEY H.bd (fun i hi=>by have:=hv i hi; omega) hl;unfold KH N1;rw[key,e2];simp only[OL];congr 1;refine IG fun i hi=>?_
 obtain⟨x,hx,_,ex⟩:=JM i hi;simp only[Function.comp_apply];rw[ex,J4,J4,H.Ks _ _ hx]
end Go.Proofs.YtpgfpakdnijngaaGreatDoor
