/-
  The program's patterns: their kinds; where a placeholder occurs.
-/
import Derived.Test.YtpgfpakdnijngaaGreatDoorTB
import Derived.Test.YtpgfpakdnijngaaGreatDoorTA
import Derived.Test.YtpgfpakdnijngaaGreatDoorW1
import Derived.Test.YtpgfpakdnijngaaGreatDoorWpH
import Derived.Test.YtpgfpakdnijngaaGreatDoorW2
import Derived.Laws.Strings3
set_option linter.all false
namespace Go.Proofs.YtpgfpakdnijngaaGreatDoor
open Go.Tel
mutual
def inp:Ty->Bool
 | .mk k _ _ ts=>bif k==0 then ts.isEmpty else bif k==3||k==4||k==6 then Td ts else true
def Td:List Ty->Bool
 | []=>true
 | t::l=>inp t&&Td l
end
mutual
def pat:Ty->Bool
 | .mk k _ _ ts=>bif k==7||k==2 then true else bif k==3 then MJ ts else ts.isEmpty
def MJ:List Ty->Bool
 | []=>true
 | t::l=>pat t&&MJ l
end
theorem Te:∀{l:List Ty} {t:Ty},Td l=true->t∈l->inp t=true
 | [],_,_,h=>by cases h
 | a::l,t,h,ht=>by
  simp only[Td,AG] at h;rcases A6.1 ht with rfl|ht
  .grind
  .exact Te h.2 ht
theorem RB:∀(l m:List Ty),MJ (l++m)=(MJ l&&MJ m)
 | [],m=>by rfl
 | t::l,m=>by simp[MJ,RB l m,Rn]
mutual
theorem kT (v:Nat):∀(t:Ty) (u:Nat),inp t=true->inp (sub v u t)=true
 | .mk k n i ts,u,h=>by
  rw[inp] at h;rw[sub];cases h5:k==5 with
  | true=>
   have:k=5:=by grind
   subst this;simp only[AN];cases i==(u:Int) with
   | true=>rfl
   | false=>cases decide ((u:Int)<i) <;> rfl
  | false=>
   simp only[AH];rw[inp];cases h0:k==0 with
   | true=>
    rw[h0] at h;simp only[AN,Jk] at h ⊢;rw[h];rfl
   | false=>
    rw[h0] at h;simp only[AH] at h ⊢;cases h3:(k==3||k==4||k==6) with
    | true=>
     rw[h3] at h;exact bG v ts u k 0 h
    | false=>rfl
theorem bG (v:Nat):∀(l:List Ty) (u:Nat) (k:Int) (j:Nat),Td l=true->Td (KE v u k j l)=true
 | [],_,_,_,_=>rfl
 | t::l,u,k,j,h=>by
  simp only[Td,AG] at h;simp only[KE,Td,AG];exact⟨kT v t _ h.1,bG v l u k (j+1) h.2⟩
end
mutual
theorem R9 {m:Int->Bool} {b:Ty} (hb:pat b=true):∀(t:Ty) (k:Nat),pat t=true->pat (KF m b t k)=true
 | .mk c n i ts,k,h=>by
  have h':=h;rw[pat] at h;rw[KF];cases h7:c==7 with
  | true=>
   grind
  | false=>
   rw[h7] at h;cases h3:c==3 with
   | false=>grind
   | true=>
    have:c=3:=by grind
    subst this;exact bH hb ts k h
theorem bH {m:Int->Bool} {b:Ty} (hb:pat b=true):∀(l:List Ty) (k:Nat),MJ l=true->MJ (Jg m b l k)=true
 | [],_,_=>rfl
 | t::l,k,h=>by
  simp only[MJ,AG] at h;rw[Jg];cases decide (k<BU m t) with
  | true=>
   simp only[AN,MJ,AG];exact⟨R9 hb t k h.1,h.2⟩
  | false=>
   simp only[AH,MJ,AG];exact⟨h.1,bH hb l _ h.2⟩
end
mutual
theorem YY {v:Nat}:∀t:Ty,pat t=true->DY v true t=false->DY v false t=decide (0<BU (·==(v:Int)) t)
 | .mk k n i ts,hp,h=>by
  rw[DY] at h;rw[pat] at hp;rw[DY,BU];cases h7:k==7 with
  | true=>
   grind
  | false=>
   rw[h7] at h hp;simp only[AH,Fb,Gd,Ge] at h hp ⊢;cases h2:k==2 with
   | true=>
    grind
   | false=>
    rw[h2] at h hp;simp only[XX,AH] at h hp;cases h3:k==3 with
    | true=>
     rw[h3] at hp;exact bI ts hp h
    | false=>
     rw[h3] at hp;simp only[AH,Jk] at hp;subst hp;rfl
theorem bI {v:Nat}:∀l:List Ty,MJ l=true->Fu v true l=false->Fu v false l=decide (0<CX (·==(v:Int)) l)
 | [],_,_=>rfl
 | t::l,hp,h=>by
  simp only[MJ,AG] at hp;simp only[Fu,Hu] at h;rw[Fu,YY t hp.1 h.1,bI l hp.2 h.2,CX]
  grind
end
mutual
theorem YZ {v:Nat} {m:Int->Bool} {b:Ty} (hb:DY v true b=false):∀(t:Ty) (k:Nat),DY v true t=false->DY v true (KF m b t k)=false
 | .mk c n i ts,k,h=>by
  have h':=h;rw[DY] at h;rw[KF];cases h7:c==7 with
  | true=>
   grind
  | false=>
   rw[h7] at h;cases h3:c==3 with
   | false=>grind
   | true=>
    have:c=3:=by grind
    subst this;exact bJ hb ts k h
theorem bJ {v:Nat} {m:Int->Bool} {b:Ty} (hb:DY v true b=false):∀(l:List Ty) (k:Nat),Fu v true l=false->Fu v true (Jg m b l k)=false
 | [],_,_=>rfl
 | t::l,k,h=>by
  simp only[Fu,Hu] at h;rw[Jg];cases decide (k<BU m t) with
  | true=>
   simp only[AN,Fu,Hu];exact⟨YZ hb t k h.1,h.2⟩
  | false=>
   simp only[AH,Fu,Hu];exact⟨h.1,bJ hb l _ h.2⟩
end
section
variable {BD:Nat->Bool}
theorem Tf {α:Type} {g:α->List Ty->Fv} {P:Ty->Prop}:∀(l:List α) (out B:List Ty) (r:List Ty),(∀a∈l,∀B r,(g a B).1=some r->∀p∈r,P p)->(Ca BD g l out B).1=some r->(∀p∈out,P p)->∀p∈r,P p
 | [],out,B,r,_,h,ho=>by grind[Ca]
 | a::l,out,B,r,hg,h,ho=>by
  have h2:=hg a (by simp) B;rw[Ca] at h;rcases hr:g a B with ⟨_|s,B1⟩
  .grind
  .rw[hr] at h h2
   simp only at h h2;cases hb:BD (out++s).length with
   | true=>grind
   | false=>
    rw[hb] at h;refine Tf l (out++s) B1 r (λa ha=>hg a (by grind)) h ?_
    grind
theorem WL {ex:List Ty->Fv} (hr:∀B r,(ex B).1=some r->∀c∈r,pat c=true) {v:Nat}:∀(f:Nat) (t:Ty) (B r:List Ty),pat t=true->(CI BD ex v f t B).1=some r->∀p∈r,pat p=true
 | 0,t,B,r,ht,h=>by grind[CI]
 | f+1,t,B,r,ht,h=>by
  have h2:=hr B;rw[CI] at h;cases ho:DY v false t with
  | false=>
   grind
  | true=>
   rw[ho] at h;simp only[AN] at h;rcases he:ex B with ⟨_|cs,B1⟩
   .grind
   .rw[he] at h h2
    simp only at h h2;exact Tf cs [] B1 r (λc hc B' r' h'=>WL hr f _ B' r' (R9 (h2 cs rfl c hc) t 0 ht) h') h (by simp)
theorem Tg {ex:Ty->List Ty->Fv} {P:Ty->Prop}:∀(l out:List Ty) (ok:Bool) (B:List Ty),(∀t∈l,∀B r,(ex t B).1=some r->∀p∈r,P p)->(∀p∈out,P p)->∀p∈(G4 ex l out ok B).1.1,P p
 | [],_,_,_,_,ho=>ho
 | t::l,out,ok,B,hg,ho=>by
  have h2:=hg t (by simp) B;rw[G4];rcases hr:ex t B with ⟨_|s,B1⟩
  .exact Tg l out false B1 (λa ha=>hg a (by grind)) ho
  .rw[hr] at h2
   refine Tg l (out++s) ok B1 (λa ha=>hg a (by grind)) ?_
   grind
theorem bK {ex:Ty->List Ty->Fv} {P:Ty->Prop}:∀(l:List Ty) (out:List (List Ty)) (B:List Ty) (r:List (List Ty)),(∀t∈l,∀B r,(ex t B).1=some r->∀p∈r,P p)->(Er ex l out B).1=some r->(∀o∈out,∀p∈o,P p)->∀o∈r,∀p∈o,P p
 | [],out,B,r,_,h,ho=>by grind[Er]
 | t::l,out,B,r,hg,h,ho=>by
  have h2:=hg t (by simp) B;rw[Er] at h;rcases hr:ex t B with ⟨_|s,B1⟩
  .grind
  .rw[hr] at h h2
   refine bK l (out++[s]) B1 r (λa ha=>hg a (by grind)) h ?_
   grind
theorem WM:∀(ls out r:List (List Ty)),(∀l∈ls,∀p∈l,pat p=true)->Dq BD ls out=some r->(∀p∈out,MJ p=true)->∀p∈r,MJ p=true
 | [],out,r,_,h,ho=>by grind[Dq]
 | l::ls,out,r,hl,h,ho=>by
  rw[Dq] at h;cases hb:BD (out.flatMap λp=>l.map λx=>p++[x]).length with
  | true=>grind
  | false=>
   rw[hb] at h;refine WM ls _ r (λa ha=>hl a (by grind)) h ?_
   grind[RB,MJ]
theorem O5:∀(f:Nat) (t:Ty) (B r:List Ty),inp t=true->(BF BD f t B).1=some r->∀p∈r,pat p=true
 | 0,_,_,_,_,h=>by cases h
 | f+1,.mk k n i ts,B,r,hi,h=>by
  have ih:=O5 f;rw[inp] at hi;rw[BF] at h;cases Ze:k==0||k==2||k==7 with
  | true=>
   rw[Ze] at h;cases hb:BD 1 with
   | true=>grind
   | false=>
    rw[hb] at h;cases h;intro p hp;rw[E5.1 hp];have:k=0\/k=2\/k=7:=by grind
    rcases this with rfl|rfl|rfl
    all_goals assumption
  | false=>
   rw[Ze] at h;simp only[AH] at h;have h0:(k==0)=false:=by grind
   rw[h0] at hi;simp only[AH] at hi;cases vQ:k==4 with
   | true=>
    rw[vQ] at h hi;simp only[AN,HB,Hv] at h hi;have key:=Tg (P:=λp=>pat p=true) ts [] true B (λt hm B' r' h'=>ih t B' r' (Te hi hm) h') (by simp)
    grind
   | false=>
    rw[vQ] at h hi;simp only[AH,Bool.or_false] at h hi;cases R2:k==3 with
    | true=>
     rw[R2] at h hi;simp only[AN,Hv] at h hi;have key:=λr=>bK (P:=λp=>pat p=true) ts [] B r (λt hm B' r' h'=>ih t B' r' (Te hi hm) h')
     rcases hs:Er (BF BD f) ts [] B with ⟨_|ls,B1⟩
     .grind
     .rw[hs] at h key
      simp only at h key;cases he:ls.any List.isEmpty with
      | true=>grind
      | false=>
       rw[he] at h;simp only[AH] at h;cases hc:Dq BD ls [[]] with
       | none=>grind
       | some all=>
        rw[hc] at h;simp only at h;cases hb:BD all.length with
        | true=>grind
        | false=>
         rw[hb] at h;cases h;intro p hp;obtain⟨a,ha,rfl⟩:=C3.1 hp;exact WM ls _ all (key ls rfl (by simp)) hc (by simp[MJ]) a ha
    | false=>
     rw[R2] at h hi;simp only[AH,Ge] at h hi;cases j5:k==6 with
     | false=>
      grind
     | true=>
      rw[j5] at h hi;simp only[AN] at h hi
      match ts,hi with
      | [],_=>cases h; simp
      | [_],_=>cases h; simp
      | _::_::_::_,_=>cases h; simp
      | [b,body],hi=>
       simp only[Td,AG] at hi;simp only[eD] at h;have hl:=ih (sub B.length 0 body) (B++[b]);rcases hs:BF BD f (sub B.length 0 body) (B++[b]) with ⟨_|l,B1⟩
       .grind
       .rw[hs] at h hl
        simp only at h hl;have hl':=hl l (kT _ _ 0 hi.2.1) rfl;have key:=λr h1=>Tf (BD:=BD) (g:=B5 BD (BF BD f b) B.length) (P:=λp=>pat p=true) l [] B1 r h1
        grind[B5,WL]
end
attribute [local simp] Cl Bs Lf Lg AO Cw FJ wO setCells Ci FC Dn Dh Ax alive Cg GD I1 oU A8 DF BO Gx Dv Cz tM oV okB tN tP tQ tR tS eC tT tU tV tW tX tY tZ td th tj tq okF uA uB uC uD uE YE uF S0 S1 S2 S3 uG uH uI uJ rG uK uL uM uN uO Fz uP rH uQ uR uS uT uU uV uW uX uY uZ Co g0 g1 xI xL xM xF xG xC lf Y4 Y5
section
variable {R:Nat->Option (List PV)}
mutual
theorem kU:∀(t:Ty),size t<2 ^ 38->Vt t->∀(x:AV),A7 t x->AM (env R) 73 [x] λr=>r=BB (valid t)
 | .mk k n i ts,h,ho,x,hx=>by
  obtain⟨a,rfl,ha⟩:=hx;simp only[size] at h;simp only[Vt] at ho;have hs:AY ts<2 ^ 38:=by omega
  have hn:=ho.1;have ih:=bL ts hs ho.2
  suffices H:∀Post:AV->Prop,Post (BB (valid (.mk k n i ts)))->vR R 0 0 0 (.agg [AB k,SS n,AB i,a]) ⟨[],[]⟩ (QP Post) from
   e73 (u0:=.agg [AB k,SS n,AB i,a]) (by simp[ha.close]) (H _ rfl)
  intro Post hP;refine APC ?_;simp only[valid] at hP;unfold root at hP;cases b2:(k==2) with
  | true=>
   have e2:k=2:=by grind
   subst e2
   by_cases hi:i=0
   .subst hi
    simp[ha.ok,ha.A9,AQ]
    grind[P9]
   .have bi:(i==0)=false:=by grind
    rw[bi] at hP;simpa[QP,QI,ha.ok,ha.A9,AQ,hi,bne,bi] using hP
  | false=>
   have e2:¬ k=2:=by grind
   rw[b2] at hP
   by_cases hn0:n=[]
   .subst hn0
    cases b5:(k==5) with
    | true=>
     have e5:k=5:=by grind
     subst e5;simp[ha.ok,ha.A9,AQ]
     grind[P9]
    | false=>
     have e5:¬ k=5:=by grind
     rw[b5] at hP
     by_cases hi:i=0
     .subst hi
      simp[ha.ok,ha.A9,AQ,e2,e5,bne,b2,b5]
      grind[P9]
     .have bi:(i==0)=false:=by grind
      rw[bi] at hP;simpa[QP,QI,ha.ok,ha.A9,AQ,e2,e5,hi,bne,b2,b5,bi] using hP
   .have bn:(n==[])=false:=by grind
    rw[bn] at hP;simpa[QP,QI,ha.ok,ha.A9,AQ,e2,hn0,bne,b2,bn] using hP
theorem bL:∀(l:List Ty),AY l<2 ^ 38->RO l->∀t∈l,AM (env R) 73 [.agg ((Ag t).map .pv)] λr=>r=BB (valid t)
 | [],_,_,_,h=>by cases h
 | e::l,ho,hk,a,h=>by
  simp only[AY] at ho;simp only[RO] at hk;rcases A6.1 h with h' | h'
  .rw[h']
   exact kU e (by omega) hk.1 _ (A7.BZ e)
  .exact bL l (by omega) hk.2 a h'
end
theorem Th {t:Ty} (h:size t<2 ^ 38) (ho:Vt t) {x:AV} (hx:A7 t x):AM (env R) 42 [x] λr=>r=AB (verdict t):=by
 have e1:=P1 (R:=R) t (by omega) x hx;have e2:=S8 (R:=R) t (by omega) x hx;have e3:=Lh (R:=R) t h ho x hx;have hv:verdict t=bif decide (200<size t)||decide (12<depth t) then 4 else bif valid t then 0 else 2:=rfl
 generalize hz:size t=z at *;generalize hd:depth t=d at *;generalize hw:valid t=w at *;obtain⟨k,n,i,ts⟩:=t;obtain⟨a,rfl,ha⟩:=hx;refine e42 (u0:=.agg [AB k,SS n,AB i,a]) (by simp[ha.close]) (AE3 ?_);simp[ha.ok];refine AD e1 ?_;rintro v rfl
 have fin:∀b:Bool,b=(decide (200<z)||decide (12<d))->AO (BB b) (QP (λr=>r=AB (verdict (.mk k n i ts))) (AB 4) ⟨[[AB k,SS n,AB i,a]],[]⟩)
   (FC (env R) ⟨[[AB k,SS n,AB i,a]],[]⟩ (some 4) (.ptr 0 0) λa13=>GM (env R) (Dh (env R) 42 0 0 0) (.func (.func 86) [] []) [a13] ⟨[[AB k,SS n,AB i,a]],[]⟩ λa14 vS=>Dv a14 λa15=>AO a15 (QP (λr=>r=AB (verdict (.mk k n i ts))) (AB 2) vS) (vT R 0 0 0 vS (QP λr=>r=AB (verdict (.mk k n i ts))))):=by
  rintro b rfl;cases hb:(decide (200<z)||decide (12<d)) with
  | true=>simp[*,QP]
  | false=>
   simp;refine AD e3 ?_;rintro v rfl;cases w with
   | false=>simp[*,QP]
   | true=>
    simp;refine APE ?_;simp[*,QP]
 by_cases c1:200<z
 .have oc:(200<(z:Int)):=by omega
  have od:¬ ((z:Int)<=200):=by omega
  have:=fin true (by grind);simpa[oc,od] using this
 .have oc:¬ (200<(z:Int)):=by omega
  have od:((z:Int)<=200):=by omega
  simp[oc,od];refine AD e2 ?_;rintro v rfl
  by_cases c2:12<d
  .have c2':(12<(d:Int)):=by omega
   have c2n:¬ ((d:Int)<=12):=by omega
   have:=fin true (by grind);simpa[oc,od,c2',c2n] using this
  .have c2':¬ (12<(d:Int)):=by omega
   have c2n:((d:Int)<=12):=by omega
   have:=fin false (by grind);simpa[oc,od,c2',c2n] using this
theorem VI {t:Ty} (h:size t<2 ^ 60) (ho:Vt t) {x:AV} (hx:A7 t x):AM (env R) 42 [x] λr=>r=AB (verdict t):=by
 by_cases hs:size t<2 ^ 38
 .grind[Th]
 have e1:=P1 (R:=R) t (by omega) x hx;have hv:verdict t=4:=by grind[verdict]
 rw[hv];generalize hz:size t=z at *;obtain⟨k,n,i,ts⟩:=t;obtain⟨a,rfl,ha⟩:=hx;refine e42 (u0:=.agg [AB k,SS n,AB i,a]) (by simp[ha.close]) (AE3 ?_);simp[ha.ok];refine AD e1 ?_;rintro v rfl;have oc:(200<(z:Int)):=by omega
 have od:¬ ((z:Int)<=200):=by omega
 simp[*,QP]
theorem RP {t:Ty} (h:size t<2 ^ 38) (ho:Vt t) {x:AV} (hx:A7 t x):AM (env R) 30 [x] λr=>r=AB (verdict t):=by
 have e1:=Nh (R:=R) t (by omega) x hx;have e2:=Q1 (R:=R) t (by omega) x hx;have e3:=kU (R:=R) t h ho x hx;have hv:verdict t=bif decide (200<size t)||decide (12<depth t) then 4 else bif valid t then 0 else 2:=rfl
 generalize hz:size t=z at *;generalize hd:depth t=d at *;generalize hw:valid t=w at *;obtain⟨k,n,i,ts⟩:=t;obtain⟨a,rfl,ha⟩:=hx;refine e30 (u0:=.agg [AB k,SS n,AB i,a]) (by simp[ha.close]) (AE4 ?_);simp[ha.ok];refine AD e1 ?_;rintro v rfl
 have fin:∀b:Bool,b=(decide (200<z)||decide (12<d))->AO (BB b) (QP (λr=>r=AB (verdict (.mk k n i ts))) (AB 4) ⟨[[AB k,SS n,AB i,a]],[]⟩)
   (FC (env R) ⟨[[AB k,SS n,AB i,a]],[]⟩ (some 4) (.ptr 0 0) λa13=>GM (env R) (Dh (env R) 30 0 0 0) (.func (.func 73) [] []) [a13] ⟨[[AB k,SS n,AB i,a]],[]⟩ λa14 vS=>Dv a14 λa15=>AO a15 (QP (λr=>r=AB (verdict (.mk k n i ts))) (AB 2) vS) (vU R 0 0 0 vS (QP λr=>r=AB (verdict (.mk k n i ts))))):=by
  rintro b rfl;cases hb:(decide (200<z)||decide (12<d)) with
  | true=>simp[*,QP]
  | false=>
   simp;refine AD e3 ?_;rintro v rfl;cases w with
   | false=>simp[*,QP]
   | true=>
    simp;refine APF ?_;simp[*,QP]
 by_cases c1:200<z
 .have oc:(200<(z:Int)):=by omega
  have od:¬ ((z:Int)<=200):=by omega
  have:=fin true (by grind);simpa[oc,od] using this
 .have oc:¬ (200<(z:Int)):=by omega
  have od:((z:Int)<=200):=by omega
  simp[oc,od];refine AD e2 ?_;rintro v rfl
  by_cases c2:12<d
  .have c2':(12<(d:Int)):=by omega
   have c2n:¬ ((d:Int)<=12):=by omega
   have:=fin true (by grind);simpa[oc,od,c2',c2n] using this
  .have c2':¬ (12<(d:Int)):=by omega
   have c2n:((d:Int)<=12):=by omega
   have:=fin false (by grind);simpa[oc,od,c2',c2n] using this
theorem Ti {t:Ty} (h:size t<2 ^ 60) (ho:Vt t) {x:AV} (hx:A7 t x):AM (env R) 30 [x] λr=>r=AB (verdict t):=by
 by_cases hs:size t<2 ^ 38
 .grind[RP]
 have e1:=Nh (R:=R) t (by omega) x hx;have hv:verdict t=4:=by grind[verdict]
 rw[hv];generalize hz:size t=z at *;obtain⟨k,n,i,ts⟩:=t;obtain⟨a,rfl,ha⟩:=hx;refine e30 (u0:=.agg [AB k,SS n,AB i,a]) (by simp[ha.close]) (AE4 ?_);simp[ha.ok];refine AD e1 ?_;rintro v rfl;have oc:(200<(z:Int)):=by omega
 have od:¬ ((z:Int)<=200):=by omega
 simp[*,QP]
end
section
variable {R:Nat->Option (List PV)}
theorem LR (b:Bool):AM (env R) 113 [BB b] λr=>∃c:Int,r=AB c/\c≠0:=by
 refine AWH (u0:=BB b) (by simp) (AKE ?_);refine⟨λ_=>⟨_,Fz,-1,rfl,by omega⟩,λ_=>AKF ⟨_,Fz,1,rfl,by omega⟩⟩
theorem vV {k i k' i':Int} {n n':List UInt8} {ts ts':List Ty} {a a':AV} (ha:Ao a (AZ ts)) (J8:Ao a' (AZ ts')) (hl:AY ts<2 ^ 60) (hlen:ts.length=ts'.length)
  (ih:∀t∈ts,∀(t':Ty) (x x':AV),A7 t x->A7 t' x'->AM (env R) 79 [x,x'] λr=>∃c:Int,r=AB c/\(c=0<->t=t')) {Post:AV->Prop} :
  ∀(j q:Nat),q+j=ts.length->(∀c:Int,(c=0<->ts.drop q=ts'.drop q)->Post (AB c))->kV R 0 0 0 (.ptr 0 0) (.ptr 1 0) (AB q) ⟨[[AB k,SS n,AB i,a],[AB k',SS n',AB i',a']],[]⟩ (QP Post):=by
 have Uv:=BQ ts;intro j
 induction j with
 | zero=>
  intro q hi hP;refine AE5 ?_;have h1:¬ ((q:Int)<ts.length):=by omega
  simp[ha.A9,AQ,h1];refine APG ?_;have h2:ts.drop q=[]:=Bt (by omega);have h3:ts'.drop q=[]:=Bt (by omega);exact⟨_,Fz,hP 0 (by grind)⟩
 | succ j D7=>
  intro q hi hP;refine AE5 ?_;have h1:((q:Int)<ts.length):=by omega
  obtain⟨t,ht⟩:∃t,ts[q]?=some t:=⟨_,Ak (by omega)⟩;obtain⟨t',ht'⟩:∃t,ts'[q]?=some t:=⟨_,Ak (by omega)⟩;rw[drop_cons ht,drop_cons ht'] at hP;have e3:=ih t (A5 ht) t' _ _ (A7.BZ t) (A7.BZ t');simp[ha.A9,AQ,h1];refine APH ?_;simp;refine BK ha (row:=Ag t) (by omega) (by simp[*,BG]) (Af t) (by omega) ?_;simp[Af];refine BK J8 (row:=Ag t') (by omega) (by simp[*,BG]) (Af t') (by omega) ?_;have tk:∀t:Ty,List.take 4 ((Ag t).map AV.pv)=(Ag t).map .pv:=λt=>CL (by simp[Af])
  simp[Af,<-List.map_take,tk];refine AD e3 ?_;rintro v ⟨c,rfl,hc⟩
  by_cases h0:c=0
  .have e:t=t':=hc.1 h0
   subst h0;simp;refine API ?_;simp only[Cg,xI];refine⟨⟨Ab,Ab⟩,B8 (by omega) (by omega) ?_⟩;have:=D7 (q+1) (by omega) (λc h=>hP c (by rw[h]; grind))
   grind
  simp_all[QP]
mutual
theorem bM:∀(t:Ty),size t<2 ^ 38->∀(t':Ty) (x x':AV),A7 t x->A7 t' x'->AM (env R) 79 [x,x'] λr=>∃c:Int,r=AB c/\(c=0<->t=t')
 | .mk k n i ts,h,.mk k' n' i' ts',x,x',hx,hx'=>by
  obtain⟨a,rfl,ha⟩:=hx;obtain⟨a',rfl,J8⟩:=hx';simp only[size] at h;have ih:=WN ts (by omega)
  suffices H:∀Post:AV->Prop,(∀c:Int,(c=0<->Ty.mk k n i ts=Ty.mk k' n' i' ts')->Post (AB c))->vW R 0 0 0 (.agg [AB k,SS n,AB i,a]) (.agg [AB k',SS n',AB i',a']) ⟨[],[]⟩ (QP Post) from
   e79 (u0:=.agg [AB k,SS n,AB i,a]) (u1:=.agg [AB k',SS n',AB i',a']) (by simp[ha.close,J8.close]) (H _ λc hc=>⟨c,rfl,hc⟩)
  intro Post hP;refine APJ ?_;simp only[Ty.mk.injEq] at hP
  by_cases h1:k=k'
  .subst h1
   by_cases h2:n=n'
   .subst h2
    by_cases h3:i=i'
    .subst h3
     by_cases h4:ts.length=ts'.length
     .have h4':((ts.length:Int)=ts'.length):=by omega
      simp[ha.ok,J8.ok,ha.A9,J8.A9,AQ,h4',bne];refine APK ?_;have:=vV (k:=k) (i:=i) (k':=k) (i':=i) (n:=n) (n':=n) ha J8 (by omega) h4 ih ts.length 0 (by omega) (Post:=Post) (by grind);omega
     .have h4':¬ ((ts.length:Int)=ts'.length):=by omega
      simp[ha.ok,J8.ok,ha.A9,J8.A9,AQ,h4',bne];refine AD (LR _) ?_;rintro v ⟨c,rfl,hc⟩;exact⟨_,Fz,hP c (by grind)⟩
    .have h3':(i==i')=false:=by grind
     simp[ha.ok,J8.ok,h3,bne];refine AD (LR _) ?_;rintro v ⟨c,rfl,hc⟩;exact⟨_,Fz,hP c (by omega)⟩
   .simp[ha.ok,J8.ok,h2,bne]
    refine AD (LR _) ?_;rintro v ⟨c,rfl,hc⟩;exact⟨_,Fz,hP c (by grind)⟩
  .simp[ha.ok,J8.ok,h1,bne]
   refine AD (LR _) ?_;rintro v ⟨c,rfl,hc⟩;exact⟨_,Fz,hP c (by omega)⟩
theorem WN:∀(l:List Ty),AY l<2 ^ 38->∀t∈l,∀(t':Ty) (x x':AV),A7 t x->A7 t' x'->AM (env R) 79 [x,x'] λr=>∃c:Int,r=AB c/\(c=0<->t=t')
 | [],_,_,h=>by cases h
 | e::l,ho,a,h=>by
  simp only[AY] at ho;rcases A6.1 h with h' | h'
  .rw[h']
   exact bM e (by omega)
  .exact WN l (by omega) a h'
end
theorem O6 {t t':Ty} {x x':AV} (h:size t<2 ^ 38) (hx:A7 t x) (hx':A7 t' x'):AM (env R) 35 [x,x'] λr=>∃b:Bool,r=BB b/\(b=true<->t=t'):=by
 have e:=bM (R:=R) t h t' x x' hx hx';obtain⟨k,n,i,ts⟩:=t;obtain⟨k',n',i',ts'⟩:=t';obtain⟨a,rfl,ha⟩:=hx;obtain⟨a',rfl,J8⟩:=hx';refine e35 (u0:=.agg [AB k,SS n,AB i,a]) (u1:=.agg [AB k',SS n',AB i',a']) (by simp[ha.close,J8.close]) (APL ?_);simp[ha.ok,J8.ok];refine AD e ?_;rintro v ⟨c,rfl,hc⟩;refine⟨⟨rfl,rfl⟩,_,Fz,?_⟩
 grind
end
theorem Am {b:Bool} {s:AL} {W:(AV->AL->Prop)->Prop} {K:AV->AL->Prop} (h:W K):I1 (BB b) b s W K:=⟨λ_=>h,λh=>absurd rfl h⟩
theorem LS {b c:Bool} {s:AL} {W:(AV->AL->Prop)->Prop} {K:AV->AL->Prop} (hn:b≠c) (h:K (.tuple []) s):I1 (BB b) c s W K:=⟨λh=>absurd h hn,λ_=>h⟩
theorem DJ {s:AL} {W:(AV->AL->Prop)->Prop} {K:AV->AL->Prop} (h:K (.tuple []) s):I1 (BB true) false s W K:=LS (by decide) h
theorem Bm {s:AL} {W:(AV->AL->Prop)->Prop} {K:AV->AL->Prop} (h:K (.tuple []) s):I1 (BB false) true s W K:=LS (by decide) h
theorem BH {A B:Prop} (h:A):AO (BB true) A B:=⟨λ_=>h,λh=>by cases h⟩
theorem Aq {A B:Prop} (h:B):AO (BB false) A B:=⟨λh=>(by cases h),λ_=>h⟩
theorem pk {c:Bool} {a b:AV} {K:AV->Prop} (h:K (bif c then a else b)):A8 (BB c) a b K:=h
theorem Ay {k:IntKind} {a b:Int} {K:AV->Prop} (h:K (BB (a==b))):Cg k .eql (.pv (.sc (.int k a))) (.pv (.sc (.int k b))) K:=⟨⟨rfl,rfl⟩,h⟩
theorem FD {k:IntKind} {a b:Int} {K:AV->Prop} (h:K (BB (a != b))):Cg k .neq (.pv (.sc (.int k a))) (.pv (.sc (.int k b))) K:=⟨⟨rfl,rfl⟩,h⟩
theorem Ai {a b:Int} {K:AV->Prop} (h:K (BB (a<b))):Cg .i64 .lss (AB a) (AB b) K:=⟨⟨rfl,rfl⟩,h⟩
theorem vX {a b:Int} {K:AV->Prop} (h:K (BB (a<=b))):Cg .i64 .leq (AB a) (AB b) K:=⟨⟨rfl,rfl⟩,h⟩
theorem Gk {a b:Int} {K:AV->Prop} (h:K (BB (a>b))):Cg .i64 .gtr (AB a) (AB b) K:=⟨⟨rfl,rfl⟩,h⟩
theorem Nq {a b:Int} {K:AV->Prop} (h:K (BB (a>=b))):Cg .i64 .geq (AB a) (AB b) K:=⟨⟨rfl,rfl⟩,h⟩
theorem Ba {a b:Int} {K:AV->Prop} (h1:-(2 ^ 63)<=a+b) (h2:a+b<2 ^ 63) (h:K (AB (a+b))):Cg .i64 .add (AB a) (AB b) K:=⟨⟨rfl,rfl⟩,B8 h1 h2 h⟩
theorem QJ {a b:Int} {K:AV->Prop} (h1:-(2 ^ 63)<=a-b) (h2:a-b<2 ^ 63) (h:K (AB (a-b))):Cg .i64 .sub (AB a) (AB b) K:=⟨⟨rfl,rfl⟩,B8 h1 h2 h⟩
theorem IY {z ps cs:_} {K:AV->Prop} (hf:FJ z ps=some cs) (h:K (.agg cs)):Cw z ps K:=by
 simp only[Cw,hf,wO];exact h
theorem nt {b:Bool} {K:AV->Prop} (h:K (BB !b)):Dv (BB b) K:=h
theorem CB {l:List AV} {i:Nat} {v:AV} {K:AV->Prop} (hi:l[i]?=some v) (h:K v):DF (.tuple l) i K:=by
 simp only[DF,wO,hi];exact h
theorem Bu {s:AL} {v:AV} {cs:List AV} {K:AV->AL->Prop} (hc:cellsOf v=cs) (ho:cs.all BE=true) (h:K (.ptr s.bs.length 0) ⟨s.bs++[cs],s.ts⟩):Bs s v K:=by
 unfold Bs;rw[hc];exact⟨ho,h⟩
theorem Bq {s:AL} {cs:List AV} {K:AV->AL->Prop} (h:K (.ptr s.bs.length 0) ⟨s.bs++[cs],s.ts⟩):Cl s cs K:=h
theorem AP {s:AL} {id:Nat} {c:AV} {cs:List AV} (h:s.bs[id]?=some (c::cs)):alive s id=true:=by
 simp[alive,h]
theorem C1 {s:AL} {id off:Nat} {K:AV->Prop} (ha:alive s id=true) (h:K (.ptr id off)):Cz s (.ptr id off) K:=⟨ha,h⟩
theorem AK {s:AL} {id off d:Nat} {K:AV->Prop} (ha:alive s id=true) (h:K (.ptr id (off+d))):Ax s (.ptr id off) d K:=⟨ha,h⟩
theorem AU {E:Env} {s:AL} {id off:Nat} {cs:List AV} {v:AV} {K:AV->Prop} (hb:s.bs[id]?=some cs) (hv:cs[off]?=some v) (h:K v):FC E s none (.ptr id off) K:=by
 simp only[FC,hb,wO,Dn,hv,xL,xM,xF,xG];exact h
theorem Ae {E:Env} {s:AL} {id k:Nat} {cs:List AV} {K:AV->Prop} (hb:s.bs[id]?=some cs) (hk:cs.length=k) (h:K (.agg cs)):FC E s (some k) (.ptr id 0) K:=by
 simp only[FC,hb,wO,Dn,Jl,xL,xM,xF,xG];refine⟨by omega,?_⟩;rw[CL (by omega)];exact h
theorem Al {s:AL} {a:AV} {n:Nat} {K:AV->Prop} (hl:A9 s a=some n) (h:K (AB n)):BO s a K:=by
 simp only[BO,hl,wO];exact h
theorem AKG {a b:List UInt8} {K:AV->Prop} (hl:a.length+b.length<2 ^ 63) (h:K (SS (a++b))):GD .add (SS a) (SS b) K:=by
 simp only[GD];exact⟨by simpa using hl,by simpa using h⟩
theorem sln {w:List UInt8} {K:AV->Prop} (h:K (AB w.length)):Gx (SS w) K:=by assumption
theorem six {w:List UInt8} {i:Int} {c:UInt8} {K:AV->Prop} (h0:0<=i) (hc:w[i.toNat]?=some c) (h:K (.pv (.sc (.int .u8 c.toNat)))):MD (SS w) (AB i) K:=⟨h0,c,hc,h⟩
theorem CG {L:A3} {s:AL} {id k:Nat} {cs old:List AV} {K:AL->Prop} (hb:s.bs[id]?=some old) (hk:cs.length=k) (ho:old.length=k) (h0:0<k) (hro:L.ro<=id) (hok:cs.all BE=true) (hn:L.n0<=id\/II cs=true) (h:K ⟨s.bs.set id cs,s.ts⟩):Ci L s k (.ptr id 0) (.agg cs) K:=by
 have hce:cellsOf (.agg cs)=cs:=rfl
 have og:∀(a b:List AV),a.length=b.length->setCells a 0 b=b:=by
  intro a b hab
  have gen:∀(b pre old:List AV),old.length=b.length->setCells (pre++old) pre.length b=pre++b:=by
   intro b
   induction b with
   | nil=>intro pre old h; cases old with
    | nil=>rfl
    | cons _ _=>grind
   | cons x b ih=>
    intro pre old h;cases old with
    | nil=>grind
    | cons y old=>
     have:=ih (pre++[x]) old (by grind)
     simp_all[setCells]
  simpa using gen b [] a hab
 simp only[Ci,hb,wO,hce];refine⟨⟨hk,by omega,hro,hok,hn,by omega⟩,?_⟩;rw[og old cs (by omega)];exact h
theorem oh {P:Program} {t:TypeId} (ht:P.underlying t=some .string) (c:UInt8) (w:List UInt8):quick P (Instr.sliceAt t (.string ⟨(c::w).toArray⟩) (some (.int .i64 1)) none none)=some (.string ⟨w.toArray⟩):=by
 unfold Instr.sliceAt;refine Cc (I4 ht) ?_;simp only;unfold Instr.slice;refine Cc (I4 ht) ?_;have hs:(1:Int)<=((⟨(c::w).toArray⟩:ByteArray).size:Int):=by grind[ByteArray.size]
 simp only[Instr.sliceBounds,Instr.sliceBound,asIntOf,hs,Option.isSome_none,DD,Ht,pure_bind,K5,F2];have e:(⟨(c::w).toArray⟩:ByteArray).extract 1 (⟨(c::w).toArray⟩:ByteArray).size=⟨w.toArray⟩:=by simp[*,ByteArray.ext_iff,ByteArray.size]
 show quick P (pure (Value.string ((⟨(c::w).toArray⟩:ByteArray).extract 1 (⟨(c::w).toArray⟩:ByteArray).size)))=_
 rw[e];rfl
theorem oo {E:Env} {L:A3} {s:AL} {lk:Lk} {o:Oper} {K:AV->AL->Prop} {t:TypeId} {x:Operand} {c:UInt8} {w:List UInt8} (ho:o.op=.slice t x (some (.const (.int .i64 1))) none none) (ht:E.P.underlying t=some .string) (hx:G7 lk x=some (SS (c::w)))
  (h:K (SS w) s):Tj E L s lk o K:=by
 refine⟨SS w,s,λρ hA=>?_,h⟩;have ex:=Bw hA hx
 have h1:Ej ρ o.op.operands.toList=true:=by
  have e:o.op.operands.toList=[x,.const (.int .i64 1)]:=by rw[ho]; rfl
  rw[e];have e1:Ad ρ (.const (.int .i64 1))=.pv (.sc (.int .i64 1)):=rfl
  grind[Ej,GN]
 have h2:Cy E ρ o=some (SS w):=by
  have:quick E.P (execOp (λz=>(GN (Ad ρ z)).getD undef) o)=some (.value (.string ⟨w.toArray⟩)):=by
   unfold execOp;rw[ho];have e1:Ad ρ (.const (.int .i64 1))=.pv (.sc (.int .i64 1)):=rfl;simp only[ex,e1,GN,Ic,Ma,Option.map_none];exact Cc (oh ht c w) rfl
  simp only[Cy,h1,F2,this];rfl
 grind[PZ,CS]
theorem oq {E:Env} {L:A3} {s:AL} {lk:Lk} {o:Oper} {K:AV->AL->Prop} {t c:TypeId} {x:Operand} (ho:o.op=.binOp .eql t x (.const .nilIface) c) (hx:G7 lk x=some (.pv (.sc .nilIface)))
  (hq:quick E.P (do eqGuard .eql t x (.const .nilIface) .nilIface .nilIface; binOp .eql t .nilIface .nilIface)=some (.bool true)) (h:K (BB true) s):Tj E L s lk o K:=by
 refine⟨BB true,s,λρ hA=>?_,h⟩;have ex:=Bw hA hx;have e1:Ad ρ (.const .nilIface)=.pv (.sc .nilIface):=rfl
 have h1:Ej ρ o.op.operands.toList=true:=by
  have e:o.op.operands.toList=[x,.const .nilIface]:=by rw[ho]; rfl
  grind[Ej,GN]
 have h2:Cy E ρ o=some (BB true):=by
  have:quick E.P (execOp (λz=>(GN (Ad ρ z)).getD undef) o)=some (.value (.bool true)):=by
   unfold execOp;rw[ho];simp only[ex,e1,GN,Ic];exact Cc hq rfl
  simp only[Cy,h1,F2,this];rfl
 grind[IJ,D4,sameKind,rowsOf,Ij,CS]
theorem WO:∀(f n:Nat) (acc:List UInt8),acc.length<(Kn (f+1) n acc).length/\(Kn (f+1) n acc).length<=acc.length+f+1
 | 0,n,acc=>by grind[Kn]
 | f+1,n,acc=>by
  rw[Kn];cases Nat.blt n 10 with
  | true=>simp
  | false=>
   have:=WO f (n / 10) (UInt8.ofNat (48+n % 10)::acc)
   grind
theorem Tk (n:Nat):0<(G5 n).length/\(G5 n).length<=20:=by grind[WO,G5]
mutual
def ren:Ty->Ty
 | .mk k n i ts=>bif k==7 then .mk 2 (36::G5 i.toNat) 0 [] else .mk k n i (Bz ts)
def Bz:List Ty->List Ty
 | []=>[]
 | t::l=>ren t::Bz l
end
theorem Bk:∀l:List Ty,Bz l=l.map ren
 | []=>rfl
 | t::l=>by rw[Bz,Bk l]; rfl
mutual
def Hp (N:Nat):Ty->Bool
 | .mk k n i ts=>bif k==7 then ts.isEmpty&&(decide (0<=i)&&decide (i<N)) else !(n.head?==some 36)&&(decide (n.length<2 ^ 40)&&IZ N ts)
def IZ (N:Nat):List Ty->Bool
 | []=>true
 | t::l=>Hp N t&&IZ N l
end
structure Tl (R:RT):Prop where
 ito:∀n:Nat,n<2 ^ 40->AM (env R) 123 [AB n] λv=>v=SS (G5 n)
 ato:∀n:Nat,n<2 ^ 40->AM (env R) 124 [SS (G5 n)] λv=>v=.tuple [AB n,.pv (.sc .nilIface)]
section
variable {R:RT}
theorem AC5 {c:UInt8} {w:List UInt8} (h:((c::w).head?==some 36)=false):(((c.toNat:Int)) != 36)=true:=by
 simp only[List.head?_cons] at h;have:c≠36:=by grind
 simp only[bne_iff_ne,ne_eq];intro h1;apply this;have h2:c.toNat=36:=by omega
 exact UInt8.toNat_inj.1 h2
theorem KH (hn:Tl R) {N:Nat} (hN:N<=2 ^ 40) {k i:Int} {n:List UInt8} {ts:List Ty} (ht:Hp N (.mk k n i ts)=true) {x:AV} (hx:A7 (ren (.mk k n i ts)) x) :
  AM (env R) 92 [x] λr=>r=bif k==7 then .tuple [AB i,BB true] else .tuple [AB 0,BB false]:=by
 rw[ren] at hx;rw[Hp] at ht
 have go:∀(k' i':Int) (n':List UInt8) (a:AV) (rows:List (List PV)),Ao a rows->(∀Post:AV->Prop,Post (bif k==7 then .tuple [AB i,BB true] else .tuple [AB 0,BB false])->vY R 0 0 0 (.agg [AB k',SS n',AB i',a]) ⟨[],[]⟩ (QP Post)) ->
   AM (env R) 92 [.agg [AB k',SS n',AB i',a]] λr=>r=bif k==7 then .tuple [AB i,BB true] else .tuple [AB 0,BB false]:=by
  intro k' i' n' a rows ha h;exact e92 (u0:=.agg [AB k',SS n',AB i',a]) (by simp[ha.close]) (h _ rfl)
 cases b7:(k==7) with
 | true=>
  rw[b7] at hx ht;simp only[AN,AG,Dc] at hx ht;obtain⟨a,rfl,ha⟩:=hx;have hd:=Tk i.toNat;have go':=go 2 0 (36::G5 i.toNat) a _ ha;rw[b7] at go';refine go' λPost hP=>AE6 (Bu rfl (by simp[ha.ok]) (AK rfl (AU rfl rfl (FD ?_))))
  refine Am (AK rfl (Am (AU rfl rfl (Am (sln (Am (Ai (pk ?_))))))));have h2:¬ (((36::G5 i.toNat).length:Nat):Int)<2:=by grind
  rw[Aw h2];refine Am (AK rfl (Am (AU rfl rfl (Am (six (c:=36) (by omega) rfl (Am (FD (pk (Aq ?_)))))))));refine APM (AK rfl (AU rfl rfl ?_));refine oo (t:=9) (x:=.tmp 23) (by rfl) (by kernel_rfl) rfl ?_;refine AD (hn.ato i.toNat (by omega)) ?_;rintro v rfl;refine CB rfl (CB rfl (oq (t:=136) (c:=136) (x:=.tmp 29) (by rfl) rfl (by kernel_rfl) ?_));have e:((i.toNat:Nat):Int)=i:=by omega
  rw[e];exact⟨_,by rfl,hP⟩
 | false=>
  rw[b7] at hx ht;simp only[AH,AG,Dc] at hx ht;obtain⟨a,rfl,ha⟩:=hx;have go':=go k i n a _ ha;rw[b7] at go';refine go' λPost hP=>AE6 (Bu rfl (by simp[ha.ok]) (AK rfl (AU rfl rfl (FD ?_))))
  have fin:∀(s:AL),QP Post (.tuple [AB 0,BB false]) s:=λs=>⟨_,by rfl,hP⟩
  by_cases h2:k=2
  .subst h2
   refine Am (AK rfl (Am (AU rfl rfl (Am (sln (Am (Ai (pk ?_))))))))
   by_cases hl:(n.length:Int)<2
   .simp[*]
   .rw[Aw hl]
    obtain⟨c,w,rfl⟩:=Mc (l:=n) (by grind);have hne:=AC5 (c:=c) (w:=w) (by grind)
    simp_all[six]
  .have hb:(k != 2)=true:=by grind
   simp[*]
abbrev phA (v:Nat):AV:=.agg [AB 2,SS (36::G5 v),AB 0,.AA []]
theorem QK (hn:Tl R) (v:Nat) (hv:v<2 ^ 40):AM (env R) 90 [AB v] λr=>r=phA v:=by
 have hd:=Tk v;refine e90 (u0:=AB v) (by simp) (APN ?_);refine AD (hn.ito v hv) ?_;rintro _ rfl;refine AKG (by grind) (IY rfl ?_);refine CG (old:=[AB 0,SS [],AB 0,.AA []]) rfl rfl rfl (by decide) (AI _) rfl (.inl (AI _)) ?_;refine Ae rfl rfl ?_;exact⟨phA v,by rfl,rfl⟩
theorem BM.app {s:AL} (h:BM s) {b:List AV} (hb:Ah (s.bs.length+1) b=true):BM ⟨s.bs++[b],s.ts⟩:=by
 intro c hc;simp only[CD,CT,CJ];rcases B9.1 hc with hc|hc
 .exact Bn (by omega) c (h c hc)
 grind
theorem Iw {rr:Bool} {s:AL} (hs:BM s) {m:List (List AV)} {p:PV} {Post:AV->AL->Prop} (h:Post (.pv p) s):QM rr s.bs.length Post (.pv p) ⟨s.bs++m,s.ts⟩:=by
 have e:(s.bs++m).take s.bs.length=s.bs:=by simp
 refine AE7 ?_ ?_
 .simp only[e]
  rw[C2];exact hs
 simp[*]
theorem AC6 {α:Type} {row:α->List PV} (hrow:∀a,(row a).length=4) {f:FuncId} {cs:List AV} {g:α->Bool} {ts:List α} {y:AV} (hy:Ao y (ts.map row)) (hl:ts.length<2 ^ 60) {s:AL} (hf:∀t∈ts,∀L,BA (env R) L f (.agg ((row t).map .pv)::cs) s (BB (g t)) s) {n0 ro rt:Nat} {QR:QT} :
  ∀(j q:Nat),q+j=ts.length->(∀i:Int,decide (0<=i)=(ts.drop q).any g->QR (AB i) s)->P6 R n0 ro rt y (.func (.func f) [] cs) (AB ts.length) (AB q) s QR:=by
 intro j
 induction j with
 | zero=>
  intro q hi hP;refine P7 (Ai ?_);have h1:¬ ((q:Int)<ts.length):=by omega
  rw[Aw h1];refine Aq (fU ?_);have h2:ts.drop q=[]:=Bt (by omega);rw[h2] at hP;exact hP (-1) (by simp)
 | succ j D7=>
  intro q hi hP;refine P7 (Ai ?_);have h1:((q:Int)<ts.length):=by omega
  rw[Ap h1];refine BH (fV ?_);obtain⟨t,ht⟩:∃t,ts[q]?=some t:=⟨_,Ak (by omega)⟩;have hd:=drop_cons ht;rw[hd] at hP;refine BK hy (row:=row t) (by omega) (by simp[ht]) (hrow t) (by omega) ?_;have hc:=hf t (A5 ht)
  have e4:∀K:AV->Prop,K (.agg ((row t).map .pv))->FC (env R) s (some 4) (.Cn (row t) 0) K:=by
   intro K hK;simp only[FC,Dn,Jl,xL,xM,xF,xG];refine⟨by rw[CC,hrow]; omega,?_⟩;rw[CL (by rw[CC,hrow]; omega)];exact hK
  refine e4 _ ?_;refine⟨BB (g t),s,hc _,?_⟩;cases hg:g t with
  | true=>simp[*]
  | false=>
   refine Aq (fW (Ba (by omega) (by omega) ?_));simp only[OK,hg,Ge] at hP;have:=D7 (q+1) (by omega) hP;simpa using this
theorem Ya {α:Type} {row:α->List PV} (hrow:∀a,(row a).length=4) {f:FuncId} {cs:List AV} {g:α->Bool} {ts:List α} {y:AV} (hy:Ao y (ts.map row)) (hl:ts.length<2 ^ 60) {s:AL} (hs:BM s) (hcs:Bo cs=false) (hf:∀t∈ts,∀L,BA (env R) L f (.agg ((row t).map .pv)::cs) s (BB (g t)) s) (L:A3) :
  BA (env R) L 94 [y,.func (.func f) [] cs] s (BB (ts.any g)) s:=by
 have hi:∀L,∃i:Int,decide (0<=i)=ts.any g/\BA (env R) L 125 [y,.func (.func f) [] cs] s (AB i) s:=by
  intro L
  obtain⟨v,s',⟨i,rfl,rfl,h⟩,hc⟩:=APO (R:=R) (L:=L) (s:=s) (t0:=y) (t1:=.func (.func f) [] cs) (Post:=λv s'=>∃i:Int,v=AB i/\s'=s/\decide (0<=i)=ts.any g) (by grind[Bo,GO]) (fX (Al (n:=ts.length) (by rw[hy.A9,CC]) (AC6 hrow hy hl hf ts.length 0 (by omega) λi h=>by
   have:=Iw (rr:=L.rr 125) hs (m:=[]) (p:=.sc (.int .i64 i)) (Post:=λv s'=>∃i:Int,v=AB i/\s'=s/\decide (0<=i)=ts.any g) ⟨i,rfl,rfl,by grind⟩
   simp_all)))
  grind
 obtain⟨v,s',⟨rfl,rfl⟩,hc⟩:=m94 (R:=R) (L:=L) (s:=s) (t0:=y) (t1:=.func (.func f) [] cs) (Post:=λv s'=>v=BB (ts.any g)/\s'=s) (by grind[Bo,GO]) (uk (by
  obtain⟨i,h,hc⟩:=hi (Dh (env R) 94 0 L.ro L.rt);refine⟨AB i,s,hc,Nq ?_⟩;have:=Iw (rr:=L.rr 94) hs (m:=[]) (p:=.sc (.bool (ts.any g))) (Post:=λv s'=>v=BB (ts.any g)/\s'=s) ⟨rfl,rfl⟩
  simp_all))
 omega
theorem DW (t:Ty):((Ag t).map AV.pv).all BE=true:=by cases t; rfl
mutual
theorem RD (hn:Tl R) {N:Nat} (hN:N<=2 ^ 40) (v:Nat):∀(t:Ty) (inv:Bool),size t<2 ^ 60->Hp N t=true->∀(x:AV),A7 (ren t) x->AM (env R) 62 [x,AB v,BB inv] λr=>r=BB (DY v inv t)
 | .mk k n i ts,inv,h,ht,x,hx=>by
  have hv:=KH hn hN ht hx;have ht':=ht;rw[Hp] at ht;rw[ren] at hx;rw[DY];simp only[size] at h;cases b7:(k==7) with
  | true=>
   rw[b7] at hx hv ht;simp only[AN,AG,Dc] at hx hv ht;obtain⟨a,rfl,ha⟩:=hx;refine e62 (u0:=.agg [AB 2,SS (36::G5 i.toNat),AB 0,a]) (u1:=AB v) (u2:=BB inv) (by simp[ha.close]) (AE8 ?_);refine Bu rfl (by simp[ha.ok]) (Bu rfl rfl (Bu rfl rfl (Ae rfl rfl (AD hv ?_))));rintro _ rfl;refine CB rfl (CB rfl (BH (AU rfl rfl (Ay ?_))));simp only[AN];cases he:(i==(v:Int)) with
   | true=>exact Am (AU rfl rfl (Am (nt (pk ⟨_,Fz,by cases inv <;> rfl⟩))))
   | false=>exact Bm (Bm (pk ⟨_,Fz,by cases inv <;> rfl⟩))
  | false=>
   rw[b7] at hx hv ht;simp only[AH,AG,Dc] at hx hv ht;obtain⟨a,rfl,ha⟩:=hx;have ih:=O7 hn hN v ts (inv&&!(k==2)) (by omega) ht.2.2;refine e62 (u0:=.agg [AB k,SS n,AB i,a]) (u1:=AB v) (u2:=BB inv) (by simp[ha.close]) (AE8 ?_);refine Bu rfl (by simp[ha.ok]) (Bu rfl rfl (Bu rfl rfl (Ae rfl rfl (AD hv ?_))));rintro _ rfl;refine CB rfl (CB rfl (Aq (APP (AK rfl (AU rfl rfl ?_)))))
   have hs:BM ⟨[[AB k,SS n,AB i,a],[AB v],[BB inv]],[]⟩:=by
    intro b hb;simp only[A6,FZ,Fa] at hb;rcases hb with rfl|rfl|rfl <;> simp[Ah,Ar,ha.Ar]
   have hsz:=BQ ts
   have J8:Ao a (ts.map λt=>Ag (ren t)):=by
    rw[IA,Bk,XT] at ha;exact ha
   refine⟨_,_,Ya (λt=>Af (ren t)) (g:=λt=>DY v (inv&&!(k==2)) t) (f:=103) (cs:=[.ptr 1 0,.ptr 2 0,.ptr 0 0]) J8 (by omega) hs (by rfl) ?_ _,?_⟩
   .intro t hm L
    have hc:=ih t hm
    obtain⟨w,s',⟨rfl,rfl⟩,s9⟩:=AWK (R:=R) (L:=L) (s:=⟨[[AB k,SS n,AB i,a],[AB v],[BB inv]],[]⟩) (t0:=.agg ((Ag (ren t)).map .pv)) (t1:=.ptr 1 0) (t2:=.ptr 2 0) (t3:=.ptr 0 0) (Post:=λw s'=>w=BB (DY v (inv&&!(k==2)) t)/\s'=⟨[[AB k,SS n,AB i,a],[AB v],[BB inv]],[]⟩) (by simp[Bo,GO]) (AKH (by
     generalize hr:(Ag (ren t)).map AV.pv=r at hc;have hrl:r.length=4:=by grind[Af]
     have hro:r.all BE=true:=by grind[DW]
     refine Bu rfl hro (Ae rfl hrl (AU rfl rfl (AU rfl rfl ?_)))
     have fin:∀(b:Bool) (s1:AL),s1=⟨[[AB k,SS n,AB i,a],[AB v],[BB inv],r],[]⟩->b=(inv&&!(k==2))->GM (env R) (Dh (env R) 103 0 L.ro L.rt) (.func (.func 62) [] []) [.agg r,AB v,BB b] s1 (λa14 ot=>QM (L.rr 103) 3 (λw s'=>w=BB (DY v (inv&&!(k==2)) t)/\s'=⟨[[AB k,SS n,AB i,a],[AB v],[BB inv]],[]⟩) a14 ot):=by
      rintro b s1 rfl rfl;refine AD hc ?_;rintro _ rfl;exact Iw (s:=⟨[[AB k,SS n,AB i,a],[AB v],[BB inv]],[]⟩) hs (m:=[r]) (p:=.sc (.bool _)) ⟨rfl,rfl⟩
     cases inv with
     | true=>simp_all[bne]
     | false=>simp_all))
    omega
   .refine⟨_,Fz,?_⟩
    have:∀l:List Ty,l.any (λt=>DY v (inv&&!(k==2)) t)=Fu v (inv&&!(k==2)) l:=by
     intro l
     induction l with
     | nil=>rfl
     | cons e l ih=>grind[Fu]
    grind
theorem O7 (hn:Tl R) {N:Nat} (hN:N<=2 ^ 40) (v:Nat):∀(l:List Ty) (inv:Bool),AY l<2 ^ 60->IZ N l=true->∀t∈l,AM (env R) 62 [.agg ((Ag (ren t)).map .pv),AB v,BB inv] λr=>r=BB (DY v inv t)
 | [],_,_,_,_,h=>by cases h
 | e::l,inv,h,ht,t,hm=>by
  simp only[AY] at h;simp only[IZ,AG] at ht;rcases A6.1 hm with h' | h'
  .rw[h']
   exact RD hn hN v e inv (by omega) ht.1 _ (A7.BZ _)
  .exact O7 hn hN v l inv (by omega) ht.2 t h'
end
end
def BV (v:Ty) (x:AV):Prop:=match v with
 | .mk k n i ts=>∃a,x=.agg [AB k,SS n,AB i,a]/\BJ a (AZ ts)
theorem A7.G6 {v:Ty} {x:AV} (h:A7 v x):BV v x:=by
 obtain⟨k,n,i,ts⟩:=v;obtain⟨a,rfl,ha⟩:=h;exact⟨a,rfl,.inl ha⟩
theorem BV.closed {v:Ty} {x:AV} (h:BV v x) (bs:List (List AV)) (n:Nat):∃x',close bs n 0 x=some x'/\A7 v x':=by
 obtain⟨k,c,i,ts⟩:=v;obtain⟨a,rfl,ha⟩:=h;obtain⟨a',h1,h2⟩:=ha.closed bs n;exact⟨.agg [AB k,SS c,AB i,a'],by simp[h1],⟨a',rfl,h2⟩⟩
abbrev Z4:List AV:=[AB 0,SS [],AB 0,.AA []]
theorem GJ (l m:List Ty):AZ (l++m)=AZ l++AZ m:=by simp[IA]
theorem Gy {l:List Ty} {r:List PV} (h:r∈AZ l):r.length=4:=by grind[IA,Af]
theorem FR {t:Ty} {x:AV} (h:BV t x) {s:AL} {K:AV->AL->Prop} (hK:K (.AA [Ag t]) s):Ct false s 4 [(AB 0),(SS []),(AB 0),(.AA [])] 1 [(0,4,x)] K:=by
 obtain⟨k,n,i,ts⟩:=t;obtain⟨a,rfl,ha⟩:=h;simp only[Ag] at hK;simp[Ct,Fg,CR,ha.ok,ha.Ls];omega
theorem Yb {L:A3} {s:AL} {a:AV} {es:List Ty} {t:Ty} {K:AV->AL->Prop} (ha:Dr 0 s.ts 25 a (AZ es)) (Eb:L.rt=0) (hl:es.length<2 ^ 38) (h:∀a' ts',Dr 0 ts' 25 a' (AZ (es++[t]))->K a' ⟨s.bs,ts'⟩) :
  Cx false L s 25 4 56 a (.AA [Ag t]) K:=by
 have hl':(AZ es).length=es.length:=AQ es;have:=O8 (L:=L) (bs:=s.bs) (ts:=[]) (x:=s.ts) (e:=25) (k:=4) (bytes:=56) (a:=a) (rows:=AZ es) (row:=Ag t) (K:=K) (by grind) (by omega) (λr hr=>Gy hr) (Af t) (by omega) (DW t) (by omega) (by omega) (by grind[GJ,AZ])
 simp_all
theorem DG {L:A3} {s:AL} {id off:Nat} {v:AV} {cs:List AV} {K:AL->Prop} (hb:s.bs[id]?=some cs) (ho:off<cs.length) (hc:cellsOf v=[v]) (hro:L.ro<=id) (hok:BE v=true) (hn:L.n0<=id\/Jm v=true) (h:K ⟨s.bs.set id (cs.set off v),s.ts⟩):Ci L s 1 (.ptr id off) v K:=by
 simp only[Ci,hb,wO,hc];refine⟨⟨rfl,by simp; omega,hro,by simp[hok],hn.imp (λh=>h) λh=>by simp[II,h],by omega⟩,?_⟩;simpa[setCells] using h
theorem HK {lo:Nat} {ts:List (Nat×Nat)} {k:Nat} {a:AV} {es:List Ty} (h:Dr lo ts k a (AZ es)):Tel.Bl a a=true:=by
 rcases h with rfl|⟨t,rfl,_⟩
 all_goals simp[*,Tel.Bl,DQ]
theorem EP (a b:Nat):Tel.Bl (.ptr a b) (.ptr a b)=true:=by simp[Tel.Bl]
theorem Av {bs:List (List AV)} {j:Nat} {c:List AV} (h:bs[j]?=some c) (b:List AV):(bs++[b])[j]?=some c:=by grind
theorem Az (bs:List (List AV)) (b:List AV):(bs++[b])[bs.length]?=some b:=by simp
theorem BS {bs:List (List AV)} {j k:Nat} {c b:List AV} (h:bs[j]?=some c) (hn:k≠j):(bs.set k b)[j]?=some c:=by grind
theorem Bf {bs:List (List AV)} {j:Nat} {c b:List AV} (h:bs[j]?=some c):(bs.set j b)[j]?=some b:=by grind
section
variable {R:RT}
theorem Cd {s:AL} {t:Ty} {K:AV->Prop} (hK:K (.agg ((Ag t).map .pv))):FC (env R) s (some 4) (.Cn (Ag t) 0) K:=by
 simp only[FC,Dn,Jl,xL,xM,xF,xG];refine⟨by rw[CC,Af]; omega,?_⟩;rw[CL (by rw[CC,Af]; omega)];exact hK
theorem gJ {ts:List Ty} {a:AV} (ha:Ao a (AZ ts)) (hl:AY ts<2 ^ 38) {k i:Int} {n:List UInt8} (ih:∀t∈ts,AM (env R) 146 [.agg ((Ag t).map .pv)] λr=>A7 t r) {Post:AV->Prop} (hP:∀r,A7 (.mk k n i ts) r->Post r) :
  ∀(j q:Nat) (s:AL) (b:AV),q+j=ts.length->s.bs[1]?=some Z4->s.bs[2]?=some [AB k,SS n,AB i,b]->Dr 0 s.ts 25 b (AZ (ts.take q))->Yc R 0 0 0 (.ptr 1 0) (.ptr 2 0) a (AB ts.length) (AB q) s (QP Post):=by
 have Uv:=BQ ts;intro j
 induction j with
 | zero=>
  intro q s b hi h1 h2 hb;refine vZ (Ai ?_);rw[Aw (by omega)];refine Aq (AKI (Ae h2 rfl (CG h1 rfl rfl (by decide) (AI _) (by simp[hb.A1.ok]) (.inl (AI _)) (Ae (Bf h1) rfl ?_))));rw[CL (by omega)] at hb;obtain⟨r,h3,h4⟩:=BV.closed (v:=.mk k n i ts) ⟨b,rfl,hb.A1⟩ (s.bs.set 1 [AB k,SS n,AB i,b]) 0;exact⟨r,h3,hP r h4⟩
 | succ j D7=>
  intro q s b hi h1 h2 hb;refine vZ (Ai ?_);rw[Ap (by omega)];obtain⟨t,ht⟩:∃t,ts[q]?=some t:=⟨_,Ak (by omega)⟩;refine BH (AKJ (BK ha (row:=Ag t) (by omega) (by grind[BG]) (Af t) (by omega) (Cd ?_)));have hm:=ih t (A5 ht);have hro:((Ag t).map AV.pv).all BE=true:=DW t;have hrl:((Ag t).map AV.pv).length=4:=by grind[Af]
  generalize (Ag t).map AV.pv=row at hm hro hrl;obtain⟨bs,tk⟩:=s;simp only[Cl] at *;have l1:=(BL.1 h1).1;have l2:=(BL.1 h2).1;refine CG (Az bs Z4) hrl rfl (by decide) (AI _) hro (.inl (AI _)) ?_;have e:(bs++[Z4]).set bs.length row=bs++[row]:=by simp
  rw[e];have g1:=Av h1 row;have g2:=Av h2 row;refine AK (AP g2) (AU g2 rfl (Ae (Az bs row) hrl (AD hm ?_)));intro v hv;refine FR hv.G6 ⟨by decide,Yb hb rfl (by grind) ?_⟩;intro b' HP hb';have hqt:ts.take q++[t]=ts.take (q+1):=by grind[List.take_add_one]
  rw[hqt] at hb';refine AK (AP g2) (DG g2 (by simp) hb'.A1.cells (AI _) hb'.A1.ok (.inl (AI _)) ?_);refine⟨AK (AP g2) (EP _ _),AU g2 rfl (HK hb),AKK (Ba (by omega) (by omega) ?_)⟩;have:=D7 (q+1) ⟨(bs++[row]).set 2 [AB k,SS n,AB i,b'],HP⟩ b' (by omega) (BS g1 (by decide)) (Bf g2) hb'
  grind
mutual
theorem Tm:∀(t:Ty),size t<2 ^ 38->∀(x:AV),A7 t x->AM (env R) 146 [x] λr=>A7 t r
 | .mk k n i ts,h,x,hx=>by
  obtain⟨a,rfl,ha⟩:=hx;simp only[size] at h;have ih:=RE ts (by omega);refine AWL (u0:=.agg [AB k,SS n,AB i,a]) (by simp[ha.close]) (AKL ?_);refine Bu rfl (by simp[ha.ok]) (Bq (Ae rfl rfl (Bq (CG (old:=Z4) rfl rfl rfl (by decide) (AI _) (by simp[ha.ok]) (.inl (AI _)) ?_))));refine AK rfl (DG (off:=3) rfl (Ac 4) rfl (AI _) rfl (.inl (AI _)) (AK rfl (AU rfl rfl (Al (n:=ts.length) (by rw[ha.A9,AQ]) ?_))));exact gJ ha (by omega) ih (λr hr=>hr) ts.length 0 _ (.AA []) (by omega) rfl rfl (.inl rfl)
theorem RE:∀(l:List Ty),AY l<2 ^ 38->∀t∈l,AM (env R) 146 [.agg ((Ag t).map .pv)] λr=>A7 t r
 | [],_,_,h=>by cases h
 | e::l,h,t,hm=>by
  simp only[AY] at h;rcases A6.1 hm with h' | h'
  .rw[h']
   exact Tm e (by omega) _ (A7.BZ e)
  .exact RE l (by omega) t h'
end
end
theorem AC7 {L:A3} {s:AL} {a:AV} {es:List Ty} {t:Ty} {K:AV->AL->Prop} (ha:Dr L.rt s.ts 25 a (AZ es)) (hle:L.rt<=s.ts.length) (hl:es.length<2 ^ 38) (h:∀a' ts',Dr L.rt ts' 25 a' (AZ (es++[t]))->L.rt<=ts'.length->K a' ⟨s.bs,ts'⟩) :
  Cx false L s 25 4 56 a (.AA [Ag t]) K:=by
 have hl':(AZ es).length=es.length:=AQ es;have rD:(s.ts.take L.rt).length=L.rt:=by grind
 have e:s.ts.take L.rt++s.ts.drop L.rt=s.ts:=List.take_append_drop _ _;have:=O8 (L:=L) (bs:=s.bs) (ts:=s.ts.take L.rt) (x:=s.ts.drop L.rt) (e:=25) (k:=4) (bytes:=56) (a:=a) (rows:=AZ es) (row:=Ag t) (K:=K) (by grind) (by omega) (λr hr=>Gy hr) (Af t) (by omega) (DW t) (by omega) (by omega) (by grind[GJ,AZ])
 simp_all
theorem Nr {m:Nat} {ts:List (Nat×Nat)} {k:Nat} {a:AV} {rows:List (List PV)} (h:Dr m ts k a rows) (bs:List (List AV)) (n:Nat):∃a',close bs n m a=some a'/\Ao a' rows:=by
 rcases h with rfl|⟨t,rfl,_,h2⟩
 .simp[*,Ao.AA]
 .have:¬ t<m:=by omega
  exact⟨.pv (.list rows),by grind[close],.list _⟩
theorem MK (t:Ty):Tel.Bl (.agg ((Ag t).map .pv)) (.agg ((Ag t).map .pv))=true:=by
 cases t
 grind[Ag,Tel.Bl,IM,NA,GF,Ir,DQ]
theorem BM.set {s:AL} (h:BM s) {j:Nat} {c:List AV} (hc:Ah s.bs.length c=true) (ts:List (Nat×Nat)):BM ⟨s.bs.set j c,ts⟩:=by
 intro b hb;simp only[Rp];rcases jY hb with hb|rfl
 .exact h b hb
 omega
mutual
def eE:Ty->Bool
 | .mk k _ i ts=>(!(k==5)||(ts.isEmpty&&decide (-(2 ^ 60)<=i)&&decide (i<2 ^ 60)))&&bN ts
def bN:List Ty->Bool
 | []=>true
 | t::l=>eE t&&bN l
end
abbrev APR (p:Nat):AV:=.func (.func 122) [] [.ptr p 0]
section
variable {R:RT}
theorem AKM (i u:Int) (hu:0<=u) (hi:i<2 ^ 60) (p:Nat) {s:AL} (hs:BM s) (hp:p<s.bs.length) (L:A3) :
  BA (env R) L 122 [AB i,AB u,.ptr p 0] s (.tuple [bif i==u then .ptr p 0 else .pv (.sc (.pointer none)),AB (bif i==u then 0 else bif decide (u<i) then i-1 else i)]) s:=by
 have fin:∀(rr:Bool) (x:AV) (n:Int),(x=.ptr p 0\/x=.pv (.sc (.pointer none)))->QM rr s.bs.length (λv s'=>v=.tuple [x,AB n]/\s'=s) (.tuple [x,AB n]) s:=by
  intro rr x n hx;have e:s.bs.take s.bs.length=s.bs:=OE;refine JU (ds:=[x,AB n]) ?_ ?_ ?_
  .rw[e,C2]
   exact hs
  .grind[AX,close]
  simp
 obtain⟨v,s',⟨rfl,rfl⟩,hc⟩:=AWM (R:=R) (L:=L) (s:=s) (t0:=AB i) (t1:=AB u) (t2:=.ptr p 0) (Post:=λv s'=>v=.tuple [bif i==u then .ptr p 0 else .pv (.sc (.pointer none)),AB (bif i==u then 0 else bif decide (u<i) then i-1 else i)]/\s'=s) (by rfl) (AKN (Ay (by
  cases he:(i==u) with
  | true=>simp[*]
  | false=>
   refine Aq (Gk ?_)
   by_cases hlt:u<i
   .have:i>u:=hlt
    rw[Ap this];exact BH (QJ (by omega) (by omega) (fin _ _ _ (.inr rfl)))
   .have:¬ i>u:=hlt
    rw[Aw this];exact Aq (AKO (fin _ _ _ (.inr rfl))))))
 omega
theorem HL (k:Int) (n:List UInt8) (i:Int) (ts:List Ty) (h:k≠7):ren (.mk k n i ts)=.mk k n i (Bz ts):=by grind[ren]
theorem ve {p:Nat} {cp:List AV} {fn:AV} {ts ls:List Ty} {a:AV} (ha:Ao a (AZ ts)) (hl:ts.length<2 ^ 38) (SA:ls.length=ts.length) {k i:Int} {n:List UInt8} {u:Nat} (hu:u<2 ^ 60)
  {s0:AL} (hs0:BM s0) (hp:s0.bs[p]?=some cp)
  (ih:∀(q:Nat) (t l:Ty),ts[q]?=some t->ls[q]?=some l->∀s,BM s->s.bs[p]?=some cp->∃r,A7 l r/\∀L,BA (env R) L 121 [.agg ((Ag t).map .pv),AB (u+Ec k q:Nat),fn] s r s)
  {i':Int} {Post:AV->Prop} (hP:∀r,A7 (.mk k n i' ls) r->Post r) :
  ∀(j q:Nat) (s:AL) (b:AV),q+j=ts.length->BM s->s.bs[p]?=some cp->s.bs[s0.bs.length]?=some [AB k,SS n,AB i,a]->s.bs[s0.bs.length+1]?=some Z4->s.bs[s0.bs.length+2]?=some [AB k,SS n,AB i',b] ->
   Dr s0.ts.length s.ts 25 b (AZ (ls.take q))->s0.ts.length<=s.ts.length ->
   Yd R s0.bs.length s0.bs.length s0.ts.length (AB u) fn (.ptr s0.bs.length 0) (.ptr (s0.bs.length+1) 0) (.ptr (s0.bs.length+2) 0) a (AB ts.length) (AB q) s (QI s0.bs.length s0.ts.length Post):=by
 intro j
 induction j with
 | zero=>
  intro q s b hi hs h0 h1 h2 h3 hb hle;refine vg (Ai ?_);rw[Aw (by omega)];refine Aq (AKP (Ae h3 rfl (CG h2 rfl rfl (by decide) (by simp) (by simp[hb.A1.ok]) (.inl (by simp)) (Ae (Bf h2) rfl ?_))));rw[CL (by omega)] at hb;obtain⟨b',c1,c2⟩:=Nr hb (s.bs.set (s0.bs.length+1) [AB k,SS n,AB i',b]) s0.bs.length;exact⟨.agg [AB k,SS n,AB i',b'],by simp[c1],hP _ ⟨b',rfl,c2⟩⟩
 | succ j D7=>
  intro q s b hi hs h0 h1 h2 h3 hb hle;refine vg (Ai ?_);rw[Ap (by omega)];obtain⟨t,ht⟩:∃t,ts[q]?=some t:=⟨_,Ak (by omega)⟩;obtain⟨l,hlq⟩:∃l,ls[q]?=some l:=⟨_,Ak (by omega)⟩;have hrl:((Ag t).map AV.pv).length=4:=by grind[Af]
  have hro:=DW t
  have Lp:Ah (s.bs.length+1) ((Ag t).map AV.pv)=true:=by
   obtain⟨k1,n1,i1,t1⟩:=t;rfl
  refine BH (AKQ (BK ha (row:=Ag t) (by omega) (by simp[*,BG]) (Af _) (by omega) (Cd (Bq ?_))));have gK:=ih q t l ht hlq;have Le:=MK t;generalize (Ag t).map AV.pv=row at hrl hro Lp gK Le;obtain⟨bs,tk⟩:=s;have l3:=(BL.1 h3).1;simp only at *;refine CG (Az bs Z4) hrl rfl (by decide) (by simp[Dh]; omega) hro (.inl (by simp[Dh]; omega)) ?_;have e:(bs++[Z4]).set bs.length row=bs++[row]:=by simp
  rw[e];have g0:=Av h0 row;have g1:=Av h1 row;have g2:=Av h2 row;have g3:=Av h3 row;have hs':BM ⟨bs++[row],tk⟩:=BM.app (s:=⟨bs,tk⟩) hs Lp;have hbn:=P3 k q;have YA:AM (env R) 119 [.agg [AB k,SS n,AB i,a],AB q] λr=>r=AB (Ec k q):=LK ha q
  obtain⟨r,R3,P0⟩:=gK ⟨bs++[row],tk⟩ hs' g0;refine AK (AP g3) (AU g3 rfl (Ae (Az bs row) hrl (Ae g1 rfl (AD YA ?_))));rintro _ rfl;refine Ba (by omega) (by omega) ?_;have e1:((u:Int)+(Ec k q:Nat))=((u+Ec k q:Nat):Int):=by omega
  rw[e1];refine⟨r,_,P0 _,FR R3.G6 ⟨by decide,AC7 hb hle (by grind) ?_⟩⟩;intro b' HP hb' hle';have er:ls.take q++[l]=ls.take (q+1):=by grind[List.take_add_one]
  rw[er] at hb';refine AK (AP g3) (DG g3 (by simp) hb'.A1.cells (by simp) hb'.A1.ok (.inl (by simp)) ?_);refine⟨AK (AP g3) (EP _ _),AK (AP g3) (EP _ _),AU g3 rfl (HK hb),AU g3 rfl (HK hb),Ae (Az bs row) hrl Le,AKR (Ba (by omega) (by omega) ?_)⟩;have lp:=(BL.1 hp).1;have:=D7 (q+1) ⟨(bs++[row]).set (s0.bs.length+2) [AB k,SS n,AB i',b'],HP⟩ b' (by omega) ?_ ?_ (BS g1 (by omega)) (BS g2 (by omega)) (Bf g3) hb' hle'
  .grind
  .exact BM.set (s:=⟨bs++[row],tk⟩) hs' (by simp[Ah,Ar,hb'.A1.Ar]) _
  grind[BS]
end
theorem Tn {k i:Int} {n:List UInt8} {ts:List Ty} (h:valid (.mk k n i ts)=true):(n.head?==some 36)=false/\n.length<2 ^ 40:=by
 simp only[valid,AG] at h;have nil:n=[]->(n.head?==some 36)=false/\n.length<2 ^ 40:=by grind
 rcases NL h.1 with ⟨_,h2,_⟩|⟨_,h2,_⟩|rfl|⟨_,h2,_⟩|⟨_,h2,_⟩|⟨_,h2,_⟩|⟨_,h2,_⟩
 .grind
 .grind
 .have h1:=h.1
  simp[root,shape] at h1;obtain⟨_,⟨⟨h3,_⟩,_⟩,_⟩:=h1;unfold M5 at h3;simp only[AG,Dc] at h3;refine⟨?_,by omega⟩;rcases n with _|⟨c,w⟩
  .rfl
  .have h4:=h3.1.2
   simp only at h4;rw[OH];intro h5;have h5:c=36:=by grind
   rw[h5] at h4;exact absurd h4 (by decide)
 all_goals grind
theorem QL {n:List UInt8} {i:Int} {ts:List Ty} (h:valid (.mk 5 n i ts)=true):i<=200:=by grind[valid,root,shape]
theorem Dt (σ:List Nat) (u:Nat) {k i:Int} {n:List UInt8} {ts:List Ty} (hv:valid (.mk k n i ts)=true):(k=5/\n=[]/\ts=[]/\0<=i/\i<=200/\((∃v∈σ,inst σ u (.mk k n i ts)=ph v)\/inst σ u (.mk k n i ts)=.mk 5 [] i []))\/((k==5)=false/\inst σ u (.mk k n i ts)=.mk k n i (Db σ u k 0 ts)):=by
 by_cases h5:k=5
 .subst h5
  obtain⟨rfl,rfl,h0⟩:=I2 hv;refine .inl ⟨rfl,rfl,rfl,h0,QL hv,?_⟩
  grind[inst]
 grind[inst]
mutual
theorem JV {q:Int->Bool} {σ:List Nat} (hσ:∀x∈σ,q x=true):∀(t:Ty) (u:Nat),valid t=true->Eu q (inst σ u t)=true
 | .mk k n i ts,u,hv=>by
  rcases Dt σ u hv with ⟨rfl,rfl,rfl,h0,h1,⟨v,h2,h3⟩|h3⟩|⟨b5,h3⟩
  .grind[Eu]
  .grind[Eu,D2]
  .have h7:(k==7)=false:=by grind[JO]
   have hn:=Tn hv;simp only[valid,AG] at hv;rw[h3,Eu,h7,WQ hσ ts u k 0 hv.2]
   grind
theorem WQ {q:Int->Bool} {σ:List Nat} (hσ:∀x∈σ,q x=true):∀(l:List Ty) (u:Nat) (k:Int) (j:Nat),BT l=true->D2 q (Db σ u k j l)=true
 | [],_,_,_,_=>rfl
 | t::l,u,k,j,hv=>by
  simp only[BT,AG] at hv;rw[Db,D2,JV hσ t _ hv.1,WQ hσ l u k (j+1) hv.2];rfl
end
mutual
theorem Tp (σ:List Nat):∀(t:Ty) (u:Nat),valid t=true->eE (inst σ u t)=true
 | .mk k n i ts,u,hv=>by
  rcases Dt σ u hv with ⟨rfl,rfl,rfl,h0,h1,⟨v,h2,h3⟩|h3⟩|⟨b5,h3⟩
  .rw[h3]
   rfl
  .rw[h3,eE]
   have e1:decide (-(2 ^ 60)<=i)=true:=Ap (by omega);have e2:decide (i<2 ^ 60)=true:=Ap (by omega);rw[e1,e2];rfl
  .simp only[valid,AG] at hv
   rw[h3,eE,b5,WR σ ts u k 0 hv.2];rfl
theorem WR (σ:List Nat):∀(l:List Ty) (u:Nat) (k:Int) (j:Nat),BT l=true->bN (Db σ u k j l)=true
 | [],_,_,_,_=>rfl
 | t::l,u,k,j,hv=>by
  simp only[BT,AG] at hv;rw[Db,bN,Tp σ t _ hv.1,WR σ l u k (j+1) hv.2];rfl
end
mutual
theorem kW (σ:List Nat):∀(t:Ty) (u:Nat),valid t=true->cv (inst σ u t)=cv t
 | .mk k n i ts,u,hv=>by
  rcases Dt σ u hv with ⟨rfl,rfl,rfl,h0,h1,⟨v,h2,h3⟩|h3⟩|⟨b5,h3⟩
  .rw[h3]
   rfl
  .rw[h3]
  .simp only[valid,AG] at hv
   rw[h3,cv,cv,Tq σ ts u k 0 hv.2]
theorem Tq (σ:List Nat):∀(l:List Ty) (u:Nat) (k:Int) (j:Nat),BT l=true->OA (Db σ u k j l)=OA l
 | [],_,_,_,_=>rfl
 | t::l,u,k,j,hv=>by
  simp only[BT,AG] at hv;rw[Db,OA,OA,kW σ t _ hv.1,Tq σ l u k (j+1) hv.2]
end
mutual
theorem Ko (σ:List Nat):∀(t:Ty) (u:Nat),valid t=true->size (inst σ u t)=size t/\depth (inst σ u t)=depth t/\wt (inst σ u t)=wt t/\inp (inst σ u t)=true
 | .mk k n i ts,u,hv=>by
  rcases Dt σ u hv with ⟨rfl,rfl,rfl,h0,h1,⟨v,h2,h3⟩|h3⟩|⟨b5,h3⟩
  .rw[h3]
   exact⟨rfl,rfl,rfl,rfl⟩
  .rw[h3]
   exact⟨rfl,rfl,rfl,rfl⟩
  .have rF:=hv
   simp only[valid,AG] at hv;obtain⟨e1,e2,e3,e4⟩:=Tr σ ts u k 0 hv.2;rw[h3];refine⟨by grind[size],by grind[depth],by grind[wt,Tq],?_⟩;rw[inp,e4];cases b0:(k==0) with
   | false=>simp
   | true=>
    have:k=0:=by grind
    subst this;rcases NL hv.1 with ⟨_,_,_,rfl⟩|h|h|h|h|h|h
    .rfl
    all_goals omega
theorem Tr (σ:List Nat):∀(l:List Ty) (u:Nat) (k:Int) (j:Nat),BT l=true->AY (Db σ u k j l)=AY l/\FN (Db σ u k j l)=FN l/\oa (Db σ u k j l)=oa l/\Td (Db σ u k j l)=true
 | [],_,_,_,_=>⟨rfl,rfl,rfl,rfl⟩
 | t::l,u,k,j,hv=>by
  simp only[BT,AG] at hv;obtain⟨e1,e2,e3,e4⟩:=Ko σ t (u+Ec k j) hv.1;obtain⟨f1,f2,f3,f4⟩:=Tr σ l u k (j+1) hv.2
  grind[Db,AY,FN,oa,Td]
end
mutual
theorem Mq:∀(t:Ty),valid t=true->ren t=t
 | .mk k n i ts,hv=>by
  have h7:(k==7)=false:=by grind[JO]
  simp only[valid,AG] at hv;rw[ren,h7,Ts ts hv.2];rfl
theorem Ts:∀(l:List Ty),BT l=true->Bz l=l
 | [],_=>rfl
 | t::l,hv=>by
  simp only[BT,AG] at hv;rw[Bz,Mq t hv.1,Ts l hv.2]
end
theorem ER {t:Ty} (hv:valid t=true) (hc:Cv 0 t=true):inst [] 0 t=t:=Iu [] t 0 hv hc
section
variable {R:RT}
theorem kX {s:AL} {m:Option Nat} {K:AV->Prop} (h:K (BB false)):bO s (RQ (.pv (.sc (.pointer none)))) m .neq (.pv (.sc (.pointer none))) (.pv (.sc (.pointer none))) K:=by assumption
theorem AC8 {s:AL} {n:Option Nat} {id off:Nat} {K:AV->Prop} (ha:alive s id=true) (h:K (BB true)):bO s n (some 0) .neq (.ptr id off) (.pv (.sc (.pointer none))) K:=by
 simp only[bO,Tt,Gd];refine⟨?_,h⟩
 simp_all[sameKind,D4]
def GK (s:AL) (c d:List AV):AL:=⟨s.bs++[c]++[Z4]++[d],s.ts⟩
theorem ID {s:AL} {c d:List AV}:(GK s c d).bs[s.bs.length]?=some c/\(GK s c d).bs[s.bs.length+1]?=some Z4/\(GK s c d).bs[s.bs.length+2]?=some d:=by simp[*,GK]
theorem Tu {s:AL} {c d:List AV} {p:Nat} {x:List AV} (h:s.bs[p]?=some x):(GK s c d).bs[p]?=some x:=Av (Av (Av h _) _) _
theorem SB {s:AL} (hs:BM s) {c d:List AV} (hc:Ah 0 c=true) (hd:Ah 0 d=true):BM (GK s c d):=by
 intro b hb;simp only[GK,B9,E5] at hb;rcases hb with ((hb|rfl)|rfl)|rfl
 .exact Bn (by simp[GK]) b (hs b hb)
 .exact Bn (by simp) _ hc
 .rfl
 .exact Bn (by simp) _ hd
theorem Kq {s:AL} {u:Nat} {fn:AV} (hfn:close [] 0 0 fn=none) {k' i':Int} {n':List UInt8} {a:AV} {rows:List (List PV)} {Post:AV->Prop} (ha:Ao a rows)
  (hh:AO (BB (k'==5)) (
   Ax (GK s [AB k',SS n',AB i',a] [AB k',SS n',AB i',.AA []]) (.ptr s.bs.length 0) 2 λa19=>
   FC (env R) (GK s [AB k',SS n',AB i',a] [AB k',SS n',AB i',.AA []]) none a19 λa20=>
   GM (env R) (Dh (env R) 121 s.bs.length s.bs.length s.ts.length) (fn) [a20,AB u] (GK s [AB k',SS n',AB i',a] [AB k',SS n',AB i',.AA []]) λa22 Tv=>
   DF a22 0 λa23=>
   DF a22 1 λa24=>
   bO Tv (RQ a23) (some 0) .neq a23 (.pv (.sc (.pointer none))) λa26=>
   AO a26 (
   Cz Tv a23 λa28=>
   FC (env R) Tv (some 4) a28 λa29=>
   GM (env R) (Dh (env R) 121 s.bs.length s.bs.length s.ts.length) (.func (.func 146) [] []) [a29] Tv λa30 ou=>
   Ci (Dh (env R) 121 s.bs.length s.bs.length s.ts.length) ou 4 (.ptr (s.bs.length+1) 0) a30 λot=>
   FC (env R) ot (some 4) (.ptr (s.bs.length+1) 0) λr=>
   QI s.bs.length s.ts.length Post r ot) (
   Ye R s.bs.length s.bs.length s.ts.length (AB u) (fn) (.ptr s.bs.length 0) (.ptr (s.bs.length+1) 0) (.ptr (s.bs.length+2) 0) a24 Tv (QI s.bs.length s.ts.length Post))) (
   QN R s.bs.length s.bs.length s.ts.length (AB u) (fn) (.ptr s.bs.length 0) (.ptr (s.bs.length+1) 0) (.ptr (s.bs.length+2) 0) (GK s [AB k',SS n',AB i',a] [AB k',SS n',AB i',.AA []]) (QI s.bs.length s.ts.length Post))) :
  ∃r,Post r/\∀L,BA (env R) L 121 [.agg [AB k',SS n',AB i',a],AB u,fn] s r s:=by
 refine i121 (by simp[*]) (AKS ?_);refine Bu (cs:=[AB k',SS n',AB i',a]) rfl (by simp[ha.ok]) (Bq ?_);refine Ae (cs:=[AB k',SS n',AB i',a]) (Av (Az _ _) _) rfl (Bq ?_);refine CG (old:=Z4) (Az _ _) rfl rfl (by decide) (by simp) (by simp[ha.ok]) (.inl (by simp)) ?_;have e:((s.bs++[[AB k',SS n',AB i',a]]++[Z4]++[Z4]).set (s.bs++[[AB k',SS n',AB i',a]]++[Z4]).length [AB k',SS n',AB i',a])=(GK s [AB k',SS n',AB i',a] [AB k',SS n',AB i',a]).bs:=by grind[GK]
 have l1:(s.bs++[[AB k',SS n',AB i',a]]++[Z4]).length=s.bs.length+2:=by simp
 have l2:(s.bs++[[AB k',SS n',AB i',a]]).length=s.bs.length+1:=by simp
 simp only at e l1 l2 ⊢;rw[e];simp only[l1,l2];obtain⟨g0,g1,g2⟩:=ID (s:=s) (c:=[AB k',SS n',AB i',a]) (d:=[AB k',SS n',AB i',a]);refine AK (AP g2) (DG (off:=3) g2 (Ac 4) rfl (by simp) rfl (.inl (by simp)) ?_);have e2:(GK s [AB k',SS n',AB i',a] [AB k',SS n',AB i',a]).bs.set (s.bs.length+2) ([AB k',SS n',AB i',a].set 3 (.AA []))=(GK s [AB k',SS n',AB i',a] [AB k',SS n',AB i',.AA []]).bs:=by simp[*,GK]
 show Ax ⟨(GK s [AB k',SS n',AB i',a] [AB k',SS n',AB i',a]).bs.set (s.bs.length+2) ([AB k',SS n',AB i',a].set 3 (.AA [])),s.ts⟩ _ _ _
 rw[e2];obtain⟨g0,g1,g2⟩:=ID (s:=s) (c:=[AB k',SS n',AB i',a]) (d:=[AB k',SS n',AB i',.AA []]);exact AK (AP g0) (AU g0 rfl (Ay hh))
theorem O9 {s:AL} {p:Nat} {cp:List AV} {fn:AV} {ts ls:List Ty} {a:AV} (ha:Ao a (AZ ts)) (hl:ts.length<2 ^ 38) (SA:ls.length=ts.length) {k i0 i':Int} {n:List UInt8} {u:Nat} (hu:u<2 ^ 60) (hs:BM s) (hp:s.bs[p]?=some cp)
  (ih:∀(q:Nat) (t l:Ty),ts[q]?=some t->ls[q]?=some l->∀s,BM s->s.bs[p]?=some cp->∃r,A7 l r/\∀L,BA (env R) L 121 [.agg ((Ag t).map .pv),AB (u+Ec k q:Nat),fn] s r s)
  {Post:AV->Prop} (hP:∀r,A7 (.mk k n i' ls) r->Post r) :
  QN R s.bs.length s.bs.length s.ts.length (AB u) fn (.ptr s.bs.length 0) (.ptr (s.bs.length+1) 0) (.ptr (s.bs.length+2) 0) (GK s [AB k,SS n,AB i0,a] [AB k,SS n,AB i',.AA []]) (QI s.bs.length s.ts.length Post):=by
 obtain⟨g0,g1,g2⟩:=ID (s:=s) (c:=[AB k,SS n,AB i0,a]) (d:=[AB k,SS n,AB i',.AA []]);exact AKT (AK (AP g0) (AU g0 rfl (Al (n:=ts.length) (by rw[ha.A9,AQ]) (ve ha hl SA hu hs hp ih hP ts.length 0 _ (.AA []) (by omega) (SB hs (by simp[Ah,Ar,ha.Ar]) (by rfl)) (Tu hp) g0 g1 g2 (.inl rfl) (Ac _)))))
theorem vh {s:AL} {fn:AV} {u:Nat} {n:List UInt8} {i i':Int} {a:AV} (ha:Ao a []) (hu:u<2 ^ 60) (hs:BM s) {p:Nat} {cp:List AV} (hp:s.bs[p]?=some cp) {Post:AV->Prop} (hP:∀r,A7 (.mk 5 n i' []) r->Post r) :
  Ye R s.bs.length s.bs.length s.ts.length (AB u) fn (.ptr s.bs.length 0) (.ptr (s.bs.length+1) 0) (.ptr (s.bs.length+2) 0) (AB i') (GK s [AB 5,SS n,AB i,a] [AB 5,SS n,AB i,.AA []]) (QI s.bs.length s.ts.length Post):=by
 obtain⟨g0,g1,g2⟩:=ID (s:=s) (c:=[AB 5,SS n,AB i,a]) (d:=[AB 5,SS n,AB i,.AA []]);refine AKU (AK (AP g2) (DG g2 (by simp) rfl (by simp) rfl (.inl (by simp)) ?_));have e3:(GK s [AB 5,SS n,AB i,a] [AB 5,SS n,AB i,.AA []]).bs.set (s.bs.length+2) ([AB 5,SS n,AB i,.AA []].set 2 (AB i'))=(GK s [AB 5,SS n,AB i,a] [AB 5,SS n,AB i',.AA []]).bs:=by simp[*,GK]
 show QN R _ _ _ _ _ _ _ _ ⟨(GK s [AB 5,SS n,AB i,a] [AB 5,SS n,AB i,.AA []]).bs.set (s.bs.length+2) ([AB 5,SS n,AB i,.AA []].set 2 (AB i')),s.ts⟩ _
 rw[e3];exact O9 (ts:=[]) (ls:=[]) ha (by simp) rfl hu hs hp (by simp) hP
theorem kY {v u:Nat} {k:Int}:∀(ts:List Ty) (b q:Nat) (l:Ty),(Bz (KE v u k b ts))[q]?=some l->∃t,ts[q]?=some t/\(Bz ts)[q]?=some (ren t)/\l=ren (sub v (u+Ec k (b+q)) t)
 | [],_,_,_,h=>by grind[KE,Bz]
 | t::ts,b,0,l,h=>by grind[KE,Bz]
 | t::ts,b,q+1,l,h=>by
  simp only[KE,Bz,Ig] at h ⊢;obtain⟨t',h1,h2,h3⟩:=kY ts (b+1) q l h
  grind
theorem bP {v u:Nat} {k:Int}:∀(ts:List Ty) (b:Nat),(Bz (KE v u k b ts)).length=(Bz ts).length
 | [],_=>rfl
 | t::ts,b=>by simp[KE,Bz,bP ts (b+1)]
mutual
theorem bQ {N v p:Nat}:∀(t:Ty),size t<2 ^ 38->Hp N t=true->eE t=true->∀(u:Nat),u+size t<2 ^ 60->∀(x:AV),A7 (ren t) x->∀(s:AL),BM s->s.bs[p]?=some [AB 2,SS (36::G5 v),AB 0,.AA []] ->
  ∃r,A7 (ren (sub v u t)) r/\∀L,BA (env R) L 121 [x,AB u,APR p] s r s
 | .mk k n i ts,h,ht,VJ,u,hu,x,hx,s,hs,hp=>by
  have Kc:=(BL.1 hp).1;simp only[size] at h hu;rw[Hp] at ht;rw[eE] at VJ
  by_cases h7:k=7
  .subst h7
   simp only[DL,AN,AG,Jk] at ht;have hts:=ht.1;subst hts;have er:ren (.mk 7 n i [])=.mk 2 (36::G5 i.toNat) 0 []:=rfl;have es:ren (sub v u (.mk 7 n i []))=.mk 2 (36::G5 i.toNat) 0 []:=rfl;rw[er] at hx;rw[es];obtain⟨a,rfl,ha⟩:=hx;exact Kq rfl ha (Aq (O9 (ts:=[]) (ls:=[]) ha (by simp) rfl (by omega) hs hp (by simp) λr hr=>hr))
  .have er:=HL k n i ts h7
   rw[er] at hx;obtain⟨a,rfl,ha⟩:=hx
   by_cases h5:k=5
   .subst h5
    simp only[DL,MY,Ge,AG,Jk] at VJ;have hts:=VJ.1.1.1;have hi:i<2 ^ 60:=by grind
    subst hts;refine Kq rfl ha (BH ?_);obtain⟨g0,g1,g2⟩:=ID (s:=s) (c:=[AB 5,SS n,AB i,a]) (d:=[AB 5,SS n,AB i,.AA []]);have hok:BM (GK s [AB 5,SS n,AB i,a] [AB 5,SS n,AB i,.AA []]):=SB hs (by simp[Ah,Ar,ha.Ar]) (by rfl);have gp:=Tu (c:=[AB 5,SS n,AB i,a]) (d:=[AB 5,SS n,AB i,.AA []]) hp;refine AK (AP g0) (AU g0 rfl ?_);refine⟨_,_,AKM i u (by omega) hi p hok (by grind) _,CB rfl (CB rfl ?_)⟩;have VK:sub v u (.mk 5 n i [])=bif i==(u:Int) then ph v else bif decide ((u:Int)<i) then .mk 5 n (i-1) [] else .mk 5 n i []:=by rfl
    rw[VK];cases he:(i==(u:Int)) with
    | true=>
     simp only[AN];refine AC8 (AP gp) (BH (C1 (AP gp) (Ae gp rfl ?_)));have hc:=Tm (R:=R) (ren (ph v)) (by assumption) (.agg [AB 2,SS (36::G5 v),AB 0,.AA []]) ⟨_,rfl,.AA _⟩;refine AD hc ?_;rintro w ⟨b,rfl,hb⟩;refine CG g1 rfl rfl (by decide) (by simp) (by simp[hb.ok]) (.inl (by simp)) (Ae (Bf g1) rfl ?_);exact⟨.agg [AB 2,SS (36::G5 v),AB 0,b],by simp[hb.close],⟨b,rfl,hb⟩⟩
    | false=>
     simp only[AH];refine kX (Aq (vh ha (by omega) hs hp λr hr=>?_));cases hd:decide ((u:Int)<i) with
     | true=>rw[hd] at hr; exact hr
     | false=>rw[hd] at hr; exact hr
   .have b5:(k==5)=false:=by grind
    have b7:(k==7)=false:=by grind
    have es:ren (sub v u (.mk k n i ts))=.mk k n i (Bz (KE v u k 0 ts)):=by grind[sub,HL]
    rw[es];refine Kq rfl ha ?_;rw[b5];rw[b7] at ht;simp only[AH,AG] at ht VJ;have Uv:=BQ ts;refine Aq (O9 ha (by grind[Bk]) (bP ts 0) (by omega) hs hp ?_ λr hr=>hr);intro q t l hq hlq s' hs' hp';obtain⟨t',h1,h2,h3⟩:=kY ts 0 q l hlq;rw[h2] at hq;cases hq;rw[h3];have hbn:=P3 k q;rw[CP];exact WS ts (by omega) ht.2.2 VJ.2 (u+Ec k q) (by omega) t' (A5 h1) s' hs' hp'
theorem WS {N v p:Nat}:∀(l:List Ty),AY l<2 ^ 38->IZ N l=true->bN l=true->∀(u:Nat),u+AY l<2 ^ 60->∀t∈l,∀(s:AL),BM s->s.bs[p]?=some [AB 2,SS (36::G5 v),AB 0,.AA []] ->
  ∃r,A7 (ren (sub v u t)) r/\∀L,BA (env R) L 121 [.agg ((Ag (ren t)).map .pv),AB u,APR p] s r s
 | [],_,_,_,_,_,_,h=>by cases h
 | e::l,h,ht,VJ,u,hu,t,hm=>by
  simp only[AY] at h hu;simp only[IZ,AG] at ht;simp only[bN,AG] at VJ;rcases A6.1 hm with h' | h'
  .rw[h']
   exact bQ e (by omega) ht.1 VJ.1 u (by omega) _ (A7.BZ _)
  .exact WS l (by omega) ht.2 VJ.2 u (by omega) t h'
end
theorem RR {N v:Nat} {t:Ty} (h:size t<2 ^ 38) (ht:Hp N t=true) (hv:eE t=true) {x:AV} (hx:A7 (ren t) x):AM (env R) 89 [x,phA v] λr=>A7 (ren (sub v 0 t)) r:=by
 obtain⟨k',n',i',ts',hr⟩:∃k n i ts,ren t=.mk k n i ts:=by
  obtain⟨k,n,i,ts⟩:=ren t;exact⟨k,n,i,ts,rfl⟩
 have hx':=hx;rw[hr] at hx;obtain⟨a,rfl,ha⟩:=hx;refine e89 (u0:=.agg [AB k',SS n',AB i',a]) (u1:=phA v) (by simp[ha.close,AX,close]) (APT ?_);refine Bu (cs:=[AB k',SS n',AB i',a]) rfl (by simp[ha.ok]) (Bu (cs:=[AB 2,SS (36::G5 v),AB 0,.AA []]) rfl (by simp) (Bq (Ae (cs:=[AB k',SS n',AB i',a]) rfl rfl ?_)))
 have hs:BM ⟨[[AB k',SS n',AB i',a],[AB 2,SS (36::G5 v),AB 0,.AA []],Z4],[]⟩:=by
  intro b hb;simp only[A6,FZ,Fa] at hb;rcases hb with rfl|rfl|rfl <;> simp[Ah,Ar,ha.Ar]
 obtain⟨r,h1,h2⟩:=bQ (R:=R) (v:=v) (p:=1) t h ht hv 0 (by omega) _ hx' ⟨[[AB k',SS n',AB i',a],[AB 2,SS (36::G5 v),AB 0,.AA []],Z4],[]⟩ hs rfl;refine⟨r,_,h2 _,?_⟩;have Zn:=h1
 obtain⟨k2,n2,i2,J1,P0⟩:∃k n i ts,ren (sub v 0 t)=.mk k n i ts:=by
  obtain⟨k,n,i,ts⟩:=ren (sub v 0 t);simp
 rw[P0] at h1;obtain⟨b,rfl,hb⟩:=h1;refine CG (old:=Z4) (id:=2) rfl rfl rfl (by decide) (AI _) (by simp[hb.ok]) (.inl (AI _)) (Ae (cs:=[AB k2,SS n2,AB i2,b]) rfl rfl ?_);exact⟨.agg [AB k2,SS n2,AB i2,b],by simp[hb.close],Zn⟩
end
section
variable {R:RT}
abbrev APU (p:Nat):AV:=.func (.func 134) [] [.ptr p 0]
theorem AKV (i u:Int) (h0:-(2 ^ 60)<=i) (h1:i<2 ^ 60) (h2:0<=u) (h3:u<2 ^ 60) (p:Nat) {s:AL} (hs:BM s) (hp:s.bs[p]?=some [.AA []]) (L:A3) :
  BA (env R) L 134 [AB i,AB u,.ptr p 0] s (.tuple [.pv (.sc (.pointer none)),AB i]) s:=by
 have fin:∀(rr:Bool),QM rr s.bs.length (λv s'=>v=.tuple [.pv (.sc (.pointer none)),AB i]/\s'=s) (.tuple [.pv (.sc (.pointer none)),AB i]) s:=by
  intro rr;have e:s.bs.take s.bs.length=s.bs:=OE;refine JU (ds:=[.pv (.sc (.pointer none)),AB i]) ?_ ?_ ?_
  .rw[e,C2]
   exact hs
  all_goals simp
 obtain⟨v,s',⟨rfl,rfl⟩,hc⟩:=AWS (R:=R) (L:=L) (s:=s) (t0:=AB i) (t1:=AB u) (t2:=.ptr p 0) (Post:=λv s'=>v=.tuple [.pv (.sc (.pointer none)),AB i]/\s'=s) (by rfl) (AKW (QJ (by omega) (by omega) (Nq (by
  by_cases h:i>=u
  .rw[Ap h]
   refine Am (Am (AU hp rfl (Am (Al (n:=0) rfl (Am (Ai (pk ?_)))))));rw[Aw (by omega)];exact Aq (vk (fin _))
  .rw[Aw h]
   exact Bm (Bm (Bm (Bm (pk (Aq (vk (fin _)))))))))))
 omega
mutual
theorem WT {p:Nat}:∀(t:Ty),size t<2 ^ 38->eE t=true->∀(u:Nat),u+size t<2 ^ 60->∀(x:AV),A7 t x->∀(s:AL),BM s->s.bs[p]?=some [.AA []] ->
  ∃r,A7 t r/\∀L,BA (env R) L 121 [x,AB u,APU p] s r s
 | .mk k n i ts,h,VJ,u,hu,x,hx,s,hs,hp=>by
  simp only[size] at h hu;rw[eE] at VJ;obtain⟨a,rfl,ha⟩:=hx
  by_cases h5:k=5
  .subst h5
   simp only[DL,MY,Ge,AG,Jk,Dc] at VJ;have hts:=VJ.1.1.1;subst hts;refine Kq rfl ha (BH ?_);obtain⟨g0,g1,g2⟩:=ID (s:=s) (c:=[AB 5,SS n,AB i,a]) (d:=[AB 5,SS n,AB i,.AA []]);have hok:BM (GK s [AB 5,SS n,AB i,a] [AB 5,SS n,AB i,.AA []]):=SB hs (by simp[Ah,Ar,ha.Ar]) (by rfl);exact AK (AP g0) (AU g0 rfl ⟨_,_,AKV i u VJ.1.1.2 VJ.1.2 (by omega) (by omega) p hok (Tu hp) _,CB rfl (CB rfl (kX (Aq (vh ha (by omega) hs hp λr hr=>hr))))⟩)
  .have b5:(k==5)=false:=by grind
   refine Kq rfl ha ?_;rw[b5];simp only[AG] at VJ;have Uv:=BQ ts;refine Aq (O9 ha (by omega) rfl (by omega) hs hp ?_ λr hr=>hr);intro q t l hq hlq s' hs' hp';rw[hq] at hlq;cases hlq;have hbn:=P3 k q;exact Tw ts (by omega) VJ.2 (u+Ec k q) (by omega) t (A5 hq) s' hs' hp'
theorem Tw {p:Nat}:∀(l:List Ty),AY l<2 ^ 38->bN l=true->∀(u:Nat),u+AY l<2 ^ 60->∀t∈l,∀(s:AL),BM s->s.bs[p]?=some [.AA []] ->
  ∃r,A7 t r/\∀L,BA (env R) L 121 [.agg ((Ag t).map .pv),AB u,APU p] s r s
 | [],_,_,_,_,_,h=>by cases h
 | e::l,h,VJ,u,hu,t,hm=>by
  simp only[AY] at h hu;simp only[bN,AG] at VJ;rcases A6.1 hm with h' | h'
  .rw[h']
   exact WT e (by omega) VJ.1 u (by omega) _ (A7.BZ _)
  .exact Tw l (by omega) VJ.2 u (by omega) t h'
end
theorem Yf {t:Ty} (h:size t<2 ^ 38) (hv:eE t=true) {x:AV} (hx:A7 t x):AM (env R) 107 [x,.AA []] λr=>A7 t r:=by
 obtain⟨k,n,i,ts⟩:=t;have hx':=hx;obtain⟨a,rfl,ha⟩:=hx;refine AWT (u0:=.agg [AB k,SS n,AB i,a]) (u1:=.AA []) (by simp[ha.close,AX,close]) (AKX ?_);refine Bu (cs:=[AB k,SS n,AB i,a]) rfl (by simp[ha.ok]) (Bu (cs:=[.AA []]) rfl (by simp) (Bq (Ae (cs:=[AB k,SS n,AB i,a]) rfl rfl ?_)))
 have hs:BM ⟨[[AB k,SS n,AB i,a],[.AA []],Z4],[]⟩:=by
  intro b hb;simp only[A6,FZ,Fa] at hb;rcases hb with rfl|rfl|rfl <;> simp[Ah,Ar,ha.Ar]
 obtain⟨r,h1,h2⟩:=WT (R:=R) (p:=1) (.mk k n i ts) h hv 0 (by omega) _ hx' ⟨[[AB k,SS n,AB i,a],[.AA []],Z4],[]⟩ hs rfl;refine⟨r,_,h2 _,?_⟩;obtain⟨b,rfl,hb⟩:=h1;refine CG (old:=Z4) (id:=2) rfl rfl rfl (by decide) (AI _) (by simp[hb.ok]) (.inl (AI _)) (Ae (cs:=[AB k,SS n,AB i,b]) rfl rfl ?_);exact⟨.agg [AB k,SS n,AB i,b],by simp[hb.close],⟨b,rfl,hb⟩⟩
theorem bR {t:Ty} (h:size t<2 ^ 38) (hv:eE t=true) {x:AV} (hx:A7 t x):AM (env R) 70 [x] λr=>A7 t r:=by
 obtain⟨k,n,i,ts⟩:=t;have hx':=hx;obtain⟨a,rfl,ha⟩:=hx;refine e70 (u0:=.agg [AB k,SS n,AB i,a]) (by simp[ha.close]) (APV ?_);refine Bu (cs:=[AB k,SS n,AB i,a]) rfl (by simp[ha.ok]) (Bq (Ae (cs:=[AB k,SS n,AB i,a]) rfl rfl (AD (Yf h hv hx') ?_)));rintro r ⟨b,rfl,hb⟩;refine CG (old:=Z4) (id:=1) rfl rfl rfl (by decide) (AI _) (by simp[hb.ok]) (.inl (AI _)) (Ae (cs:=[AB k,SS n,AB i,b]) rfl rfl ?_);exact⟨.agg [AB k,SS n,AB i,b],by simp[hb.close],⟨b,rfl,hb⟩⟩
end
theorem PA {n:Int} {s:AL} {K:AV->AL->Prop} (hK:K (.AA [[.sc (.int .i64 n)]]) s):Ct false s 1 [(AB 0)] 1 [(0,1,AB n)] K:=by
 simp[Ct,Fg,CR];exact hK
theorem AC9 {L:A3} {s:AL} {a:AV} {l:List Int} {n:Int} {K:AV->AL->Prop} (ha:Dr 0 s.ts 3 a (AW l)) (Eb:L.rt=0) (hl:l.length<2 ^ 40) (h:∀a' ts',Dr 0 ts' 3 a' (AW (l++[n]))->K a' ⟨s.bs,ts'⟩) :
  Cx false L s 3 1 8 a (.AA [[.sc (.int .i64 n)]]) K:=by
 have hl':=BW l;have:=O8 (L:=L) (bs:=s.bs) (ts:=[]) (x:=s.ts) (e:=3) (k:=1) (bytes:=8) (a:=a) (rows:=AW l) (row:=[.sc (.int .i64 n)]) (K:=K) (by grind) (by omega) (by grind[AW]) rfl (by omega) (by simp) (by omega) (by omega) (by grind[AW])
 simp_all
theorem D1 {bs:List (List AV)} {n:Nat} (h:n<=bs.length) (b:List AV):(bs++[b]).take n=bs.take n:=XY h
theorem B6 {bs X:List (List AV)} {n j:Nat} {v:List AV} (h:bs.take n=X) (hj:X[j]?=some v):bs[j]?=some v:=by grind
theorem EG {bs X:List (List AV)} {n j:Nat} {c:List AV} (h:bs.take n=X):(bs.set j c).take n=X.set j c:=by grind[List.take_set]
theorem Yg {rr:Bool} {A:Nat} {c:List AV} {s0:AL} {bs:List (List AV)} {ts:List (Nat×Nat)} {Post:AV->AL->Prop} (h0:BM s0) (hT:bs.take s0.bs.length=s0.bs.set A c) (hc:Ah s0.bs.length c=true) (hP:Post (.tuple []) ⟨s0.bs.set A c,ts⟩):QM rr s0.bs.length Post (.tuple []) ⟨bs,ts⟩:=by
 refine JU (ds:=[]) ?_ rfl ?_
 .have:=BM.set h0 hc ts (j:=A)
  rw[C2];intro b hb;have:=this b (by grind)
  grind
 grind
section
variable {R:RT}
abbrev gL (A F:Nat):AV:=.func (.func 56) [] [.ptr A 0,.ptr F 0]
def vn (R:RT) (A F:Nat) (x:AV) (l m:List Int) (s:AL):Prop:=∀(L:A3) (c:AV),L.ro=0->L.rt=0->s.bs[A]?=some [c]->Dr 0 s.ts 3 c (AW l) ->
 ∃v s',(∃c' ts',Dr 0 ts' 3 c' (AW (l++m))/\v=.tuple []/\s'=⟨s.bs.set A [c'],ts'⟩)/\BA (env R) L 56 [x,.ptr A 0,.ptr F 0] s v s'
theorem vo {A F:Nat} {ts:List Ty} {a:AV} (ha:Ao a (AZ ts)) (hl:ts.length<2 ^ 38) {l:List Int} {s0:AL} (hs0:BM s0) (hA:A<s0.bs.length) (hF:s0.bs[F]?=some [gL A F]) (hAF:A≠F)
  (ih:∀t∈ts,∀(l:List Int) (s:AL),BM s->s.bs[F]?=some [gL A F]->l.length+(Aj t).length<2 ^ 40->vn R A F (.agg ((Ag t).map .pv)) l (Aj t) s)
  (hb:l.length+(Bp ts).length<2 ^ 40) {rr:Bool} {Post:AV->AL->Prop} (hP:∀c' ts',Dr 0 ts' 3 c' (AW (l++Bp ts))->Post (.tuple []) ⟨s0.bs.set A [c'],ts'⟩) :
  ∀(j q:Nat) (done:List Int) (bs:List (List AV)) (tk:List (Nat×Nat)) (c:AV),q+j=ts.length->done++Bp (ts.drop q)=l++Bp ts->BM ⟨bs,tk⟩->s0.bs.length<=bs.length->bs.take s0.bs.length=s0.bs.set A [c]->Dr 0 tk 3 c (AW done) ->
   kZ R 0 0 0 (.ptr F 0) a (AB ts.length) (AB q) ⟨bs,tk⟩ (QM rr s0.bs.length Post):=by
 intro j
 induction j with
 | zero=>
  intro q done bs tk c hi hd hs hn hT hc;refine AE9 (Ai ?_);rw[Aw (by omega)];rw[Bt (by omega),Bp,Gb] at hd;refine Aq (Yg hs0 hT (by simp[Ah,hc.A1.Ar]) (hP c tk ?_))
  grind
 | succ j D7=>
  intro q done bs tk c hi hd hs hn hT hc;refine AE9 (Ai ?_);rw[Ap (by omega)];obtain⟨t,ht⟩:∃t,ts[q]?=some t:=⟨_,Ak (by omega)⟩;have hrl:((Ag t).map AV.pv).length=4:=by grind[Af]
  have hro:=DW t
  have Lp:Ah (bs.length+1) ((Ag t).map AV.pv)=true:=by
   obtain⟨k1,n1,i1,t1⟩:=t;rfl
  refine BH (APW (BK ha (row:=Ag t) (by omega) (by grind[BG]) (Af _) (by omega) (Cd (Bq ?_))));have gK:=ih t (A5 ht);have hdr:ts.drop q=t::ts.drop (q+1):=drop_cons ht;rw[hdr,Bp,<-FY] at hd;have hdl:=Bb List.length hd;simp only[CD] at hdl;generalize (Ag t).map AV.pv=row at hrl hro Lp gK;refine CG (Az bs Z4) hrl rfl (by decide) (AI _) hro (.inl (AI _)) ?_;have e:(bs++[Z4]).set bs.length row=bs++[row]:=by simp
  rw[e];have gF:(s0.bs.set A [c])[F]?=some [gL A F]:=by grind
  have gA:(s0.bs.set A [c])[A]?=some [c]:=by rw[CU (by omega)]
  have hs':BM ⟨bs++[row],tk⟩:=BM.app (s:=⟨bs,tk⟩) hs Lp;have gM:=(D1 hn row).trans hT;obtain⟨v,s',⟨c',ts',h1,rfl,rfl⟩,h3⟩:=gK done ⟨bs++[row],tk⟩ hs' (B6 gM gF) (by omega) (Dh (env R) 56 0 0 0) c rfl rfl (B6 gM gA) hc;refine AU (Av (B6 hT gF) row) rfl (Ae (Az bs row) hrl ⟨_,_,h3,APX (Ba (by omega) (by omega) ?_)⟩);have ow:=EG (j:=A) (c:=[c']) gM;rw[Hw] at ow;exact D7 (q+1) (done++Aj t) _ ts' c' (by omega) hd (BM.set (s:=⟨bs++[row],tk⟩) hs' (by simp[Ah,Ar,h1.A1.Ar]) _) (by grind) ow h1
mutual
theorem bS {A F:Nat} (hAF:A≠F):∀(t:Ty),size t<2 ^ 38->∀(x:AV),A7 t x->∀(l:List Int) (s:AL),BM s->s.bs[F]?=some [gL A F]->l.length+(Aj t).length<2 ^ 40->vn R A F x l (Aj t) s
 | .mk k n i ts,h,x,hx,l,s,hs,hF,hb,L,c,hro,Eb,hA,hc=>by
  obtain⟨a,rfl,ha⟩:=hx;simp only[size] at h;rw[Aj] at hb ⊢;have lA:=(BL.1 hA).1;have Uv:=BQ ts;refine m56 (by simp[Bo,GO]) ?_;rw[hro,Eb];have hs1:BM ⟨s.bs++[[AB k,SS n,AB i,a]],s.ts⟩:=BM.app hs (by simp[Ah,Ar,ha.Ar]);have g:=Az s.bs [AB k,SS n,AB i,a];refine APY (Bu (cs:=[AB k,SS n,AB i,a]) rfl (by simp[ha.ok]) (AK (AP g) (AU g rfl (Ay ?_))));have gA:=Av hA [AB k,SS n,AB i,a];have same:s.bs.set A [c]=s.bs:=by grind[List.set_getElem_self]
  have tkn:(s.bs++[[AB k,SS n,AB i,a]]).take s.bs.length=s.bs.set A [c]:=by grind
  cases h5:(k==5) with
  | true=>
   rw[h5] at hb;refine BH (AU gA rfl (AK (AP g) (AU g rfl (PA ⟨by decide,AC9 hc rfl (by omega) λc' ts' KZ=>?_⟩))));refine DG gA (by simp) KZ.A1.cells (AI _) KZ.A1.ok (.inl (AI _)) ?_;have hT:=EG (j:=A) (c:=[c']) tkn;rw[Hw] at hT;exact Yg hs hT (by simp[Ah,KZ.A1.Ar]) ⟨c',ts',KZ,rfl,rfl⟩
  | false=>
   refine Aq (Ay ?_);cases h3:(k==3) with
   | true=>
    rw[h5,h3] at hb;refine BH (AK (AP g) (AU g rfl (Al (n:=ts.length) (by rw[ha.A9,AQ]) ?_)));exact vo (l:=l) ha (by omega) hs lA hF hAF (λt hm l s hs hF hb=>WU hAF ts (by omega) t hm l s hs hF hb) hb (λc' ts' KZ=>⟨c',ts',KZ,rfl,rfl⟩) ts.length 0 l _ s.ts c (by omega) (by simp) hs1 (by simp) tkn hc
   | false=>
    refine Aq (Yg hs tkn (by simp[Ah,hc.A1.Ar]) ⟨c,s.ts,?_,rfl,rfl⟩)
    grind
theorem WU {A F:Nat} (hAF:A≠F):∀(ts:List Ty),AY ts<2 ^ 38->∀t∈ts,∀(l:List Int) (s:AL),BM s->s.bs[F]?=some [gL A F]->l.length+(Aj t).length<2 ^ 40->vn R A F (.agg ((Ag t).map .pv)) l (Aj t) s
 | [],_,_,h=>by cases h
 | e::l,h,t,hm=>by
  simp only[AY] at h;rcases A6.1 hm with h' | h'
  .rw[h']
   exact bS hAF e (by omega) _ (A7.BZ _)
  .exact WU hAF l (by omega) t h'
end
def Da (b:Br):List PV:=.list (AZ b.bounds)::Ag b.body
def QO (b:Br) (x:AV):Prop:=∃a y,x=.agg (a::y)/\Ao a (AZ b.bounds)/\A7 b.body (.agg y)
theorem QO.BZ (b:Br):QO b (.agg ((Da b).map .pv)):=⟨_,_,rfl,.list _,A7.BZ _⟩
theorem Yh {E:Env} {s:AL} {id:Nat} {a:AV} {cs:List AV} {K:AV->Prop} (hb:s.bs[id]?=some (a::cs)) (hk:cs.length=4) (h:K (.agg cs)):FC E s (some 4) (.ptr id 1) K:=by
 simp only[FC,hb,wO,Dn,xL,xM,xF,xG];refine⟨by simp[hk],?_⟩
 show K (.agg (cs.take 4))
 rw[CL (by omega)];exact h
theorem A7.cells {t:Ty} {y:List AV} (h:A7 t (.agg y)):y.length=4/\y.all BE=true/\Ah 0 y=true/\∀bs n m,AX bs n m y=some y:=by
 obtain⟨k,n,i,ts⟩:=t;obtain⟨a,hy,ha⟩:=h;cases hy;exact⟨rfl,by simp[ha.ok],by simp[Ah,Ar,ha.Ar],λbs n m=>by simp[ha.close,AX,close]⟩
theorem Ns {b:Br} (h:size b.body<2 ^ 38) (hc:(Aj b.body).length<2 ^ 40) {x:AV} (hx:QO b x):AM (env R) 23 [x] λr=>Ao r (AW (Aj b.body)):=by
 obtain⟨a,y,rfl,ha,hy⟩:=hx;obtain⟨h4,hok,hid,Bi⟩:=hy.cells;refine e23 (u0:=.agg (a::y)) (by simp[AX,close,ha.close,Bi]) (APZ ?_);refine Bu (cs:=a::y) rfl (by simp[ha.ok]; grind) (Bq (Bq ?_));refine DG (id:=2) (off:=0) (cs:=[.pv (.sc .nilFunc)]) rfl (by decide) rfl (AI _) rfl (.inl (AI _)) ?_;refine AU (id:=2) rfl rfl (AK (AP (c:=a) (cs:=y) rfl) ?_)
 show FC _ _ _ (.ptr 0 1) _
 refine Yh rfl h4 ?_
 have hs:BM ⟨[a::y,[.AA []],[gL 1 2]],[]⟩:=by
  intro c hc;simp only[A6,FZ,Fa] at hc;rcases hc with rfl|rfl|rfl
  .exact Bn (AI _) _ (by simp[Ah,ha.Ar,hid])
  all_goals rfl
 obtain⟨v,s',⟨c',ts',h1,rfl,rfl⟩,h3⟩:=bS (R:=R) (A:=1) (F:=2) (by decide) b.body h _ hy [] ⟨[a::y,[.AA []],[gL 1 2]],[]⟩ hs rfl (by grind) (Dh (env R) 23 0 0 0) (.AA []) rfl rfl rfl (.inl rfl);refine⟨_,_,h3,AU (id:=1) rfl rfl ?_⟩;obtain⟨r,c1,c2⟩:=Nr h1 _ 0;exact⟨r,c1,by grind⟩
theorem PB {b:Br} (h:size b.body<2 ^ 38) (hl:b.bounds.length<2 ^ 38) (hc:(Aj b.body).length<2 ^ 40) {x:AV} (hx:QO b x):AM (env R) 46 [x] λr=>r=BB (decide (b.bounds.length<=6)&&decide ((Aj b.body).length<=3)):=by
 have hx':=hx;obtain⟨a,y,rfl,ha,hy⟩:=hx;obtain⟨h4,hok,hid,Bi⟩:=hy.cells;refine e46 (u0:=.agg (a::y)) (by simp[AX,close,ha.close,Bi]) (APa ?_);have g:∀ts,(AL.mk [a::y] ts).bs[0]?=some (a::y):=λ_=>rfl
 refine Bu (cs:=a::y) rfl (by simp[ha.ok]; grind) (AK (AP (g _)) (AU (g _) rfl (Al (n:=b.bounds.length) (by rw[ha.A9,AQ]) (vX ?_))))
 by_cases h6:b.bounds.length<=6
 .rw[Ap (by omega)]
  refine Am (Ae (g _) (by grind) (Am (AD (Ns h hc hx') λr hr=>Am (Al (n:=(Aj b.body).length) (by rw[hr.A9,BW]) (Am (vX (pk ?_)))))));refine⟨_,rfl,?_⟩;rw[Ap h6];have:(((Aj b.body).length:Int)<=3)<->((Aj b.body).length<=3):=by omega
  grind
 .rw[Aw (by omega)]
  refine Bm (Bm (Bm (Bm (pk ⟨_,rfl,?_⟩))))
  grind
theorem El {s:AL} {p:PV} {K:AV->Prop} (hK:K (.pv p)):FC (env R) s none (.Cn [p] 0) K:=by simp[*]
def ixI (n:Int) (l:List Int):Int:=match l.findIdx? (·==n) with
 | some j=>j
 | none=>-1
theorem gN {l:List Int} {n:Int} (hl:l.length<2 ^ 40) {b:AV} (hb:BJ b (AW l)):AM (env R) 93 [b,AB n] λr=>r=AB (ixI n l):=by
 obtain⟨a,Bi,ha⟩:=hb.closed [] 0;refine e93 (u0:=a) (u1:=AB n) (by simp[*]) (APb (Al (n:=l.length) (by rw[ha.A9,BW]) ?_))
 suffices H:∀(j q:Nat),q+j=l.length->(∀p,p<q->l[p]?≠some n)->kg R 0 0 0 a (AB n) (AB l.length) (AB q) ⟨[],[]⟩ (QP λr=>r=AB (ixI n l)) from H l.length 0 (by omega) (λp hp=>by omega)
 intro j
 induction j with
 | zero=>
  intro q hi hn;refine AFA (Ai ?_);rw[Aw (by omega)];refine Aq (APc ⟨_,rfl,?_⟩)
  grind[List.getElem?_of_mem,ixI]
 | succ j D7=>
  intro q hi hn;refine AFA (Ai ?_);rw[Ap (by omega)];obtain⟨m,hm⟩:∃m,l[q]?=some m:=⟨_,Ak (by omega)⟩;refine BH (APd (BK ha (row:=[.sc (.int .i64 m)]) (by omega) (by simp[*,AW]) rfl (by omega) ?_));refine El ?_;refine Ay ?_;cases he:n==m with
  | true=>
   refine BH ⟨_,rfl,?_⟩;have:l.findIdx? (·==n)=some q:=by grind[List.findIdx?_eq_some_iff_getElem]
   rw[ixI,this]
  | false=>
   refine Aq (APe (Ba (by omega) (by omega) (D7 (q+1) (by omega) ?_)))
   grind
end
def tok:AV->Option Nat
 | .own t _=>some t
 | _=>none
def CY (a a':AV) (ts ts':List (Nat×Nat)):Prop:=ts.length<=ts'.length/\(∀t,t<ts.length->tok a≠some t->ts'[t]?=ts[t]?)/\(tok a'=tok a\/∃t,tok a'=some t/\ts.length<=t)
theorem CY.refl (a:AV) (ts:List (Nat×Nat)):CY a a ts ts:=⟨Ac _,λ_ _ _=>rfl,.inl rfl⟩
theorem CY.trans {a b c:AV} {ts tu tv:List (Nat×Nat)} (h:CY a b ts tu) (k:CY b c tu tv):CY a c ts tv:=by
 obtain⟨h1,h2,h3⟩:=h;obtain⟨k1,k2,k3⟩:=k;refine⟨CN h1 k1,λt ht ha=>?_,?_⟩
 all_goals grind
def DR (b:AV) (ts:List (Nat×Nat)):Prop:=∀t,tok b=some t->ts.length<=t
theorem DR.PC {b b':AV} {ts0 ts ts':List (Nat×Nat)} (h:DR b ts0) (hc:CY b b' ts ts') (hl:ts0.length<=ts.length):DR b' ts0:=by
 intro t ht;rcases hc.2.2 with h1|⟨u,h1,h2⟩
 .exact h t (by rw[<-h1,ht])
 grind
theorem CY.side {a a' b b':AV} {ts0 ts ts':List (Nat×Nat)} (h:CY a a' ts0 ts) (k:CY b b' ts ts') (hb:DR b ts0):CY a a' ts0 ts':=by
 obtain⟨h1,h2,h3⟩:=h;obtain⟨k1,k2,k3⟩:=k;refine⟨CN h1 k1,λt ht ha=>?_,h3⟩;rw[k2 t (by omega) λhb'=>?_,h2 t ht ha];have:=hb t hb';omega
def RS (a b:AV):Prop:=∀t,tok a=some t->tok b≠some t
theorem RS.symm {a b:AV} (h:RS a b):RS b a:=λt h1 h2=>h t h2 h1
theorem Dr.vp {lo:Nat} {ts:List (Nat×Nat)} {k:Nat} {a:AV} {rows:List (List PV)} (h:Dr lo ts k a rows) {t:Nat} (ht:tok a=some t):t<ts.length:=by
 rcases h with rfl|⟨u,rfl,h1,_⟩
 .cases ht
 .cases ht
  grind
theorem RS.PC {a a' b:AV} {lo k:Nat} {ts ts':List (Nat×Nat)} {rows:List (List PV)} (h:RS a b) (hc:CY a a' ts ts') (hb:Dr lo ts k b rows):RS a' b:=by
 intro t ht hbt;rcases hc.2.2 with h1|⟨u,h1,h2⟩
 .exact h t (by rw[<-h1,ht]) hbt
 .rw[h1] at ht
  cases ht;have:=Dr.vp hb hbt;omega
theorem CY.keep {a a' b:AV} {lo k:Nat} {ts ts':List (Nat×Nat)} {rows:List (List PV)} (hc:CY a a' ts ts') (hb:Dr lo ts k b rows) (h:RS a b):Dr lo ts' k b rows:=by
 rcases hb with rfl|⟨t,rfl,h1,h2⟩
 .exact .inl rfl
 .refine .inr ⟨t,rfl,?_,h2⟩
  rw[hc.2.1 t (BL.1 h1).1 λha=>h t ha rfl];omega
theorem RS.AA (a:AV) (rows:List (List PV)):RS a (.AA rows):=λ_ _ h=>by cases h
theorem DR.AA (ts:List (Nat×Nat)) (rows:List (List PV)):DR (.AA rows) ts:=λ_ h=>by cases h
theorem QS {L:A3} {s:AL} {e:Nat} {k bytes:Nat} {a y:AV} {rows m:List (List PV)} {K:AV->AL->Prop} (ha:Dr 0 s.ts e a rows) (Eb:L.rt=0) (hrows:∀r∈rows,r.length=k) (hm:∀r∈m,r.length=k) (hk:0<k)
  (hy:C0 s k y=some (m.flatten.map .pv)) (hok:(m.flatten.map AV.pv).all BE=true) (hb:(rows.length+m.length)*bytes<=2 ^ 45) (Ll:rows.length+m.length<=2 ^ 45)
  (h:∀a' ts',Dr 0 ts' e a' (rows++m)->CY a a' s.ts ts'->K a' ⟨s.bs,ts'⟩):Cx false L s e k bytes a y K:=by
 obtain⟨bs,ts⟩:=s;have hall:(rows.all λr=>r.length==k)=true:=by grind
 unfold Cx;rw[hy];have hfl:=ML m hm;have hby:=Fw m hm;cases hc:m.flatten with
 | nil=>
  have hm0:m=[]:=by
   cases m with
   | nil=>rfl
   | cons r m=>
    grind
  subst hm0;have:=h a ts (by grind) (CY.refl _ _);rcases ha with rfl|⟨t,rfl,h1,h2⟩ <;> simp[*]
 | cons c cs=>
  have hmap:m.flatten.map AV.pv=.pv c::cs.map .pv:=by grind
  have hl:(AV.pv c::cs.map .pv).length / k=m.length:=by
   rw[<-hmap,CC,hfl,Nat.mul_div_cancel _ hk]
  have htp:Co (AV.pv c::cs.map .pv)=some m.flatten:=by grind[Kr]
  rw[hmap] at hok;simp only[wO,CE,hok,hl,htp,hby];refine⟨Ab,?_⟩;rcases ha with rfl|⟨t,rfl,h1,h2⟩
  .refine⟨⟨hb,Ll,hall⟩,?_⟩
   refine h (.own ts.length (rows++m)) (ts++[(rows.length+m.length,e)]) (.inr ⟨_,rfl,by simp,AI _⟩) ⟨by simp,λt ht _=>?_,.inr ⟨_,rfl,Ac _⟩⟩;rw[CZ ht]
  .refine⟨⟨hb,Ll,h1,by omega,hall⟩,?_⟩
   have hlt:t<ts.length:=(BL.1 h1).1;refine h (.own t (rows++m)) (ts.set t (rows.length+m.length,e)) (.inr ⟨_,rfl,by grind,h2⟩) ⟨by simp,λu hu hn=>?_,.inl rfl⟩;rw[FV];intro htu;exact hn (by rw[htu]; rfl)
theorem oy (t:Ty):(([Ag t].flatten).map AV.pv).all BE=true:=by grind[DW]
theorem Iy {L:A3} {s:AL} {a:AV} {es:List Ty} {t:Ty} {K:AV->AL->Prop} (ha:Dr 0 s.ts 25 a (AZ es)) (Eb:L.rt=0) (hl:es.length<2 ^ 38) (h:∀a' ts',Dr 0 ts' 25 a' (AZ (es++[t]))->CY a a' s.ts ts'->K a' ⟨s.bs,ts'⟩) :
  Cx false L s 25 4 56 a (.AA [Ag t]) K:=by
 have hl':=AQ es;have hm:∀r∈[Ag t],r.length=4:=by simp[Af]
 refine QS (m:=[Ag t]) ha Eb (λr hr=>Gy hr) hm (by omega) (De (.inl (.AA _)) hm) (oy t) (by grind) (by grind) λa' ts' h1 h2=>h a' ts' ?_ h2
 grind[GJ,AZ]
theorem bT {L:A3} {s:AL} {a:AV} {l:List Int} {n:Int} {K:AV->AL->Prop} (ha:Dr 0 s.ts 3 a (AW l)) (Eb:L.rt=0) (hl:l.length<2 ^ 40) (h:∀a' ts',Dr 0 ts' 3 a' (AW (l++[n]))->CY a a' s.ts ts'->K a' ⟨s.bs,ts'⟩) :
  Cx false L s 3 1 8 a (.AA [[.sc (.int .i64 n)]]) K:=by
 have hl':=BW l;have hm:∀r∈[[PV.sc (.int .i64 n)]],r.length=1:=by simp
 refine QS (m:=[[.sc (.int .i64 n)]]) ha Eb DV hm (by omega) (De (.inl (.AA _)) hm) (by simp) (by grind) (by grind) λa' ts' h1 h2=>h a' ts' ?_ h2
 grind[AW]
theorem bU {rr:Bool} {A:Nat} {c:List AV} {cs ds:List AV} {s0:AL} {bs:List (List AV)} {ts:List (Nat×Nat)} {Post:AV->AL->Prop} (h0:BM s0) (hT:bs.take s0.bs.length=s0.bs.set A c) (hc:Ah s0.bs.length c=true) (Bi:AX bs s0.bs.length ts.length cs=some ds) (hP:Post (.agg ds) ⟨s0.bs.set A c,ts⟩):QM rr s0.bs.length Post (.agg cs) ⟨bs,ts⟩:=by
 refine Yi (ds:=ds) ?_ Bi ?_
 .have:=BM.set h0 hc ts (j:=A)
  rw[C2];intro b hb;have:=this b (by grind)
  grind
 grind
theorem C9 {bs:List (List AV)} {n j:Nat} {c:List AV} (h:n<=j):(bs.set j c).take n=bs.take n:=by grind[List.take_set,List.set_eq_of_length_le]
theorem BV.Iz {v:Ty} {cs:List AV} (h:BV v (.agg cs)) (bs:List (List AV)) (n m:Nat):∃ds,AX bs n m cs=some ds/\BV v (.agg ds):=by
 obtain⟨k,c,i,ts⟩:=v;obtain⟨a,hcs,ha⟩:=h;cases hcs;obtain⟨a',h1,h2⟩:=ha.close bs n m;exact⟨[AB k,SS c,AB i,a'],by simp[*],⟨a',rfl,h2⟩⟩
abbrev gO (o:List Nat):List Int:=o.map λ(x:Nat)=>(x:Int)
theorem ADB (o:List Nat) {i:Int} (h:0<=i):ixI i (gO o)=match o.findIdx? (·==i.toNat) with
  | some j=>(j:Int)
  | none=>-1:=by
 rw[ixI,List.findIdx?_map];have:((λx:Int=>x==i)∘λx:Nat=>(x:Int))=λx:Nat=>x==i.toNat:=by grind
 grind
section
variable {R:RT}
abbrev bV (P A F:Nat):AV:=.func (.func 91) [] [.ptr P 0,.ptr A 0,.ptr F 0]
structure VM (P A F e:Nat) (B:List Ty) (bs:List (List AV)):Prop where
 hP:bs[P]?=some [.ptr e 0]
 hF:bs[F]?=some [bV P A F]
 he:∃c cs,bs[e]?=some (c::cs)/\BJ c (AZ B)
 nP:A≠P
 nF:A≠F
 ne:A≠e
theorem VM.of {P A F e:Nat} {B:List Ty} {bs bs':List (List AV)} (h:VM P A F e B bs) (hk:∀j c,j≠A->bs[j]?=some c->bs'[j]?=some c):VM P A F e B bs':=by
 obtain⟨c,cs,h1,h2⟩:=h.he;exact⟨hk _ _ h.nP.symm h.hP,hk _ _ h.nF.symm h.hF,⟨c,cs,hk _ _ h.ne.symm h1,h2⟩,h.nP,h.nF,h.ne⟩
theorem VM.tk {P A F e n:Nat} {B:List Ty} {bs bs':List (List AV)} {c:List AV} (h:VM P A F e B bs) (hT:bs'.take n=bs.set A c):VM P A F e B bs':=
 h.of λj d hj hd=>B6 hT (by grind)
def vq (R:RT) (P A F N:Nat) (x:AV) (o:List Nat) (t:Ty) (s:AL):Prop:=∀(L:A3) (c:AV),L.ro=0->L.rt=0->s.bs[A]?=some [c]->Dr 0 s.ts 3 c (AW (gO o)) ->
 ∃v s',(∃c' ts' ds,Dr 0 ts' 3 c' (AW (gO (LP N t o).2))/\CY c c' s.ts ts'/\v=.agg ds/\BV (ren (LP N t o).1) (.agg ds)/\s'=⟨s.bs.set A [c'],ts'⟩)/\BA (env R) L 91 [x,.ptr P 0,.ptr A 0,.ptr F 0] s v s'
theorem vt {P A F e N:Nat} {B ts:List Ty} (hN:B.length=N) {a:AV} (ha:Ao a (AZ (Bz ts))) (hl:ts.length<2 ^ 38) {k i:Int} {n:List UInt8} (hk7:k≠7) {o0:List Nat} {c0:AV} {s0:AL} (hs0:BM s0) (hA:A<s0.bs.length) (hE:VM P A F e B s0.bs)
  (ih:∀t∈ts,∀(o:List Nat) (s:AL),BM s->VM P A F e B s.bs->o.length+size t<2 ^ 40->vq R P A F N (.agg ((Ag (ren t)).map .pv)) o t s)
  (hlen:∀t∈ts,∀o,(LP N t o).2.length<=o.length+size t) (hb:o0.length+AY ts<2 ^ 40) {rr:Bool} {Post:AV->AL->Prop}
  (hP:∀c' ts' ds,Dr 0 ts' 3 c' (AW (gO (Gj N ts o0).2))->CY c0 c' s0.ts ts'->BV (.mk k n i (Bz (Gj N ts o0).1)) (.agg ds)->Post (.agg ds) ⟨s0.bs.set A [c'],ts'⟩) :
  ∀(j q:Nat) (o:List Nat) (done:List Ty) (bs:List (List AV)) (tk:List (Nat×Nat)) (b c:AV),q+j=ts.length->done++(Gj N (ts.drop q) o).1=(Gj N ts o0).1->(Gj N (ts.drop q) o).2=(Gj N ts o0).2->done.length=q->o.length+AY (ts.drop q)<=o0.length+AY ts ->
   BM ⟨bs,tk⟩->bs.take s0.bs.length=s0.bs.set A [c]->bs[s0.bs.length]?=some [AB k,SS n,AB i,a]->bs[s0.bs.length+1]?=some Z4->bs[s0.bs.length+2]?=some [AB k,SS n,AB i,b] ->
   Dr 0 tk 3 c (AW (gO o))->Dr 0 tk 25 b (AZ (Bz done))->CY c0 c s0.ts tk->DR b s0.ts->RS c b ->
   ki R 0 0 0 (.ptr F 0) (.ptr (s0.bs.length+1) 0) (.ptr (s0.bs.length+2) 0) a (AB ts.length) (AB q) ⟨bs,tk⟩ (QM rr s0.bs.length Post):=by
 have Uv:=BQ ts;intro j
 induction j with
 | zero=>
  intro q o done bs tk b c hi hd1 Sm hdl ho hs hT h0 h1 h2 hc ZR hC hfr Jf;refine AFB (Ai ?_);rw[Aw (by omega)];rw[Bt (by omega),Gj,Gb] at hd1;rw[Bt (by omega),Gj] at Sm;simp only at hd1 Sm;rw[hd1] at ZR;rw[Sm] at hc;refine Aq (APf (Ae h2 rfl (CG h1 rfl rfl (by decide) (AI _) (by simp[ZR.A1.ok]) (.inl (AI _)) (Ae (Bf h1) rfl ?_))));obtain⟨ds,c1,c2⟩:=BV.Iz (v:=.mk k n i (Bz (Gj N ts o0).1)) (cs:=[AB k,SS n,AB i,b]) ⟨b,rfl,ZR.A1⟩ (bs.set (s0.bs.length+1) [AB k,SS n,AB i,b]) s0.bs.length tk.length;exact bU hs0 ((C9 (by omega)).trans hT) (by simp[Ah,hc.A1.Ar]) c1 (hP c tk ds hc hC c2)
 | succ j D7=>
  intro q o done bs tk b c hi hd1 Sm hdl ho hs hT h0 h1 h2 hc ZR hC hfr Jf;refine AFB (Ai ?_);rw[Ap (by omega)];obtain⟨t,ht⟩:∃t,ts[q]?=some t:=⟨_,Ak (by omega)⟩;have Eb:(Bz ts)[q]?=some (ren t):=by grind[Bk]
  have Uu:=A5 ht;have hrl:((Ag (ren t)).map AV.pv).length=4:=by grind[Af]
  have hro:=DW (ren t)
  have Lp:Ah (bs.length+1) ((Ag (ren t)).map AV.pv)=true:=by
   obtain⟨k1,n1,i1,t1⟩:=ren t;rfl
  refine BH (APg (BK ha (row:=Ag (ren t)) (by omega) (by simp[*,BG]) (Af _) (by omega) (Cd (Bq ?_))));have gK:=ih t Uu;have hdr:ts.drop q=t::ts.drop (q+1):=drop_cons ht;rw[hdr,Gj] at hd1 Sm;rw[hdr,AY] at ho;generalize (Ag (ren t)).map AV.pv=row at hrl hro Lp gK;refine CG (Az bs Z4) hrl rfl (by decide) (AI _) hro (.inl (AI _)) ?_;have e:(bs++[Z4]).set bs.length row=bs++[row]:=by simp
  rw[e];have l2:=(BL.1 h2).1;have N7:s0.bs.length<=bs.length:=by omega
  have gM:=(D1 N7 row).trans hT;have hs':BM ⟨bs++[row],tk⟩:=BM.app (s:=⟨bs,tk⟩) hs Lp;have gA:(s0.bs.set A [c])[A]?=some [c]:=by rw[CU (by omega)]
  have gF:(s0.bs.set A [c])[F]?=some [bV P A F]:=by rw[FV hE.nF]; exact hE.hF
  obtain⟨v,s',⟨c',ts',ds,r1,r2,rfl,r4,rfl⟩,r6⟩:=gK o ⟨bs++[row],tk⟩ hs' (hE.tk gM) (by omega) (Dh (env R) 91 0 0 0) c rfl rfl (B6 gM gA) hc;have g1:=Av h1 row;have g2:=Av h2 row;have g0:=Av h0 row;have rJ:((bs++[row]).set A [c'])[s0.bs.length+2]?=some [AB k,SS n,AB i,b]:=BS g2 (by omega);refine AK (AP g2) (AU g2 rfl (AU (Av (B6 hT gF) row) rfl (Ae (Az bs row) hrl ⟨_,_,r6,FR r4 ⟨by decide,Iy (r2.keep ZR Jf) rfl ?_ ?_⟩⟩)))
  .grind[Bk]
  .intro b' HP hb' KZ
   have er:Bz done++[ren (LP N t o).1]=Bz (done++[(LP N t o).1]):=by simp[Bk]
   rw[er] at hb';refine AK (AP rJ) (DG rJ (by simp) hb'.A1.cells (AI _) hb'.A1.ok (.inl (AI _)) ?_);refine⟨AK (AP rJ) (EP _ _),AU rJ rfl (HK ZR),APh (Ba (by omega) (by omega) ?_)⟩;have AFC:RS b c':=(Jf.PC r2 ZR).symm;have ow:(((bs++[row]).set A [c']).set (s0.bs.length+2) [AB k,SS n,AB i,b']).take s0.bs.length=s0.bs.set A [c']:=by simp[*,C9,EG]
   have hs2:BM ⟨(bs++[row]).set A [c'],ts'⟩:=BM.set (s:=⟨bs++[row],tk⟩) hs' (by simp[Ah,Ar,r1.A1.Ar]) _;have:=hlen t Uu o
   have fin:=D7 (q+1) (LP N t o).2 (done++[(LP N t o).1]) _ HP b' c' (by omega) (by simp[*]) Sm (by grind) (by omega)
    (BM.set (s:=⟨(bs++[row]).set A [c'],ts'⟩) hs2 (by simp[Ah,Ar,hb'.A1.Ar]) _) ow (BS (BS g0 (by omega)) (by omega)) (BS (BS g1 (by omega)) (by omega)) (Bf rJ)
    (KZ.keep r1 AFC) hb' ((hC.trans r2).side KZ hfr) (hfr.PC KZ (CN hC.1 r2.1)) (AFC.PC KZ r1).symm
   grind
end
end Go.Proofs.YtpgfpakdnijngaaGreatDoor
