/-
  The program's patterns: their kinds; where a placeholder occurs.
-/
import Derived.Test.YtpgfpakdnijngaaGreatDoorTB
import Derived.Test.YtpgfpakdnijngaaGreatDoorTA
import Derived.Test.YtpgfpakdnijngaaGreatDoorW1
import Derived.Test.YtpgfpakdnijngaaGreatDoorWpH
import Derived.Test.YtpgfpakdnijngaaGreatDoorW2
import Derived.Laws.Strings3
set_option linter.all false
namespace Go.Proofs.YtpgfpakdnijngaaGreatDoor
open Go.Tel
mutual
def inp:Ty->Bool
 | .mk k _ _ ts=>bif k==0 then ts.isEmpty else bif k==3||k==4||k==6 then TQ ts else true
def TQ:List Ty->Bool
 | []=>true
 | t::l=>inp t&&TQ l
end
mutual
def pat:Ty->Bool
 | .mk k _ _ ts=>bif k==7||k==2 then true else bif k==3 then ME ts else ts.isEmpty
def ME:List Ty->Bool
 | []=>true
 | t::l=>pat t&&ME l
end
theorem TR:∀{l:List Ty} {t:Ty},TQ l=true->t∈l->inp t=true
 | [],_,_,h=>by cases h
 | a::l,t,h,ht=>by
  simp only[TQ,AD] at h;rcases Az.1 ht with rfl|ht
  .grind
  .exact TR h.2 ht
theorem Q3:∀(l m:List Ty),ME (l++m)=(ME l&&ME m)
 | [],m=>by rfl
 | t::l,m=>by simp[ME,Q3 l m,Mb]
mutual
theorem kM (v:Nat):∀(t:Ty) (u:Nat),inp t=true->inp (sub v u t)=true
 | .mk k n i ts,u,h=>by
  rw[inp] at h;rw[sub];cases h5:k==5 with
  | true=>
   have:k=5:=by grind
   subst this;simp only[AH];cases i==(u:Int) with
   | true=>rfl
   | false=>cases decide ((u:Int)<i) <;> rfl
  | false=>
   simp only[AE];rw[inp];cases h0:k==0 with
   | true=>
    rw[h0] at h;simp only[AH,Dx] at h ⊢;rw[h];rfl
   | false=>
    rw[h0] at h;simp only[AE] at h ⊢;cases h3:(k==3||k==4||k==6) with
    | true=>
     rw[h3] at h;exact bF v ts u k 0 h
    | false=>rfl
theorem bF (v:Nat):∀(l:List Ty) (u:Nat) (k:Int) (j:Nat),TQ l=true->TQ (J4 v u k j l)=true
 | [],_,_,_,_=>rfl
 | t::l,u,k,j,h=>by
  simp only[TQ,AD] at h;simp only[J4,TQ,AD];exact⟨kM v t _ h.1,bF v l u k (j+1) h.2⟩
end
mutual
theorem R3 {m:Int->Bool} {b:Ty} (hb:pat b=true):∀(t:Ty) (k:Nat),pat t=true->pat (J5 m b t k)=true
 | .mk c n i ts,k,h=>by
  have h':=h;rw[pat] at h;rw[J5];cases h7:c==7 with
  | true=>
   grind
  | false=>
   rw[h7] at h;cases h3:c==3 with
   | false=>grind
   | true=>
    have:c=3:=by grind
    subst this;exact bG hb ts k h
theorem bG {m:Int->Bool} {b:Ty} (hb:pat b=true):∀(l:List Ty) (k:Nat),ME l=true->ME (Jf m b l k)=true
 | [],_,_=>rfl
 | t::l,k,h=>by
  simp only[ME,AD] at h;rw[Jf];cases decide (k<BH m t) with
  | true=>
   simp only[AH,ME,AD];exact⟨R3 hb t k h.1,h.2⟩
  | false=>
   simp only[AE,ME,AD];exact⟨h.1,bG hb l _ h.2⟩
end
mutual
theorem YW {v:Nat}:∀t:Ty,pat t=true->Cz v true t=false->Cz v false t=decide (0<BH (·==(v:Int)) t)
 | .mk k n i ts,hp,h=>by
  rw[Cz] at h;rw[pat] at hp;rw[Cz,BH];cases h7:k==7 with
  | true=>
   grind
  | false=>
   rw[h7] at h hp;simp only[AE,CU,Ib,GU] at h hp ⊢;cases h2:k==2 with
   | true=>
    grind
   | false=>
    rw[h2] at h hp;simp only[OC,AE] at h hp;cases h3:k==3 with
    | true=>
     rw[h3] at hp;exact bH ts hp h
    | false=>
     rw[h3] at hp;simp only[AE,Dx] at hp;subst hp;rfl
theorem bH {v:Nat}:∀l:List Ty,ME l=true->Fj v true l=false->Fj v false l=decide (0<CW (·==(v:Int)) l)
 | [],_,_=>rfl
 | t::l,hp,h=>by
  simp only[ME,AD] at hp;simp only[Fj,G7] at h;rw[Fj,YW t hp.1 h.1,bH l hp.2 h.2,CW]
  grind
end
mutual
theorem YX {v:Nat} {m:Int->Bool} {b:Ty} (hb:Cz v true b=false):∀(t:Ty) (k:Nat),Cz v true t=false->Cz v true (J5 m b t k)=false
 | .mk c n i ts,k,h=>by
  have h':=h;rw[Cz] at h;rw[J5];cases h7:c==7 with
  | true=>
   grind
  | false=>
   rw[h7] at h;cases h3:c==3 with
   | false=>grind
   | true=>
    have:c=3:=by grind
    subst this;exact bI hb ts k h
theorem bI {v:Nat} {m:Int->Bool} {b:Ty} (hb:Cz v true b=false):∀(l:List Ty) (k:Nat),Fj v true l=false->Fj v true (Jf m b l k)=false
 | [],_,_=>rfl
 | t::l,k,h=>by
  simp only[Fj,G7] at h;rw[Jf];cases decide (k<BH m t) with
  | true=>
   simp only[AH,Fj,G7];exact⟨YX hb t k h.1,h.2⟩
  | false=>
   simp only[AE,Fj,G7];exact⟨h.1,bI hb l _ h.2⟩
end
section
variable {Au:Nat->Bool}
theorem TS {α:Type} {g:α->List Ty->FV} {P:Ty->Prop}:∀(l:List α) (out B:List Ty) (r:List Ty),(∀a∈l,∀B r,(g a B).1=some r->∀p∈r,P p)->(CX Au g l out B).1=some r->(∀p∈out,P p)->∀p∈r,P p
 | [],out,B,r,_,h,ho=>by grind[CX]
 | a::l,out,B,r,hg,h,ho=>by
  have h2:=hg a (by simp) B;rw[CX] at h;rcases hr:g a B with ⟨_|s,B1⟩
  .grind
  .rw[hr] at h h2
   simp only at h h2;cases hb:Au (out++s).length with
   | true=>grind
   | false=>
    rw[hb] at h;refine TS l (out++s) B1 r (λa ha=>hg a (by grind)) h ?_
    grind
theorem V8 {ex:List Ty->FV} (hr:∀B r,(ex B).1=some r->∀c∈r,pat c=true) {v:Nat}:∀(f:Nat) (t:Ty) (B r:List Ty),pat t=true->(CB Au ex v f t B).1=some r->∀p∈r,pat p=true
 | 0,t,B,r,ht,h=>by grind[CB]
 | f+1,t,B,r,ht,h=>by
  have h2:=hr B;rw[CB] at h;cases ho:Cz v false t with
  | false=>
   grind
  | true=>
   rw[ho] at h;simp only[AH] at h;rcases he:ex B with ⟨_|cs,B1⟩
   .grind
   .rw[he] at h h2
    simp only at h h2;exact TS cs [] B1 r (λc hc B' r' h'=>V8 hr f _ B' r' (R3 (h2 cs rfl c hc) t 0 ht) h') h (by simp)
theorem TT {ex:Ty->List Ty->FV} {P:Ty->Prop}:∀(l out:List Ty) (ok:Bool) (B:List Ty),(∀t∈l,∀B r,(ex t B).1=some r->∀p∈r,P p)->(∀p∈out,P p)->∀p∈(G3 ex l out ok B).1.1,P p
 | [],_,_,_,_,ho=>ho
 | t::l,out,ok,B,hg,ho=>by
  have h2:=hg t (by simp) B;rw[G3];rcases hr:ex t B with ⟨_|s,B1⟩
  .exact TT l out false B1 (λa ha=>hg a (by grind)) ho
  .rw[hr] at h2
   refine TT l (out++s) ok B1 (λa ha=>hg a (by grind)) ?_
   grind
theorem bJ {ex:Ty->List Ty->FV} {P:Ty->Prop}:∀(l:List Ty) (out:List (List Ty)) (B:List Ty) (r:List (List Ty)),(∀t∈l,∀B r,(ex t B).1=some r->∀p∈r,P p)->(EI ex l out B).1=some r->(∀o∈out,∀p∈o,P p)->∀o∈r,∀p∈o,P p
 | [],out,B,r,_,h,ho=>by grind[EI]
 | t::l,out,B,r,hg,h,ho=>by
  have h2:=hg t (by simp) B;rw[EI] at h;rcases hr:ex t B with ⟨_|s,B1⟩
  .grind
  .rw[hr] at h h2
   refine bJ l (out++[s]) B1 r (λa ha=>hg a (by grind)) h ?_
   grind
theorem V9:∀(ls out r:List (List Ty)),(∀l∈ls,∀p∈l,pat p=true)->DR Au ls out=some r->(∀p∈out,ME p=true)->∀p∈r,ME p=true
 | [],out,r,_,h,ho=>by grind[DR]
 | l::ls,out,r,hl,h,ho=>by
  rw[DR] at h;cases hb:Au (out.flatMap λp=>l.map λx=>p++[x]).length with
  | true=>grind
  | false=>
   rw[hb] at h;refine V9 ls _ r (λa ha=>hl a (by grind)) h ?_
   grind[Q3,ME]
theorem Oz:∀(f:Nat) (t:Ty) (B r:List Ty),inp t=true->(Ao Au f t B).1=some r->∀p∈r,pat p=true
 | 0,_,_,_,_,h=>by cases h
 | f+1,.mk k n i ts,B,r,hi,h=>by
  have ih:=Oz f;rw[inp] at hi;rw[Ao] at h;cases hk0:k==0||k==2||k==7 with
  | true=>
   rw[hk0] at h;cases hb:Au 1 with
   | true=>grind
   | false=>
    rw[hb] at h;cases h;intro p hp;rw[DF.1 hp];have:k=0\/k=2\/k=7:=by grind
    rcases this with rfl|rfl|rfl
    all_goals assumption
  | false=>
   rw[hk0] at h;simp only[AE] at h;have h0:(k==0)=false:=by grind
   rw[h0] at hi;simp only[AE] at hi;cases MD:k==4 with
   | true=>
    rw[MD] at h hi;simp only[AH,Df,Dg] at h hi;have key:=TT (P:=λp=>pat p=true) ts [] true B (λt hm B' r' h'=>ih t B' r' (TR hi hm) h') (by simp)
    grind
   | false=>
    rw[MD] at h hi;simp only[AE,Bool.or_false] at h hi;cases Ml:k==3 with
    | true=>
     rw[Ml] at h hi;simp only[AH,Dg] at h hi;have key:=λr=>bJ (P:=λp=>pat p=true) ts [] B r (λt hm B' r' h'=>ih t B' r' (TR hi hm) h')
     rcases hs:EI (Ao Au f) ts [] B with ⟨_|ls,B1⟩
     .grind
     .rw[hs] at h key
      simp only at h key;cases he:ls.any List.isEmpty with
      | true=>grind
      | false=>
       rw[he] at h;simp only[AE] at h;cases hc:DR Au ls [[]] with
       | none=>grind
       | some all=>
        rw[hc] at h;simp only at h;cases hb:Au all.length with
        | true=>grind
        | false=>
         rw[hb] at h;cases h;intro p hp;obtain⟨a,ha,rfl⟩:=Cp.1 hp;exact V9 ls _ all (key ls rfl (by simp)) hc (by simp[ME]) a ha
    | false=>
     rw[Ml] at h hi;simp only[AE,GU] at h hi;cases YN:k==6 with
     | false=>
      grind
     | true=>
      rw[YN] at h hi;simp only[AH] at h hi
      match ts,hi with
      | [],_=>cases h; simp
      | [_],_=>cases h; simp
      | _::_::_::_,_=>cases h; simp
      | [b,body],hi=>
       simp only[TQ,AD] at hi;simp only[eE] at h;have hl:=ih (sub B.length 0 body) (B++[b]);rcases hs:Ao Au f (sub B.length 0 body) (B++[b]) with ⟨_|l,B1⟩
       .grind
       .rw[hs] at h hl
        simp only at h hl;have hl':=hl l (kM _ _ 0 hi.2.1) rfl;have key:=λr h1=>TS (Au:=Au) (g:=Bl Au (Ao Au f b) B.length) (P:=λp=>pat p=true) l [] B1 r h1
        grind[Bl,V8]
end
attribute [local simp] Bw B6 KS KT AO C1 GC wO setCells CR EG DQ Cu BD alive Cb Fi Hs jo Ay DC BV GL DY D0 qY oO okB qZ qa qb qc qd fK qe qf qg qh qi qj qm qo qp qt qu okF qv qw qx qy rC U2 rD RJ RK RL RM rE rF rG rH rI rJ rK rL rM rN Gu rO oP rP rQ rR rS rT rU rV rW rX rY Cm g0 g1 xI xL xM xF xG xC lf Y4 Y5
section
variable {R:Nat->Option (List PV)}
mutual
theorem kN:∀(t:Ty),size t<2 ^ 38->P3 t->∀(x:AV),A5 t x->AL (env R) 73 [x] λr=>r=BB (valid t)
 | .mk k n i ts,h,ho,x,hx=>by
  obtain⟨a,rfl,ha⟩:=hx;simp only[size] at h;simp only[P3] at ho;have hs:AQ ts<2 ^ 38:=by omega
  have hn:=ho.1;have ih:=bK ts hs ho.2
  suffices H:∀Post:AV->Prop,Post (BB (valid (.mk k n i ts)))->ug R 0 0 0 (.agg [AA k,SS n,AA i,a]) ⟨[],[]⟩ (QP Post) from
   e73 (u0:=.agg [AA k,SS n,AA i,a]) (by simp[ha.close]) (H _ rfl)
  intro Post hP;refine ANm ?_;simp only[valid] at hP;unfold root at hP;cases b2:(k==2) with
  | true=>
   have e2:k=2:=by grind
   subst e2
   by_cases hi:i=0
   .subst hi
    simp[ha.ok,ha.BN,AR]
    grind[P4]
   .have bi:(i==0)=false:=by grind
    rw[bi] at hP;simpa[QP,QI,ha.ok,ha.BN,AR,hi,bne,bi] using hP
  | false=>
   have e2:¬ k=2:=by grind
   rw[b2] at hP
   by_cases hn0:n=[]
   .subst hn0
    cases b5:(k==5) with
    | true=>
     have e5:k=5:=by grind
     subst e5;simp[ha.ok,ha.BN,AR]
     grind[P4]
    | false=>
     have e5:¬ k=5:=by grind
     rw[b5] at hP
     by_cases hi:i=0
     .subst hi
      simp[ha.ok,ha.BN,AR,e2,e5,bne,b2,b5]
      grind[P4]
     .have bi:(i==0)=false:=by grind
      rw[bi] at hP;simpa[QP,QI,ha.ok,ha.BN,AR,e2,e5,hi,bne,b2,b5,bi] using hP
   .have bn:(n==[])=false:=by grind
    rw[bn] at hP;simpa[QP,QI,ha.ok,ha.BN,AR,e2,hn0,bne,b2,bn] using hP
theorem bK:∀(l:List Ty),AQ l<2 ^ 38->RN l->∀t∈l,AL (env R) 73 [.agg ((Aa t).map .pv)] λr=>r=BB (valid t)
 | [],_,_,_,h=>by cases h
 | e::l,ho,hk,a,h=>by
  simp only[AQ] at ho;simp only[RN] at hk;rcases Az.1 h with h' | h'
  .rw[h']
   exact kN e (by omega) hk.1 _ (A5.Bu e)
  .exact bK l (by omega) hk.2 a h'
end
theorem TU {t:Ty} (h:size t<2 ^ 38) (ho:P3 t) {x:AV} (hx:A5 t x):AL (env R) 42 [x] λr=>r=AA (verdict t):=by
 have e1:=Pu (R:=R) t (by omega) x hx;have e2:=S0 (R:=R) t (by omega) x hx;have e3:=Le (R:=R) t h ho x hx;have hv:verdict t=bif decide (200<size t)||decide (12<depth t) then 4 else bif valid t then 0 else 2:=rfl
 generalize hz:size t=z at *;generalize hd:depth t=d at *;generalize hw:valid t=w at *;obtain⟨k,n,i,ts⟩:=t;obtain⟨a,rfl,ha⟩:=hx;refine e42 (u0:=.agg [AA k,SS n,AA i,a]) (by simp[ha.close]) (AD1 ?_);simp[ha.ok];refine AG e1 ?_;rintro v rfl
 have fin:∀b:Bool,b=(decide (200<z)||decide (12<d))->AO (BB b) (QP (λr=>r=AA (verdict (.mk k n i ts))) (AA 4) ⟨[[AA k,SS n,AA i,a]],[]⟩)
   (EG (env R) ⟨[[AA k,SS n,AA i,a]],[]⟩ (some 4) (.ptr 0 0) λa13=>EK (env R) (Cu (env R) 42 0 0 0) (.func (.func 86) [] []) [a13] ⟨[[AA k,SS n,AA i,a]],[]⟩ λa14 gN=>DY a14 λa15=>AO a15 (QP (λr=>r=AA (verdict (.mk k n i ts))) (AA 2) gN) (uh R 0 0 0 gN (QP λr=>r=AA (verdict (.mk k n i ts))))):=by
  rintro b rfl;cases hb:(decide (200<z)||decide (12<d)) with
  | true=>simp[*,QP]
  | false=>
   simp;refine AG e3 ?_;rintro v rfl;cases w with
   | false=>simp[*,QP]
   | true=>
    simp;refine ANo ?_;simp[*,QP]
 by_cases c1:200<z
 .have oW:(200<(z:Int)):=by omega
  have oX:¬ ((z:Int)<=200):=by omega
  have:=fin true (by grind);simpa[oW,oX] using this
 .have oW:¬ (200<(z:Int)):=by omega
  have oX:((z:Int)<=200):=by omega
  simp[oW,oX];refine AG e2 ?_;rintro v rfl
  by_cases c2:12<d
  .have c2':(12<(d:Int)):=by omega
   have c2n:¬ ((d:Int)<=12):=by omega
   have:=fin true (by grind);simpa[oW,oX,c2',c2n] using this
  .have c2':¬ (12<(d:Int)):=by omega
   have c2n:((d:Int)<=12):=by omega
   have:=fin false (by grind);simpa[oW,oX,c2',c2n] using this
theorem NL {t:Ty} (h:size t<2 ^ 60) (ho:P3 t) {x:AV} (hx:A5 t x):AL (env R) 42 [x] λr=>r=AA (verdict t):=by
 by_cases hs:size t<2 ^ 38
 .grind[TU]
 have e1:=Pu (R:=R) t (by omega) x hx;have hv:verdict t=4:=by grind[verdict]
 rw[hv];generalize hz:size t=z at *;obtain⟨k,n,i,ts⟩:=t;obtain⟨a,rfl,ha⟩:=hx;refine e42 (u0:=.agg [AA k,SS n,AA i,a]) (by simp[ha.close]) (AD1 ?_);simp[ha.ok];refine AG e1 ?_;rintro v rfl;have oW:(200<(z:Int)):=by omega
 have oX:¬ ((z:Int)<=200):=by omega
 simp[*,QP]
theorem RP {t:Ty} (h:size t<2 ^ 38) (ho:P3 t) {x:AV} (hx:A5 t x):AL (env R) 30 [x] λr=>r=AA (verdict t):=by
 have e1:=Nj (R:=R) t (by omega) x hx;have e2:=Qu (R:=R) t (by omega) x hx;have e3:=kN (R:=R) t h ho x hx;have hv:verdict t=bif decide (200<size t)||decide (12<depth t) then 4 else bif valid t then 0 else 2:=rfl
 generalize hz:size t=z at *;generalize hd:depth t=d at *;generalize hw:valid t=w at *;obtain⟨k,n,i,ts⟩:=t;obtain⟨a,rfl,ha⟩:=hx;refine e30 (u0:=.agg [AA k,SS n,AA i,a]) (by simp[ha.close]) (AD2 ?_);simp[ha.ok];refine AG e1 ?_;rintro v rfl
 have fin:∀b:Bool,b=(decide (200<z)||decide (12<d))->AO (BB b) (QP (λr=>r=AA (verdict (.mk k n i ts))) (AA 4) ⟨[[AA k,SS n,AA i,a]],[]⟩)
   (EG (env R) ⟨[[AA k,SS n,AA i,a]],[]⟩ (some 4) (.ptr 0 0) λa13=>EK (env R) (Cu (env R) 30 0 0 0) (.func (.func 73) [] []) [a13] ⟨[[AA k,SS n,AA i,a]],[]⟩ λa14 gN=>DY a14 λa15=>AO a15 (QP (λr=>r=AA (verdict (.mk k n i ts))) (AA 2) gN) (uj R 0 0 0 gN (QP λr=>r=AA (verdict (.mk k n i ts))))):=by
  rintro b rfl;cases hb:(decide (200<z)||decide (12<d)) with
  | true=>simp[*,QP]
  | false=>
   simp;refine AG e3 ?_;rintro v rfl;cases w with
   | false=>simp[*,QP]
   | true=>
    simp;refine ANp ?_;simp[*,QP]
 by_cases c1:200<z
 .have oW:(200<(z:Int)):=by omega
  have oX:¬ ((z:Int)<=200):=by omega
  have:=fin true (by grind);simpa[oW,oX] using this
 .have oW:¬ (200<(z:Int)):=by omega
  have oX:((z:Int)<=200):=by omega
  simp[oW,oX];refine AG e2 ?_;rintro v rfl
  by_cases c2:12<d
  .have c2':(12<(d:Int)):=by omega
   have c2n:¬ ((d:Int)<=12):=by omega
   have:=fin true (by grind);simpa[oW,oX,c2',c2n] using this
  .have c2':¬ (12<(d:Int)):=by omega
   have c2n:((d:Int)<=12):=by omega
   have:=fin false (by grind);simpa[oW,oX,c2',c2n] using this
theorem TV {t:Ty} (h:size t<2 ^ 60) (ho:P3 t) {x:AV} (hx:A5 t x):AL (env R) 30 [x] λr=>r=AA (verdict t):=by
 by_cases hs:size t<2 ^ 38
 .grind[RP]
 have e1:=Nj (R:=R) t (by omega) x hx;have hv:verdict t=4:=by grind[verdict]
 rw[hv];generalize hz:size t=z at *;obtain⟨k,n,i,ts⟩:=t;obtain⟨a,rfl,ha⟩:=hx;refine e30 (u0:=.agg [AA k,SS n,AA i,a]) (by simp[ha.close]) (AD2 ?_);simp[ha.ok];refine AG e1 ?_;rintro v rfl;have oW:(200<(z:Int)):=by omega
 have oX:¬ ((z:Int)<=200):=by omega
 simp[*,QP]
end
section
variable {R:Nat->Option (List PV)}
theorem LK (b:Bool):AL (env R) 113 [BB b] λr=>∃c:Int,r=AA c/\c≠0:=by
 refine AUr (u0:=BB b) (by simp) (AI3 ?_);refine⟨λ_=>⟨_,Gu,-1,rfl,by omega⟩,λ_=>AI4 ⟨_,Gu,1,rfl,by omega⟩⟩
theorem uk {k i k' i':Int} {n n':List UInt8} {ts ts':List Ty} {a a':AV} (ha:Av a (AP ts)) (Jb:Av a' (AP ts')) (hl:AQ ts<2 ^ 60) (hlen:ts.length=ts'.length)
  (ih:∀t∈ts,∀(t':Ty) (x x':AV),A5 t x->A5 t' x'->AL (env R) 79 [x,x'] λr=>∃c:Int,r=AA c/\(c=0<->t=t')) {Post:AV->Prop} :
  ∀(j q:Nat),q+j=ts.length->(∀c:Int,(c=0<->ts.drop q=ts'.drop q)->Post (AA c))->kO R 0 0 0 (.ptr 0 0) (.ptr 1 0) (AA q) ⟨[[AA k,SS n,AA i,a],[AA k',SS n',AA i',a']],[]⟩ (QP Post):=by
 have U3:=Bk ts;intro j
 induction j with
 | zero=>
  intro q hi hP;refine AD3 ?_;have h1:¬ ((q:Int)<ts.length):=by omega
  simp[ha.BN,AR,h1];refine ANq ?_;have h2:ts.drop q=[]:=Cj (by omega);have h3:ts'.drop q=[]:=Cj (by omega);exact⟨_,Gu,hP 0 (by grind)⟩
 | succ j Et=>
  intro q hi hP;refine AD3 ?_;have h1:((q:Int)<ts.length):=by omega
  obtain⟨t,ht⟩:∃t,ts[q]?=some t:=⟨_,Ap (by omega)⟩;obtain⟨t',ht'⟩:∃t,ts'[q]?=some t:=⟨_,Ap (by omega)⟩;rw[drop_cons ht,drop_cons ht'] at hP;have e3:=ih t (BA ht) t' _ _ (A5.Bu t) (A5.Bu t');simp[ha.BN,AR,h1];refine ANr ?_;simp;refine BO ha (row:=Aa t) (by omega) (by simp[*,BJ]) (Ad t) (by omega) ?_;simp[Ad];refine BO Jb (row:=Aa t') (by omega) (by simp[*,BJ]) (Ad t') (by omega) ?_;have tk:∀t:Ty,List.take 4 ((Aa t).map AV.pv)=(Aa t).map .pv:=λt=>Cv (by simp[Ad])
  simp[Ad,<-List.map_take,tk];refine AG e3 ?_;rintro v ⟨c,rfl,hc⟩
  by_cases h0:c=0
  .have e:t=t':=hc.1 h0
   subst h0;simp;refine ANs ?_;simp only[Cb,xI];refine⟨⟨AZ,AZ⟩,B9 (by omega) (by omega) ?_⟩;have:=Et (q+1) (by omega) (λc h=>hP c (by rw[h]; grind))
   grind
  simp_all[QP]
mutual
theorem bL:∀(t:Ty),size t<2 ^ 38->∀(t':Ty) (x x':AV),A5 t x->A5 t' x'->AL (env R) 79 [x,x'] λr=>∃c:Int,r=AA c/\(c=0<->t=t')
 | .mk k n i ts,h,.mk k' n' i' ts',x,x',hx,hx'=>by
  obtain⟨a,rfl,ha⟩:=hx;obtain⟨a',rfl,Jb⟩:=hx';simp only[size] at h;have ih:=WA ts (by omega)
  suffices H:∀Post:AV->Prop,(∀c:Int,(c=0<->Ty.mk k n i ts=Ty.mk k' n' i' ts')->Post (AA c))->um R 0 0 0 (.agg [AA k,SS n,AA i,a]) (.agg [AA k',SS n',AA i',a']) ⟨[],[]⟩ (QP Post) from
   e79 (u0:=.agg [AA k,SS n,AA i,a]) (u1:=.agg [AA k',SS n',AA i',a']) (by simp[ha.close,Jb.close]) (H _ λc hc=>⟨c,rfl,hc⟩)
  intro Post hP;refine ANt ?_;simp only[Ty.mk.injEq] at hP
  by_cases h1:k=k'
  .subst h1
   by_cases h2:n=n'
   .subst h2
    by_cases h3:i=i'
    .subst h3
     by_cases h4:ts.length=ts'.length
     .have h4':((ts.length:Int)=ts'.length):=by omega
      simp[ha.ok,Jb.ok,ha.BN,Jb.BN,AR,h4',bne];refine ANu ?_;have:=uk (k:=k) (i:=i) (k':=k) (i':=i) (n:=n) (n':=n) ha Jb (by omega) h4 ih ts.length 0 (by omega) (Post:=Post) (by grind);omega
     .have h4':¬ ((ts.length:Int)=ts'.length):=by omega
      simp[ha.ok,Jb.ok,ha.BN,Jb.BN,AR,h4',bne];refine AG (LK _) ?_;rintro v ⟨c,rfl,hc⟩;exact⟨_,Gu,hP c (by grind)⟩
    .have h3':(i==i')=false:=by grind
     simp[ha.ok,Jb.ok,h3,bne];refine AG (LK _) ?_;rintro v ⟨c,rfl,hc⟩;exact⟨_,Gu,hP c (by omega)⟩
   .simp[ha.ok,Jb.ok,h2,bne]
    refine AG (LK _) ?_;rintro v ⟨c,rfl,hc⟩;exact⟨_,Gu,hP c (by grind)⟩
  .simp[ha.ok,Jb.ok,h1,bne]
   refine AG (LK _) ?_;rintro v ⟨c,rfl,hc⟩;exact⟨_,Gu,hP c (by omega)⟩
theorem WA:∀(l:List Ty),AQ l<2 ^ 38->∀t∈l,∀(t':Ty) (x x':AV),A5 t x->A5 t' x'->AL (env R) 79 [x,x'] λr=>∃c:Int,r=AA c/\(c=0<->t=t')
 | [],_,_,h=>by cases h
 | e::l,ho,a,h=>by
  simp only[AQ] at ho;rcases Az.1 h with h' | h'
  .rw[h']
   exact bL e (by omega)
  .exact WA l (by omega) a h'
end
theorem O0 {t t':Ty} {x x':AV} (h:size t<2 ^ 38) (hx:A5 t x) (hx':A5 t' x'):AL (env R) 35 [x,x'] λr=>∃b:Bool,r=BB b/\(b=true<->t=t'):=by
 have e:=bL (R:=R) t h t' x x' hx hx';obtain⟨k,n,i,ts⟩:=t;obtain⟨k',n',i',ts'⟩:=t';obtain⟨a,rfl,ha⟩:=hx;obtain⟨a',rfl,Jb⟩:=hx';refine e35 (u0:=.agg [AA k,SS n,AA i,a]) (u1:=.agg [AA k',SS n',AA i',a']) (by simp[ha.close,Jb.close]) (ANv ?_);simp[ha.ok,Jb.ok];refine AG e ?_;rintro v ⟨c,rfl,hc⟩;refine⟨⟨rfl,rfl⟩,_,Gu,?_⟩
 grind
end
theorem Ax {b:Bool} {s:AM} {W:(AV->AM->Prop)->Prop} {K:AV->AM->Prop} (h:W K):Hs (BB b) b s W K:=⟨λ_=>h,λh=>absurd rfl h⟩
theorem J7 {b c:Bool} {s:AM} {W:(AV->AM->Prop)->Prop} {K:AV->AM->Prop} (hn:b≠c) (h:K (.tuple []) s):Hs (BB b) c s W K:=⟨λh=>absurd h hn,λ_=>h⟩
theorem Cq {s:AM} {W:(AV->AM->Prop)->Prop} {K:AV->AM->Prop} (h:K (.tuple []) s):Hs (BB true) false s W K:=J7 (by decide) h
theorem Bx {s:AM} {W:(AV->AM->Prop)->Prop} {K:AV->AM->Prop} (h:K (.tuple []) s):Hs (BB false) true s W K:=J7 (by decide) h
theorem BP {A B:Prop} (h:A):AO (BB true) A B:=⟨λ_=>h,λh=>by cases h⟩
theorem BE {A B:Prop} (h:B):AO (BB false) A B:=⟨λh=>(by cases h),λ_=>h⟩
theorem pk {c:Bool} {a b:AV} {K:AV->Prop} (h:K (bif c then a else b)):Ay (BB c) a b K:=h
theorem Bd {k:IntKind} {a b:Int} {K:AV->Prop} (h:K (BB (a==b))):Cb k .eql (.pv (.sc (.int k a))) (.pv (.sc (.int k b))) K:=⟨⟨rfl,rfl⟩,h⟩
theorem Fl {k:IntKind} {a b:Int} {K:AV->Prop} (h:K (BB (a != b))):Cb k .neq (.pv (.sc (.int k a))) (.pv (.sc (.int k b))) K:=⟨⟨rfl,rfl⟩,h⟩
theorem A2 {a b:Int} {K:AV->Prop} (h:K (BB (a<b))):Cb .i64 .lss (AA a) (AA b) K:=⟨⟨rfl,rfl⟩,h⟩
theorem YY {a b:Int} {K:AV->Prop} (h:K (BB (a<=b))):Cb .i64 .leq (AA a) (AA b) K:=⟨⟨rfl,rfl⟩,h⟩
theorem JS {a b:Int} {K:AV->Prop} (h:K (BB (a>b))):Cb .i64 .gtr (AA a) (AA b) K:=⟨⟨rfl,rfl⟩,h⟩
theorem JT {a b:Int} {K:AV->Prop} (h:K (BB (a>=b))):Cb .i64 .geq (AA a) (AA b) K:=⟨⟨rfl,rfl⟩,h⟩
theorem CO {a b:Int} {K:AV->Prop} (h1:-(2 ^ 63)<=a+b) (h2:a+b<2 ^ 63) (h:K (AA (a+b))):Cb .i64 .add (AA a) (AA b) K:=⟨⟨rfl,rfl⟩,B9 h1 h2 h⟩
theorem Gi {a b:Int} {K:AV->Prop} (h1:-(2 ^ 63)<=a-b) (h2:a-b<2 ^ 63) (h:K (AA (a-b))):Cb .i64 .sub (AA a) (AA b) K:=⟨⟨rfl,rfl⟩,B9 h1 h2 h⟩
theorem NM {z ps cs:_} {K:AV->Prop} (hf:GC z ps=some cs) (h:K (.agg cs)):C1 z ps K:=by
 simp only[C1,hf,wO];exact h
theorem nt {b:Bool} {K:AV->Prop} (h:K (BB !b)):DY (BB b) K:=h
theorem CC {l:List AV} {i:Nat} {v:AV} {K:AV->Prop} (hi:l[i]?=some v) (h:K v):DC (.tuple l) i K:=by
 simp only[DC,wO,hi];exact h
theorem CT {s:AM} {v:AV} {cs:List AV} {K:AV->AM->Prop} (hc:cellsOf v=cs) (ho:cs.all A1=true) (h:K (.ptr s.bs.length 0) ⟨s.bs++[cs],s.ts⟩):B6 s v K:=by
 unfold B6;rw[hc];exact⟨ho,h⟩
theorem Bi {s:AM} {cs:List AV} {K:AV->AM->Prop} (h:K (.ptr s.bs.length 0) ⟨s.bs++[cs],s.ts⟩):Bw s cs K:=h
theorem Ak {s:AM} {id:Nat} {c:AV} {cs:List AV} (h:s.bs[id]?=some (c::cs)):alive s id=true:=by
 simp[alive,h]
theorem FG {s:AM} {id off:Nat} {K:AV->Prop} (ha:alive s id=true) (h:K (.ptr id off)):D0 s (.ptr id off) K:=⟨ha,h⟩
theorem AW {s:AM} {id off d:Nat} {K:AV->Prop} (ha:alive s id=true) (h:K (.ptr id (off+d))):BD s (.ptr id off) d K:=⟨ha,h⟩
theorem Ag {E:Env} {s:AM} {id off:Nat} {cs:List AV} {v:AV} {K:AV->Prop} (hb:s.bs[id]?=some cs) (hv:cs[off]?=some v) (h:K v):EG E s none (.ptr id off) K:=by
 simp only[EG,hb,wO,DQ,hv,xL,xM,xF,xG];exact h
theorem Af {E:Env} {s:AM} {id k:Nat} {cs:List AV} {K:AV->Prop} (hb:s.bs[id]?=some cs) (hk:cs.length=k) (h:K (.agg cs)):EG E s (some k) (.ptr id 0) K:=by
 simp only[EG,hb,wO,DQ,Ku,xL,xM,xF,xG];refine⟨by omega,?_⟩;rw[Cv (by omega)];exact h
theorem BI {s:AM} {a:AV} {n:Nat} {K:AV->Prop} (hl:BN s a=some n) (h:K (AA n)):BV s a K:=by
 simp only[BV,hl,wO];exact h
theorem AI5 {a b:List UInt8} {K:AV->Prop} (hl:a.length+b.length<2 ^ 63) (h:K (SS (a++b))):Fi .add (SS a) (SS b) K:=by
 simp only[Fi];exact⟨by simpa using hl,by simpa using h⟩
theorem sln {w:List UInt8} {K:AV->Prop} (h:K (AA w.length)):GL (SS w) K:=by assumption
theorem six {w:List UInt8} {i:Int} {c:UInt8} {K:AV->Prop} (h0:0<=i) (hc:w[i.toNat]?=some c) (h:K (.pv (.sc (.int .u8 c.toNat)))):L9 (SS w) (AA i) K:=⟨h0,c,hc,h⟩
theorem BZ {L:A3} {s:AM} {id k:Nat} {cs old:List AV} {K:AM->Prop} (hb:s.bs[id]?=some old) (hk:cs.length=k) (ho:old.length=k) (h0:0<k) (hro:L.ro<=id) (hok:cs.all A1=true) (hn:L.n0<=id\/IM cs=true) (h:K ⟨s.bs.set id cs,s.ts⟩):CR L s k (.ptr id 0) (.agg cs) K:=by
 have hce:cellsOf (.agg cs)=cs:=rfl
 have AI6:∀(a b:List AV),a.length=b.length->setCells a 0 b=b:=by
  intro a b hab
  have gen:∀(b pre old:List AV),old.length=b.length->setCells (pre++old) pre.length b=pre++b:=by
   intro b
   induction b with
   | nil=>intro pre old h; cases old with
    | nil=>rfl
    | cons _ _=>grind
   | cons x b ih=>
    intro pre old h;cases old with
    | nil=>grind
    | cons y old=>
     have:=ih (pre++[x]) old (by grind)
     simp_all[setCells]
  simpa using gen b [] a hab
 simp only[CR,hb,wO,hce];refine⟨⟨hk,by omega,hro,hok,hn,by omega⟩,?_⟩;rw[AI6 old cs (by omega)];exact h
theorem oY {P:Program} {t:TypeId} (ht:P.underlying t=some .string) (c:UInt8) (w:List UInt8):quick P (Instr.sliceAt t (.string ⟨(c::w).toArray⟩) (some (.int .i64 1)) none none)=some (.string ⟨w.toArray⟩):=by
 unfold Instr.sliceAt;refine Cd (I3 ht) ?_;simp only;unfold Instr.slice;refine Cd (I3 ht) ?_;have hs:(1:Int)<=((⟨(c::w).toArray⟩:ByteArray).size:Int):=by grind[ByteArray.size]
 simp only[Instr.sliceBounds,Instr.sliceBound,asIntOf,hs,Option.isSome_none,DE,IZ,pure_bind,Kt,GR];have e:(⟨(c::w).toArray⟩:ByteArray).extract 1 (⟨(c::w).toArray⟩:ByteArray).size=⟨w.toArray⟩:=by simp[*,ByteArray.ext_iff,ByteArray.size]
 show quick P (pure (Value.string ((⟨(c::w).toArray⟩:ByteArray).extract 1 (⟨(c::w).toArray⟩:ByteArray).size)))=_
 rw[e];rfl
theorem oZ {E:Env} {L:A3} {s:AM} {lk:Lk} {o:Oper} {K:AV->AM->Prop} {t:TypeId} {x:Operand} {c:UInt8} {w:List UInt8} (ho:o.op=.slice t x (some (.const (.int .i64 1))) none none) (ht:E.P.underlying t=some .string) (hx:IE lk x=some (SS (c::w)))
  (h:K (SS w) s):TW E L s lk o K:=by
 refine⟨SS w,s,λρ hA=>?_,h⟩;have ex:=CA hA hx
 have h1:EZ ρ o.op.operands.toList=true:=by
  have e:o.op.operands.toList=[x,.const (.int .i64 1)]:=by rw[ho]; rfl
  rw[e];have e1:AX ρ (.const (.int .i64 1))=.pv (.sc (.int .i64 1)):=rfl
  grind[EZ,HJ]
 have h2:Cs E ρ o=some (SS w):=by
  have:quick E.P (execOp (λz=>(HJ (AX ρ z)).getD undef) o)=some (.value (.string ⟨w.toArray⟩)):=by
   unfold execOp;rw[ho];have e1:AX ρ (.const (.int .i64 1))=.pv (.sc (.int .i64 1)):=rfl;simp only[ex,e1,HJ,Ie,MY,Option.map_none];exact Cd (oY ht c w) rfl
  simp only[Cs,h1,GR,this];rfl
 grind[PW,Ca]
theorem oa {E:Env} {L:A3} {s:AM} {lk:Lk} {o:Oper} {K:AV->AM->Prop} {t c:TypeId} {x:Operand} (ho:o.op=.binOp .eql t x (.const .nilIface) c) (hx:IE lk x=some (.pv (.sc .nilIface)))
  (hq:quick E.P (do eqGuard .eql t x (.const .nilIface) .nilIface .nilIface; binOp .eql t .nilIface .nilIface)=some (.bool true)) (h:K (BB true) s):TW E L s lk o K:=by
 refine⟨BB true,s,λρ hA=>?_,h⟩;have ex:=CA hA hx;have e1:AX ρ (.const .nilIface)=.pv (.sc .nilIface):=rfl
 have h1:EZ ρ o.op.operands.toList=true:=by
  have e:o.op.operands.toList=[x,.const .nilIface]:=by rw[ho]; rfl
  grind[EZ,HJ]
 have h2:Cs E ρ o=some (BB true):=by
  have:quick E.P (execOp (λz=>(HJ (AX ρ z)).getD undef) o)=some (.value (.bool true)):=by
   unfold execOp;rw[ho];simp only[ex,e1,HJ,Ie];exact Cd hq rfl
  simp only[Cs,h1,GR,this];rfl
 grind[IP,Dv,sameKind,rowsOf,Ii,Ca]
theorem WB:∀(f n:Nat) (acc:List UInt8),acc.length<(Kc (f+1) n acc).length/\(Kc (f+1) n acc).length<=acc.length+f+1
 | 0,n,acc=>by grind[Kc]
 | f+1,n,acc=>by
  rw[Kc];cases Nat.blt n 10 with
  | true=>simp
  | false=>
   have:=WB f (n / 10) (UInt8.ofNat (48+n % 10)::acc)
   grind
theorem TX (n:Nat):0<(G4 n).length/\(G4 n).length<=20:=by grind[WB,G4]
mutual
def ren:Ty->Ty
 | .mk k n i ts=>bif k==7 then .mk 2 (36::G4 i.toNat) 0 [] else .mk k n i (Bq ts)
def Bq:List Ty->List Ty
 | []=>[]
 | t::l=>ren t::Bq l
end
theorem Bf:∀l:List Ty,Bq l=l.map ren
 | []=>rfl
 | t::l=>by rw[Bq,Bf l]; rfl
mutual
def Fm (N:Nat):Ty->Bool
 | .mk k n i ts=>bif k==7 then ts.isEmpty&&(decide (0<=i)&&decide (i<N)) else !(n.head?==some 36)&&(decide (n.length<2 ^ 40)&&GD N ts)
def GD (N:Nat):List Ty->Bool
 | []=>true
 | t::l=>Fm N t&&GD N l
end
structure NN (R:RT):Prop where
 ito:∀n:Nat,n<2 ^ 40->AL (env R) 123 [AA n] λv=>v=SS (G4 n)
 ato:∀n:Nat,n<2 ^ 40->AL (env R) 124 [SS (G4 n)] λv=>v=.tuple [AA n,.pv (.sc .nilIface)]
section
variable {R:RT}
theorem AB1 {c:UInt8} {w:List UInt8} (h:((c::w).head?==some 36)=false):(((c.toNat:Int)) != 36)=true:=by
 simp only[List.head?_cons] at h;have:c≠36:=by grind
 simp only[bne_iff_ne,ne_eq];intro h1;apply this;have h2:c.toNat=36:=by omega
 exact UInt8.toNat_inj.1 h2
theorem J8 (hn:NN R) {N:Nat} (hN:N<=2 ^ 40) {k i:Int} {n:List UInt8} {ts:List Ty} (ht:Fm N (.mk k n i ts)=true) {x:AV} (hx:A5 (ren (.mk k n i ts)) x) :
  AL (env R) 92 [x] λr=>r=bif k==7 then .tuple [AA i,BB true] else .tuple [AA 0,BB false]:=by
 rw[ren] at hx;rw[Fm] at ht
 have go:∀(k' i':Int) (n':List UInt8) (a:AV) (rows:List (List PV)),Av a rows->(∀Post:AV->Prop,Post (bif k==7 then .tuple [AA i,BB true] else .tuple [AA 0,BB false])->uo R 0 0 0 (.agg [AA k',SS n',AA i',a]) ⟨[],[]⟩ (QP Post)) ->
   AL (env R) 92 [.agg [AA k',SS n',AA i',a]] λr=>r=bif k==7 then .tuple [AA i,BB true] else .tuple [AA 0,BB false]:=by
  intro k' i' n' a rows ha h;exact e92 (u0:=.agg [AA k',SS n',AA i',a]) (by simp[ha.close]) (h _ rfl)
 cases b7:(k==7) with
 | true=>
  rw[b7] at hx ht;simp only[AH,AD,CZ] at hx ht;obtain⟨a,rfl,ha⟩:=hx;have hd:=TX i.toNat;have go':=go 2 0 (36::G4 i.toNat) a _ ha;rw[b7] at go';refine go' λPost hP=>AD4 (CT rfl (by simp[ha.ok]) (AW rfl (Ag rfl rfl (Fl ?_))))
  refine Ax (AW rfl (Ax (Ag rfl rfl (Ax (sln (Ax (A2 (pk ?_))))))));have h2:¬ (((36::G4 i.toNat).length:Nat):Int)<2:=by grind
  rw[BF h2];refine Ax (AW rfl (Ax (Ag rfl rfl (Ax (six (c:=36) (by omega) rfl (Ax (Fl (pk (BE ?_)))))))));refine ANw (AW rfl (Ag rfl rfl ?_));refine oZ (t:=9) (x:=.tmp 23) (by rfl) (by kernel_rfl) rfl ?_;refine AG (hn.ato i.toNat (by omega)) ?_;rintro v rfl;refine CC rfl (CC rfl (oa (t:=136) (c:=136) (x:=.tmp 29) (by rfl) rfl (by kernel_rfl) ?_));have e:((i.toNat:Nat):Int)=i:=by omega
  rw[e];exact⟨_,by rfl,hP⟩
 | false=>
  rw[b7] at hx ht;simp only[AE,AD,CZ] at hx ht;obtain⟨a,rfl,ha⟩:=hx;have go':=go k i n a _ ha;rw[b7] at go';refine go' λPost hP=>AD4 (CT rfl (by simp[ha.ok]) (AW rfl (Ag rfl rfl (Fl ?_))))
  have fin:∀(s:AM),QP Post (.tuple [AA 0,BB false]) s:=λs=>⟨_,by rfl,hP⟩
  by_cases h2:k=2
  .subst h2
   refine Ax (AW rfl (Ax (Ag rfl rfl (Ax (sln (Ax (A2 (pk ?_))))))))
   by_cases hl:(n.length:Int)<2
   .simp[*]
   .rw[BF hl]
    obtain⟨c,w,rfl⟩:=Mc (l:=n) (by grind);have hne:=AB1 (c:=c) (w:=w) (by grind)
    simp_all[six]
  .have hb:(k != 2)=true:=by grind
   simp[*]
abbrev phA (v:Nat):AV:=.agg [AA 2,SS (36::G4 v),AA 0,.AB []]
theorem Ke (hn:NN R) (v:Nat) (hv:v<2 ^ 40):AL (env R) 90 [AA v] λr=>r=phA v:=by
 have hd:=TX v;refine e90 (u0:=AA v) (by simp) (ANx ?_);refine AG (hn.ito v hv) ?_;rintro _ rfl;refine AI5 (by grind) (NM rfl ?_);refine BZ (old:=[AA 0,SS [],AA 0,.AB []]) rfl rfl rfl (by decide) (AK _) rfl (.inl (AK _)) ?_;refine Af rfl rfl ?_;exact⟨phA v,by rfl,rfl⟩
theorem Bj.app {s:AM} (h:Bj s) {b:List AV} (hb:Ab (s.bs.length+1) b=true):Bj ⟨s.bs++[b],s.ts⟩:=by
 intro c hc;simp only[B7,CI,Ce];rcases CM.1 hc with hc|hc
 .exact Bt (by omega) c (h c hc)
 grind
theorem Iu {rr:Bool} {s:AM} (hs:Bj s) {m:List (List AV)} {p:PV} {Post:AV->AM->Prop} (h:Post (.pv p) s):QM rr s.bs.length Post (.pv p) ⟨s.bs++m,s.ts⟩:=by
 have e:(s.bs++m).take s.bs.length=s.bs:=by simp
 refine AD5 ?_ ?_
 .simp only[e]
  rw[De];exact hs
 simp[*]
theorem AB2 {α:Type} {row:α->List PV} (hrow:∀a,(row a).length=4) {f:FuncId} {cs:List AV} {g:α->Bool} {ts:List α} {y:AV} (hy:Av y (ts.map row)) (hl:ts.length<2 ^ 60) {s:AM} (hf:∀t∈ts,∀L,A8 (env R) L f (.agg ((row t).map .pv)::cs) s (BB (g t)) s) {n0 ro rt:Nat} {QR:QT} :
  ∀(j q:Nat),q+j=ts.length->(∀i:Int,decide (0<=i)=(ts.drop q).any g->QR (AA i) s)->Pz R n0 ro rt y (.func (.func f) [] cs) (AA ts.length) (AA q) s QR:=by
 intro j
 induction j with
 | zero=>
  intro q hi hP;refine P0 (A2 ?_);have h1:¬ ((q:Int)<ts.length):=by omega
  rw[BF h1];refine BE (fW ?_);have h2:ts.drop q=[]:=Cj (by omega);rw[h2] at hP;exact hP (-1) (by simp)
 | succ j Et=>
  intro q hi hP;refine P0 (A2 ?_);have h1:((q:Int)<ts.length):=by omega
  rw[Aq h1];refine BP (fX ?_);obtain⟨t,ht⟩:∃t,ts[q]?=some t:=⟨_,Ap (by omega)⟩;have hd:=drop_cons ht;rw[hd] at hP;refine BO hy (row:=row t) (by omega) (by simp[ht]) (hrow t) (by omega) ?_;have hc:=hf t (BA ht)
  have e4:∀K:AV->Prop,K (.agg ((row t).map .pv))->EG (env R) s (some 4) (.C8 (row t) 0) K:=by
   intro K hK;simp only[EG,DQ,Ku,xL,xM,xF,xG];refine⟨by rw[Bn,hrow]; omega,?_⟩;rw[Cv (by rw[Bn,hrow]; omega)];exact hK
  refine e4 _ ?_;refine⟨BB (g t),s,hc _,?_⟩;cases hg:g t with
  | true=>simp[*]
  | false=>
   refine BE (fY (CO (by omega) (by omega) ?_));simp only[OD,hg,GU] at hP;have:=Et (q+1) (by omega) hP;simpa using this
theorem YZ {α:Type} {row:α->List PV} (hrow:∀a,(row a).length=4) {f:FuncId} {cs:List AV} {g:α->Bool} {ts:List α} {y:AV} (hy:Av y (ts.map row)) (hl:ts.length<2 ^ 60) {s:AM} (hs:Bj s) (hcs:Bb cs=false) (hf:∀t∈ts,∀L,A8 (env R) L f (.agg ((row t).map .pv)::cs) s (BB (g t)) s) (L:A3) :
  A8 (env R) L 94 [y,.func (.func f) [] cs] s (BB (ts.any g)) s:=by
 have hi:∀L,∃i:Int,decide (0<=i)=ts.any g/\A8 (env R) L 125 [y,.func (.func f) [] cs] s (AA i) s:=by
  intro L
  obtain⟨v,s',⟨i,rfl,rfl,h⟩,hc⟩:=ANy (R:=R) (L:=L) (s:=s) (t0:=y) (t1:=.func (.func f) [] cs) (Post:=λv s'=>∃i:Int,v=AA i/\s'=s/\decide (0<=i)=ts.any g) (by grind[Bb,Ep]) (YE (BI (n:=ts.length) (by rw[hy.BN,Bn]) (AB2 hrow hy hl hf ts.length 0 (by omega) λi h=>by
   have:=Iu (rr:=L.rr 125) hs (m:=[]) (p:=.sc (.int .i64 i)) (Post:=λv s'=>∃i:Int,v=AA i/\s'=s/\decide (0<=i)=ts.any g) ⟨i,rfl,rfl,by grind⟩
   simp_all)))
  grind
 obtain⟨v,s',⟨rfl,rfl⟩,hc⟩:=m94 (R:=R) (L:=L) (s:=s) (t0:=y) (t1:=.func (.func f) [] cs) (Post:=λv s'=>v=BB (ts.any g)/\s'=s) (by grind[Bb,Ep]) (ju (by
  obtain⟨i,h,hc⟩:=hi (Cu (env R) 94 0 L.ro L.rt);refine⟨AA i,s,hc,JT ?_⟩;have:=Iu (rr:=L.rr 94) hs (m:=[]) (p:=.sc (.bool (ts.any g))) (Post:=λv s'=>v=BB (ts.any g)/\s'=s) ⟨rfl,rfl⟩
  simp_all))
 omega
theorem Ct (t:Ty):((Aa t).map AV.pv).all A1=true:=by cases t; rfl
mutual
theorem MF (hn:NN R) {N:Nat} (hN:N<=2 ^ 40) (v:Nat):∀(t:Ty) (inv:Bool),size t<2 ^ 60->Fm N t=true->∀(x:AV),A5 (ren t) x->AL (env R) 62 [x,AA v,BB inv] λr=>r=BB (Cz v inv t)
 | .mk k n i ts,inv,h,ht,x,hx=>by
  have hv:=J8 hn hN ht hx;have ht':=ht;rw[Fm] at ht;rw[ren] at hx;rw[Cz];simp only[size] at h;cases b7:(k==7) with
  | true=>
   rw[b7] at hx hv ht;simp only[AH,AD,CZ] at hx hv ht;obtain⟨a,rfl,ha⟩:=hx;refine e62 (u0:=.agg [AA 2,SS (36::G4 i.toNat),AA 0,a]) (u1:=AA v) (u2:=BB inv) (by simp[ha.close]) (AD6 ?_);refine CT rfl (by simp[ha.ok]) (CT rfl rfl (CT rfl rfl (Af rfl rfl (AG hv ?_))));rintro _ rfl;refine CC rfl (CC rfl (BP (Ag rfl rfl (Bd ?_))));simp only[AH];cases he:(i==(v:Int)) with
   | true=>exact Ax (Ag rfl rfl (Ax (nt (pk ⟨_,Gu,by cases inv <;> rfl⟩))))
   | false=>exact Bx (Bx (pk ⟨_,Gu,by cases inv <;> rfl⟩))
  | false=>
   rw[b7] at hx hv ht;simp only[AE,AD,CZ] at hx hv ht;obtain⟨a,rfl,ha⟩:=hx;have ih:=O1 hn hN v ts (inv&&!(k==2)) (by omega) ht.2.2;refine e62 (u0:=.agg [AA k,SS n,AA i,a]) (u1:=AA v) (u2:=BB inv) (by simp[ha.close]) (AD6 ?_);refine CT rfl (by simp[ha.ok]) (CT rfl rfl (CT rfl rfl (Af rfl rfl (AG hv ?_))));rintro _ rfl;refine CC rfl (CC rfl (BE (ANz (AW rfl (Ag rfl rfl ?_)))))
   have hs:Bj ⟨[[AA k,SS n,AA i,a],[AA v],[BB inv]],[]⟩:=by
    intro b hb;simp only[Az,Ex,Ey] at hb;rcases hb with rfl|rfl|rfl <;> simp[Ab,Ai,ha.Ai]
   have hsz:=Bk ts
   have Jb:Av a (ts.map λt=>Aa (ren t)):=by
    rw[HD,Bf,N6] at ha;exact ha
   refine⟨_,_,YZ (λt=>Ad (ren t)) (g:=λt=>Cz v (inv&&!(k==2)) t) (f:=103) (cs:=[.ptr 1 0,.ptr 2 0,.ptr 0 0]) Jb (by omega) hs (by rfl) ?_ _,?_⟩
   .intro t hm L
    have hc:=ih t hm
    obtain⟨w,s',⟨rfl,rfl⟩,tN⟩:=AUs (R:=R) (L:=L) (s:=⟨[[AA k,SS n,AA i,a],[AA v],[BB inv]],[]⟩) (t0:=.agg ((Aa (ren t)).map .pv)) (t1:=.ptr 1 0) (t2:=.ptr 2 0) (t3:=.ptr 0 0) (Post:=λw s'=>w=BB (Cz v (inv&&!(k==2)) t)/\s'=⟨[[AA k,SS n,AA i,a],[AA v],[BB inv]],[]⟩) (by simp[Bb,Ep]) (AI7 (by
     generalize hr:(Aa (ren t)).map AV.pv=r at hc;have hrl:r.length=4:=by grind[Ad]
     have hro:r.all A1=true:=by grind[Ct]
     refine CT rfl hro (Af rfl hrl (Ag rfl rfl (Ag rfl rfl ?_)))
     have fin:∀(b:Bool) (s1:AM),s1=⟨[[AA k,SS n,AA i,a],[AA v],[BB inv],r],[]⟩->b=(inv&&!(k==2))->EK (env R) (Cu (env R) 103 0 L.ro L.rt) (.func (.func 62) [] []) [.agg r,AA v,BB b] s1 (λa14 AB3=>QM (L.rr 103) 3 (λw s'=>w=BB (Cz v (inv&&!(k==2)) t)/\s'=⟨[[AA k,SS n,AA i,a],[AA v],[BB inv]],[]⟩) a14 AB3):=by
      rintro b s1 rfl rfl;refine AG hc ?_;rintro _ rfl;exact Iu (s:=⟨[[AA k,SS n,AA i,a],[AA v],[BB inv]],[]⟩) hs (m:=[r]) (p:=.sc (.bool _)) ⟨rfl,rfl⟩
     cases inv with
     | true=>simp_all[bne]
     | false=>simp_all))
    omega
   .refine⟨_,Gu,?_⟩
    have:∀l:List Ty,l.any (λt=>Cz v (inv&&!(k==2)) t)=Fj v (inv&&!(k==2)) l:=by
     intro l
     induction l with
     | nil=>rfl
     | cons e l ih=>grind[Fj]
    grind
theorem O1 (hn:NN R) {N:Nat} (hN:N<=2 ^ 40) (v:Nat):∀(l:List Ty) (inv:Bool),AQ l<2 ^ 60->GD N l=true->∀t∈l,AL (env R) 62 [.agg ((Aa (ren t)).map .pv),AA v,BB inv] λr=>r=BB (Cz v inv t)
 | [],_,_,_,_,h=>by cases h
 | e::l,inv,h,ht,t,hm=>by
  simp only[AQ] at h;simp only[GD,AD] at ht;rcases Az.1 hm with h' | h'
  .rw[h']
   exact MF hn hN v e inv (by omega) ht.1 _ (A5.Bu _)
  .exact O1 hn hN v l inv (by omega) ht.2 t h'
end
end
def BM (v:Ty) (x:AV):Prop:=match v with
 | .mk k n i ts=>∃a,x=.agg [AA k,SS n,AA i,a]/\BG a (AP ts)
theorem A5.Km {v:Ty} {x:AV} (h:A5 v x):BM v x:=by
 obtain⟨k,n,i,ts⟩:=v;obtain⟨a,rfl,ha⟩:=h;exact⟨a,rfl,.inl ha⟩
theorem BM.closed {v:Ty} {x:AV} (h:BM v x) (bs:List (List AV)) (n:Nat):∃x',close bs n 0 x=some x'/\A5 v x':=by
 obtain⟨k,c,i,ts⟩:=v;obtain⟨a,rfl,ha⟩:=h;obtain⟨a',h1,h2⟩:=ha.closed bs n;exact⟨.agg [AA k,SS c,AA i,a'],by simp[h1],⟨a',rfl,h2⟩⟩
abbrev Z4:List AV:=[AA 0,SS [],AA 0,.AB []]
theorem E8 (l m:List Ty):AP (l++m)=AP l++AP m:=by simp[HD]
theorem Gw {l:List Ty} {r:List PV} (h:r∈AP l):r.length=4:=by grind[HD,Ad]
theorem Gj {t:Ty} {x:AV} (h:BM t x) {s:AM} {K:AV->AM->Prop} (hK:K (.AB [Aa t]) s):Dc false s 4 [(AA 0),(SS []),(AA 0),(.AB [])] 1 [(0,4,x)] K:=by
 obtain⟨k,n,i,ts⟩:=t;obtain⟨a,rfl,ha⟩:=h;simp only[Aa] at hK;simp[Dc,Fz,CD,ha.ok,ha.Ja];omega
theorem uq {L:A3} {s:AM} {a:AV} {es:List Ty} {t:Ty} {K:AV->AM->Prop} (ha:EM 0 s.ts 25 a (AP es)) (GZ:L.rt=0) (hl:es.length<2 ^ 38) (h:∀a' ts',EM 0 ts' 25 a' (AP (es++[t]))->K a' ⟨s.bs,ts'⟩) :
  EL false L s 25 4 56 a (.AB [Aa t]) K:=by
 have hl':(AP es).length=es.length:=AR es;have:=MG (L:=L) (bs:=s.bs) (ts:=[]) (x:=s.ts) (e:=25) (k:=4) (bytes:=56) (a:=a) (rows:=AP es) (row:=Aa t) (K:=K) (by grind) (by omega) (λr hr=>Gw hr) (Ad t) (by omega) (Ct t) (by omega) (by omega) (by grind[E8,AP])
 simp_all
theorem Dr {L:A3} {s:AM} {id off:Nat} {v:AV} {cs:List AV} {K:AM->Prop} (hb:s.bs[id]?=some cs) (ho:off<cs.length) (hc:cellsOf v=[v]) (hro:L.ro<=id) (hok:A1 v=true) (hn:L.n0<=id\/I7 v=true) (h:K ⟨s.bs.set id (cs.set off v),s.ts⟩):CR L s 1 (.ptr id off) v K:=by
 simp only[CR,hb,wO,hc];refine⟨⟨rfl,by simp; omega,hro,by simp[hok],hn.imp (λh=>h) λh=>by simp[IM,h],by omega⟩,?_⟩;simpa[setCells] using h
theorem IG {lo:Nat} {ts:List (Nat×Nat)} {k:Nat} {a:AV} {es:List Ty} (h:EM lo ts k a (AP es)):Tel.CQ a a=true:=by
 rcases h with rfl|⟨t,rfl,_⟩
 all_goals simp[*,Tel.CQ,Dw]
theorem Ec (a b:Nat):Tel.CQ (.ptr a b) (.ptr a b)=true:=by simp[Tel.CQ]
theorem Ah {bs:List (List AV)} {j:Nat} {c:List AV} (h:bs[j]?=some c) (b:List AV):(bs++[b])[j]?=some c:=by grind
theorem Am (bs:List (List AV)) (b:List AV):(bs++[b])[bs.length]?=some b:=by simp
theorem Bm {bs:List (List AV)} {j k:Nat} {c b:List AV} (h:bs[j]?=some c) (hn:k≠j):(bs.set k b)[j]?=some c:=by grind
theorem Be {bs:List (List AV)} {j:Nat} {c b:List AV} (h:bs[j]?=some c):(bs.set j b)[j]?=some b:=by grind
section
variable {R:RT}
theorem Di {s:AM} {t:Ty} {K:AV->Prop} (hK:K (.agg ((Aa t).map .pv))):EG (env R) s (some 4) (.C8 (Aa t) 0) K:=by
 simp only[EG,DQ,Ku,xL,xM,xF,xG];refine⟨by rw[Bn,Ad]; omega,?_⟩;rw[Cv (by rw[Bn,Ad]; omega)];exact hK
theorem gO {ts:List Ty} {a:AV} (ha:Av a (AP ts)) (hl:AQ ts<2 ^ 38) {k i:Int} {n:List UInt8} (ih:∀t∈ts,AL (env R) 146 [.agg ((Aa t).map .pv)] λr=>A5 t r) {Post:AV->Prop} (hP:∀r,A5 (.mk k n i ts) r->Post r) :
  ∀(j q:Nat) (s:AM) (b:AV),q+j=ts.length->s.bs[1]?=some Z4->s.bs[2]?=some [AA k,SS n,AA i,b]->EM 0 s.ts 25 b (AP (ts.take q))->Ya R 0 0 0 (.ptr 1 0) (.ptr 2 0) a (AA ts.length) (AA q) s (QP Post):=by
 have U3:=Bk ts;intro j
 induction j with
 | zero=>
  intro q s b hi h1 h2 hb;refine ur (A2 ?_);rw[BF (by omega)];refine BE (AI8 (Af h2 rfl (BZ h1 rfl rfl (by decide) (AK _) (by simp[hb.A9.ok]) (.inl (AK _)) (Af (Be h1) rfl ?_))));rw[Cv (by omega)] at hb;obtain⟨r,h3,h4⟩:=BM.closed (v:=.mk k n i ts) ⟨b,rfl,hb.A9⟩ (s.bs.set 1 [AA k,SS n,AA i,b]) 0;exact⟨r,h3,hP r h4⟩
 | succ j Et=>
  intro q s b hi h1 h2 hb;refine ur (A2 ?_);rw[Aq (by omega)];obtain⟨t,ht⟩:∃t,ts[q]?=some t:=⟨_,Ap (by omega)⟩;refine BP (AI9 (BO ha (row:=Aa t) (by omega) (by grind[BJ]) (Ad t) (by omega) (Di ?_)));have hm:=ih t (BA ht);have hro:((Aa t).map AV.pv).all A1=true:=Ct t;have hrl:((Aa t).map AV.pv).length=4:=by grind[Ad]
  generalize (Aa t).map AV.pv=row at hm hro hrl;obtain⟨bs,tk⟩:=s;simp only[Bw] at *;have l1:=(BL.1 h1).1;have l2:=(BL.1 h2).1;refine BZ (Am bs Z4) hrl rfl (by decide) (AK _) hro (.inl (AK _)) ?_;have e:(bs++[Z4]).set bs.length row=bs++[row]:=by simp
  rw[e];have g1:=Ah h1 row;have g2:=Ah h2 row;refine AW (Ak g2) (Ag g2 rfl (Af (Am bs row) hrl (AG hm ?_)));intro v hv;refine Gj hv.Km ⟨by decide,uq hb rfl (by grind) ?_⟩;intro b' Hx hb';have hqt:ts.take q++[t]=ts.take (q+1):=by grind[List.take_add_one]
  rw[hqt] at hb';refine AW (Ak g2) (Dr g2 (by simp) hb'.A9.cells (AK _) hb'.A9.ok (.inl (AK _)) ?_);refine⟨AW (Ak g2) (Ec _ _),Ag g2 rfl (IG hb),AJA (CO (by omega) (by omega) ?_)⟩;have:=Et (q+1) ⟨(bs++[row]).set 2 [AA k,SS n,AA i,b'],Hx⟩ b' (by omega) (Bm g1 (by decide)) (Be g2) hb'
  grind
mutual
theorem TY:∀(t:Ty),size t<2 ^ 38->∀(x:AV),A5 t x->AL (env R) 146 [x] λr=>A5 t r
 | .mk k n i ts,h,x,hx=>by
  obtain⟨a,rfl,ha⟩:=hx;simp only[size] at h;have ih:=Q4 ts (by omega);refine AUu (u0:=.agg [AA k,SS n,AA i,a]) (by simp[ha.close]) (AJB ?_);refine CT rfl (by simp[ha.ok]) (Bi (Af rfl rfl (Bi (BZ (old:=Z4) rfl rfl rfl (by decide) (AK _) (by simp[ha.ok]) (.inl (AK _)) ?_))));refine AW rfl (Dr (off:=3) rfl (AN 4) rfl (AK _) rfl (.inl (AK _)) (AW rfl (Ag rfl rfl (BI (n:=ts.length) (by rw[ha.BN,AR]) ?_))));exact gO ha (by omega) ih (λr hr=>hr) ts.length 0 _ (.AB []) (by omega) rfl rfl (.inl rfl)
theorem Q4:∀(l:List Ty),AQ l<2 ^ 38->∀t∈l,AL (env R) 146 [.agg ((Aa t).map .pv)] λr=>A5 t r
 | [],_,_,h=>by cases h
 | e::l,h,t,hm=>by
  simp only[AQ] at h;rcases Az.1 hm with h' | h'
  .rw[h']
   exact TY e (by omega) _ (A5.Bu e)
  .exact Q4 l (by omega) t h'
end
end
theorem kP {L:A3} {s:AM} {a:AV} {es:List Ty} {t:Ty} {K:AV->AM->Prop} (ha:EM L.rt s.ts 25 a (AP es)) (hle:L.rt<=s.ts.length) (hl:es.length<2 ^ 38) (h:∀a' ts',EM L.rt ts' 25 a' (AP (es++[t]))->L.rt<=ts'.length->K a' ⟨s.bs,ts'⟩) :
  EL false L s 25 4 56 a (.AB [Aa t]) K:=by
 have hl':(AP es).length=es.length:=AR es;have tJ:(s.ts.take L.rt).length=L.rt:=by grind
 have e:s.ts.take L.rt++s.ts.drop L.rt=s.ts:=List.take_append_drop _ _;have:=MG (L:=L) (bs:=s.bs) (ts:=s.ts.take L.rt) (x:=s.ts.drop L.rt) (e:=25) (k:=4) (bytes:=56) (a:=a) (rows:=AP es) (row:=Aa t) (K:=K) (by grind) (by omega) (λr hr=>Gw hr) (Ad t) (by omega) (Ct t) (by omega) (by omega) (by grind[E8,AP])
 simp_all
theorem Np {m:Nat} {ts:List (Nat×Nat)} {k:Nat} {a:AV} {rows:List (List PV)} (h:EM m ts k a rows) (bs:List (List AV)) (n:Nat):∃a',close bs n m a=some a'/\Av a' rows:=by
 rcases h with rfl|⟨t,rfl,_,h2⟩
 .simp[*,Av.AB]
 .have:¬ t<m:=by omega
  exact⟨.pv (.list rows),by grind[close],.list _⟩
theorem O2 (t:Ty):Tel.CQ (.agg ((Aa t).map .pv)) (.agg ((Aa t).map .pv))=true:=by
 cases t
 grind[Aa,Tel.CQ,Kz,PX,F5,Ht,Dw]
theorem Bj.set {s:AM} (h:Bj s) {j:Nat} {c:List AV} (hc:Ab s.bs.length c=true) (ts:List (Nat×Nat)):Bj ⟨s.bs.set j c,ts⟩:=by
 intro b hb;simp only[List.length_set];rcases jS hb with hb|rfl
 .exact h b hb
 omega
mutual
def RQ:Ty->Bool
 | .mk k _ i ts=>(!(k==5)||(ts.isEmpty&&decide (-(2 ^ 60)<=i)&&decide (i<2 ^ 60)))&&U8 ts
def U8:List Ty->Bool
 | []=>true
 | t::l=>RQ t&&U8 l
end
abbrev AN0 (p:Nat):AV:=.func (.func 122) [] [.ptr p 0]
section
variable {R:RT}
theorem AJC (i u:Int) (hu:0<=u) (hi:i<2 ^ 60) (p:Nat) {s:AM} (hs:Bj s) (hp:p<s.bs.length) (L:A3) :
  A8 (env R) L 122 [AA i,AA u,.ptr p 0] s (.tuple [bif i==u then .ptr p 0 else .pv (.sc (.pointer none)),AA (bif i==u then 0 else bif decide (u<i) then i-1 else i)]) s:=by
 have fin:∀(rr:Bool) (x:AV) (n:Int),(x=.ptr p 0\/x=.pv (.sc (.pointer none)))->QM rr s.bs.length (λv s'=>v=.tuple [x,AA n]/\s'=s) (.tuple [x,AA n]) s:=by
  intro rr x n hx;have e:s.bs.take s.bs.length=s.bs:=XG;refine JU (ds:=[x,AA n]) ?_ ?_ ?_
  .rw[e,De]
   exact hs
  .grind[AU,close]
  simp
 obtain⟨v,s',⟨rfl,rfl⟩,hc⟩:=AUv (R:=R) (L:=L) (s:=s) (t0:=AA i) (t1:=AA u) (t2:=.ptr p 0) (Post:=λv s'=>v=.tuple [bif i==u then .ptr p 0 else .pv (.sc (.pointer none)),AA (bif i==u then 0 else bif decide (u<i) then i-1 else i)]/\s'=s) (by rfl) (AJD (Bd (by
  cases he:(i==u) with
  | true=>simp[*]
  | false=>
   refine BE (JS ?_)
   by_cases hlt:u<i
   .have:i>u:=hlt
    rw[Aq this];exact BP (Gi (by omega) (by omega) (fin _ _ _ (.inr rfl)))
   .have:¬ i>u:=hlt
    rw[BF this];exact BE (AJE (fin _ _ _ (.inr rfl))))))
 omega
theorem Ga (k:Int) (n:List UInt8) (i:Int) (ts:List Ty) (h:k≠7):ren (.mk k n i ts)=.mk k n i (Bq ts):=by grind[ren]
theorem uu {p:Nat} {cp:List AV} {fn:AV} {ts ls:List Ty} {a:AV} (ha:Av a (AP ts)) (hl:ts.length<2 ^ 38) (hll:ls.length=ts.length) {k i:Int} {n:List UInt8} {u:Nat} (hu:u<2 ^ 60)
  {s0:AM} (hs0:Bj s0) (hp:s0.bs[p]?=some cp)
  (ih:∀(q:Nat) (t l:Ty),ts[q]?=some t->ls[q]?=some l->∀s,Bj s->s.bs[p]?=some cp->∃r,A5 l r/\∀L,A8 (env R) L 121 [.agg ((Aa t).map .pv),AA (u+EW k q:Nat),fn] s r s)
  {i':Int} {Post:AV->Prop} (hP:∀r,A5 (.mk k n i' ls) r->Post r) :
  ∀(j q:Nat) (s:AM) (b:AV),q+j=ts.length->Bj s->s.bs[p]?=some cp->s.bs[s0.bs.length]?=some [AA k,SS n,AA i,a]->s.bs[s0.bs.length+1]?=some Z4->s.bs[s0.bs.length+2]?=some [AA k,SS n,AA i',b] ->
   EM s0.ts.length s.ts 25 b (AP (ls.take q))->s0.ts.length<=s.ts.length ->
   Yb R s0.bs.length s0.bs.length s0.ts.length (AA u) fn (.ptr s0.bs.length 0) (.ptr (s0.bs.length+1) 0) (.ptr (s0.bs.length+2) 0) a (AA ts.length) (AA q) s (QI s0.bs.length s0.ts.length Post):=by
 intro j
 induction j with
 | zero=>
  intro q s b hi hs h0 h1 h2 h3 hb hle;refine uv (A2 ?_);rw[BF (by omega)];refine BE (AJF (Af h3 rfl (BZ h2 rfl rfl (by decide) (by simp) (by simp[hb.A9.ok]) (.inl (by simp)) (Af (Be h2) rfl ?_))));rw[Cv (by omega)] at hb;obtain⟨b',c1,c2⟩:=Np hb (s.bs.set (s0.bs.length+1) [AA k,SS n,AA i',b]) s0.bs.length;exact⟨.agg [AA k,SS n,AA i',b'],by simp[c1],hP _ ⟨b',rfl,c2⟩⟩
 | succ j Et=>
  intro q s b hi hs h0 h1 h2 h3 hb hle;refine uv (A2 ?_);rw[Aq (by omega)];obtain⟨t,ht⟩:∃t,ts[q]?=some t:=⟨_,Ap (by omega)⟩;obtain⟨l,uw⟩:∃l,ls[q]?=some l:=⟨_,Ap (by omega)⟩;have hrl:((Aa t).map AV.pv).length=4:=by grind[Ad]
  have hro:=Ct t
  have K6:Ab (s.bs.length+1) ((Aa t).map AV.pv)=true:=by
   obtain⟨k1,n1,i1,t1⟩:=t;rfl
  refine BP (AJG (BO ha (row:=Aa t) (by omega) (by simp[*,BJ]) (Ad _) (by omega) (Di (Bi ?_))));have kQ:=ih q t l ht uw;have Ji:=O2 t;generalize (Aa t).map AV.pv=row at hrl hro K6 kQ Ji;obtain⟨bs,tk⟩:=s;have l3:=(BL.1 h3).1;simp only at *;refine BZ (Am bs Z4) hrl rfl (by decide) (by simp[Cu]; omega) hro (.inl (by simp[Cu]; omega)) ?_;have e:(bs++[Z4]).set bs.length row=bs++[row]:=by simp
  rw[e];have g0:=Ah h0 row;have g1:=Ah h1 row;have g2:=Ah h2 row;have g3:=Ah h3 row;have hs':Bj ⟨bs++[row],tk⟩:=Bj.app (s:=⟨bs,tk⟩) hs K6;have hbn:=Pv k q;have Vg:AL (env R) 119 [.agg [AA k,SS n,AA i,a],AA q] λr=>r=AA (EW k q):=K8 ha q
  obtain⟨r,NG,Pt⟩:=kQ ⟨bs++[row],tk⟩ hs' g0;refine AW (Ak g3) (Ag g3 rfl (Af (Am bs row) hrl (Af g1 rfl (AG Vg ?_))));rintro _ rfl;refine CO (by omega) (by omega) ?_;have e1:((u:Int)+(EW k q:Nat))=((u+EW k q:Nat):Int):=by omega
  rw[e1];refine⟨r,_,Pt _,Gj NG.Km ⟨by decide,kP hb hle (by grind) ?_⟩⟩;intro b' Hx hb' hle';have er:ls.take q++[l]=ls.take (q+1):=by grind[List.take_add_one]
  rw[er] at hb';refine AW (Ak g3) (Dr g3 (by simp) hb'.A9.cells (by simp) hb'.A9.ok (.inl (by simp)) ?_);refine⟨AW (Ak g3) (Ec _ _),AW (Ak g3) (Ec _ _),Ag g3 rfl (IG hb),Ag g3 rfl (IG hb),Af (Am bs row) hrl Ji,AJH (CO (by omega) (by omega) ?_)⟩;have lp:=(BL.1 hp).1;have:=Et (q+1) ⟨(bs++[row]).set (s0.bs.length+2) [AA k,SS n,AA i',b'],Hx⟩ b' (by omega) ?_ ?_ (Bm g1 (by omega)) (Bm g2 (by omega)) (Be g3) hb' hle'
  .grind
  .exact Bj.set (s:=⟨bs++[row],tk⟩) hs' (by simp[Ab,Ai,hb'.A9.Ai]) _
  grind[Bm]
end
theorem LL {k i:Int} {n:List UInt8} {ts:List Ty} (h:valid (.mk k n i ts)=true):(n.head?==some 36)=false/\n.length<2 ^ 40:=by
 simp only[valid,AD] at h;have nil:n=[]->(n.head?==some 36)=false/\n.length<2 ^ 40:=by grind
 rcases Jr h.1 with ⟨_,h2,_⟩|⟨_,h2,_⟩|rfl|⟨_,h2,_⟩|⟨_,h2,_⟩|⟨_,h2,_⟩|⟨_,h2,_⟩
 .grind
 .grind
 .have h1:=h.1
  simp[root,shape] at h1;obtain⟨_,⟨⟨h3,_⟩,_⟩,_⟩:=h1;unfold L8 at h3;simp only[AD,CZ] at h3;refine⟨?_,by omega⟩;rcases n with _|⟨c,w⟩
  .rfl
  .have h4:=h3.1.2
   simp only at h4;rw[N9];intro h5;have h5:c=36:=by grind
   rw[h5] at h4;exact absurd h4 (by decide)
 all_goals grind
theorem Kf {n:List UInt8} {i:Int} {ts:List Ty} (h:valid (.mk 5 n i ts)=true):i<=200:=by grind[valid,root,shape]
theorem Dk (σ:List Nat) (u:Nat) {k i:Int} {n:List UInt8} {ts:List Ty} (hv:valid (.mk k n i ts)=true):(k=5/\n=[]/\ts=[]/\0<=i/\i<=200/\((∃v∈σ,inst σ u (.mk k n i ts)=ph v)\/inst σ u (.mk k n i ts)=.mk 5 [] i []))\/((k==5)=false/\inst σ u (.mk k n i ts)=.mk k n i (C9 σ u k 0 ts)):=by
 by_cases h5:k=5
 .subst h5
  obtain⟨rfl,rfl,h0⟩:=EA hv;refine .inl ⟨rfl,rfl,rfl,h0,Kf hv,?_⟩
  grind[inst]
 grind[inst]
mutual
theorem II {q:Int->Bool} {σ:List Nat} (hσ:∀x∈σ,q x=true):∀(t:Ty) (u:Nat),valid t=true->Ej q (inst σ u t)=true
 | .mk k n i ts,u,hv=>by
  rcases Dk σ u hv with ⟨rfl,rfl,rfl,h0,h1,⟨v,h2,h3⟩|h3⟩|⟨b5,h3⟩
  .grind[Ej]
  .grind[Ej,Du]
  .have h7:(k==7)=false:=by grind[Gf]
   have hn:=LL hv;simp only[valid,AD] at hv;rw[h3,Ej,h7,WC hσ ts u k 0 hv.2]
   grind
theorem WC {q:Int->Bool} {σ:List Nat} (hσ:∀x∈σ,q x=true):∀(l:List Ty) (u:Nat) (k:Int) (j:Nat),Ar l=true->Du q (C9 σ u k j l)=true
 | [],_,_,_,_=>rfl
 | t::l,u,k,j,hv=>by
  simp only[Ar,AD] at hv;rw[C9,Du,II hσ t _ hv.1,WC hσ l u k (j+1) hv.2];rfl
end
mutual
theorem TZ (σ:List Nat):∀(t:Ty) (u:Nat),valid t=true->RQ (inst σ u t)=true
 | .mk k n i ts,u,hv=>by
  rcases Dk σ u hv with ⟨rfl,rfl,rfl,h0,h1,⟨v,h2,h3⟩|h3⟩|⟨b5,h3⟩
  .rw[h3]
   rfl
  .rw[h3,RQ]
   have e1:decide (-(2 ^ 60)<=i)=true:=Aq (by omega);have e2:decide (i<2 ^ 60)=true:=Aq (by omega);rw[e1,e2];rfl
  .simp only[valid,AD] at hv
   rw[h3,RQ,b5,WD σ ts u k 0 hv.2];rfl
theorem WD (σ:List Nat):∀(l:List Ty) (u:Nat) (k:Int) (j:Nat),Ar l=true->U8 (C9 σ u k j l)=true
 | [],_,_,_,_=>rfl
 | t::l,u,k,j,hv=>by
  simp only[Ar,AD] at hv;rw[C9,U8,TZ σ t _ hv.1,WD σ l u k (j+1) hv.2];rfl
end
mutual
theorem kR (σ:List Nat):∀(t:Ty) (u:Nat),valid t=true->cv (inst σ u t)=cv t
 | .mk k n i ts,u,hv=>by
  rcases Dk σ u hv with ⟨rfl,rfl,rfl,h0,h1,⟨v,h2,h3⟩|h3⟩|⟨b5,h3⟩
  .rw[h3]
   rfl
  .rw[h3]
  .simp only[valid,AD] at hv
   rw[h3,cv,cv,Ta σ ts u k 0 hv.2]
theorem Ta (σ:List Nat):∀(l:List Ty) (u:Nat) (k:Int) (j:Nat),Ar l=true->Lg (C9 σ u k j l)=Lg l
 | [],_,_,_,_=>rfl
 | t::l,u,k,j,hv=>by
  simp only[Ar,AD] at hv;rw[C9,Lg,Lg,kR σ t _ hv.1,Ta σ l u k (j+1) hv.2]
end
mutual
theorem F8 (σ:List Nat):∀(t:Ty) (u:Nat),valid t=true->size (inst σ u t)=size t/\depth (inst σ u t)=depth t/\wt (inst σ u t)=wt t/\inp (inst σ u t)=true
 | .mk k n i ts,u,hv=>by
  rcases Dk σ u hv with ⟨rfl,rfl,rfl,h0,h1,⟨v,h2,h3⟩|h3⟩|⟨b5,h3⟩
  .rw[h3]
   exact⟨rfl,rfl,rfl,rfl⟩
  .rw[h3]
   exact⟨rfl,rfl,rfl,rfl⟩
  .have Su:=hv
   simp only[valid,AD] at hv;obtain⟨e1,e2,e3,e4⟩:=Tb σ ts u k 0 hv.2;rw[h3];refine⟨by grind[size],by grind[depth],by grind[wt,Ta],?_⟩;rw[inp,e4];cases b0:(k==0) with
   | false=>simp
   | true=>
    have:k=0:=by grind
    subst this;rcases Jr hv.1 with ⟨_,_,_,rfl⟩|h|h|h|h|h|h
    .rfl
    all_goals omega
theorem Tb (σ:List Nat):∀(l:List Ty) (u:Nat) (k:Int) (j:Nat),Ar l=true->AQ (C9 σ u k j l)=AQ l/\CE (C9 σ u k j l)=CE l/\gL (C9 σ u k j l)=gL l/\TQ (C9 σ u k j l)=true
 | [],_,_,_,_=>⟨rfl,rfl,rfl,rfl⟩
 | t::l,u,k,j,hv=>by
  simp only[Ar,AD] at hv;obtain⟨e1,e2,e3,e4⟩:=F8 σ t (u+EW k j) hv.1;obtain⟨f1,f2,f3,f4⟩:=Tb σ l u k (j+1) hv.2
  grind[C9,AQ,CE,gL,TQ]
end
mutual
theorem I4:∀(t:Ty),valid t=true->ren t=t
 | .mk k n i ts,hv=>by
  have h7:(k==7)=false:=by grind[Gf]
  simp only[valid,AD] at hv;rw[ren,h7,Tc ts hv.2];rfl
theorem Tc:∀(l:List Ty),Ar l=true->Bq l=l
 | [],_=>rfl
 | t::l,hv=>by
  simp only[Ar,AD] at hv;rw[Bq,I4 t hv.1,Tc l hv.2]
end
theorem DT {t:Ty} (hv:valid t=true) (hc:BW 0 t=true):inst [] 0 t=t:=HF [] t 0 hv hc
section
variable {R:RT}
theorem kS {s:AM} {m:Option Nat} {K:AV->Prop} (h:K (BB false)):bM s (RR (.pv (.sc (.pointer none)))) m .neq (.pv (.sc (.pointer none))) (.pv (.sc (.pointer none))) K:=by assumption
theorem AB4 {s:AM} {n:Option Nat} {id off:Nat} {K:AV->Prop} (ha:alive s id=true) (h:K (BB true)):bM s n (some 0) .neq (.ptr id off) (.pv (.sc (.pointer none))) K:=by
 simp only[bM,Td,Ib];refine⟨?_,h⟩
 simp_all[sameKind,Dv]
def F9 (s:AM) (c d:List AV):AM:=⟨s.bs++[c]++[Z4]++[d],s.ts⟩
theorem IJ {s:AM} {c d:List AV}:(F9 s c d).bs[s.bs.length]?=some c/\(F9 s c d).bs[s.bs.length+1]?=some Z4/\(F9 s c d).bs[s.bs.length+2]?=some d:=by simp[*,F9]
theorem Te {s:AM} {c d:List AV} {p:Nat} {x:List AV} (h:s.bs[p]?=some x):(F9 s c d).bs[p]?=some x:=Ah (Ah (Ah h _) _) _
theorem R4 {s:AM} (hs:Bj s) {c d:List AV} (hc:Ab 0 c=true) (hd:Ab 0 d=true):Bj (F9 s c d):=by
 intro b hb;simp only[F9,CM,DF] at hb;rcases hb with ((hb|rfl)|rfl)|rfl
 .exact Bt (by simp[F9]) b (hs b hb)
 .exact Bt (by simp) _ hc
 .rfl
 .exact Bt (by simp) _ hd
theorem Kg {s:AM} {u:Nat} {fn:AV} (hfn:close [] 0 0 fn=none) {k' i':Int} {n':List UInt8} {a:AV} {rows:List (List PV)} {Post:AV->Prop} (ha:Av a rows)
  (hh:AO (BB (k'==5)) (
   BD (F9 s [AA k',SS n',AA i',a] [AA k',SS n',AA i',.AB []]) (.ptr s.bs.length 0) 2 λa19=>
   EG (env R) (F9 s [AA k',SS n',AA i',a] [AA k',SS n',AA i',.AB []]) none a19 λa20=>
   EK (env R) (Cu (env R) 121 s.bs.length s.bs.length s.ts.length) (fn) [a20,AA u] (F9 s [AA k',SS n',AA i',a] [AA k',SS n',AA i',.AB []]) λa22 Tf=>
   DC a22 0 λa23=>
   DC a22 1 λa24=>
   bM Tf (RR a23) (some 0) .neq a23 (.pv (.sc (.pointer none))) λa26=>
   AO a26 (
   D0 Tf a23 λa28=>
   EG (env R) Tf (some 4) a28 λa29=>
   EK (env R) (Cu (env R) 121 s.bs.length s.bs.length s.ts.length) (.func (.func 146) [] []) [a29] Tf λa30 AB5=>
   CR (Cu (env R) 121 s.bs.length s.bs.length s.ts.length) AB5 4 (.ptr (s.bs.length+1) 0) a30 λAB3=>
   EG (env R) AB3 (some 4) (.ptr (s.bs.length+1) 0) λr=>
   QI s.bs.length s.ts.length Post r AB3) (
   Yc R s.bs.length s.bs.length s.ts.length (AA u) (fn) (.ptr s.bs.length 0) (.ptr (s.bs.length+1) 0) (.ptr (s.bs.length+2) 0) a24 Tf (QI s.bs.length s.ts.length Post))) (
   QD R s.bs.length s.bs.length s.ts.length (AA u) (fn) (.ptr s.bs.length 0) (.ptr (s.bs.length+1) 0) (.ptr (s.bs.length+2) 0) (F9 s [AA k',SS n',AA i',a] [AA k',SS n',AA i',.AB []]) (QI s.bs.length s.ts.length Post))) :
  ∃r,Post r/\∀L,A8 (env R) L 121 [.agg [AA k',SS n',AA i',a],AA u,fn] s r s:=by
 refine i121 (by simp[*]) (AJK ?_);refine CT (cs:=[AA k',SS n',AA i',a]) rfl (by simp[ha.ok]) (Bi ?_);refine Af (cs:=[AA k',SS n',AA i',a]) (Ah (Am _ _) _) rfl (Bi ?_);refine BZ (old:=Z4) (Am _ _) rfl rfl (by decide) (by simp) (by simp[ha.ok]) (.inl (by simp)) ?_;have e:((s.bs++[[AA k',SS n',AA i',a]]++[Z4]++[Z4]).set (s.bs++[[AA k',SS n',AA i',a]]++[Z4]).length [AA k',SS n',AA i',a])=(F9 s [AA k',SS n',AA i',a] [AA k',SS n',AA i',a]).bs:=by grind[F9]
 have l1:(s.bs++[[AA k',SS n',AA i',a]]++[Z4]).length=s.bs.length+2:=by simp
 have l2:(s.bs++[[AA k',SS n',AA i',a]]).length=s.bs.length+1:=by simp
 simp only at e l1 l2 ⊢;rw[e];simp only[l1,l2];obtain⟨g0,g1,g2⟩:=IJ (s:=s) (c:=[AA k',SS n',AA i',a]) (d:=[AA k',SS n',AA i',a]);refine AW (Ak g2) (Dr (off:=3) g2 (AN 4) rfl (by simp) rfl (.inl (by simp)) ?_);have e2:(F9 s [AA k',SS n',AA i',a] [AA k',SS n',AA i',a]).bs.set (s.bs.length+2) ([AA k',SS n',AA i',a].set 3 (.AB []))=(F9 s [AA k',SS n',AA i',a] [AA k',SS n',AA i',.AB []]).bs:=by simp[*,F9]
 show BD ⟨(F9 s [AA k',SS n',AA i',a] [AA k',SS n',AA i',a]).bs.set (s.bs.length+2) ([AA k',SS n',AA i',a].set 3 (.AB [])),s.ts⟩ _ _ _
 rw[e2];obtain⟨g0,g1,g2⟩:=IJ (s:=s) (c:=[AA k',SS n',AA i',a]) (d:=[AA k',SS n',AA i',.AB []]);exact AW (Ak g0) (Ag g0 rfl (Bd hh))
theorem O3 {s:AM} {p:Nat} {cp:List AV} {fn:AV} {ts ls:List Ty} {a:AV} (ha:Av a (AP ts)) (hl:ts.length<2 ^ 38) (hll:ls.length=ts.length) {k i0 i':Int} {n:List UInt8} {u:Nat} (hu:u<2 ^ 60) (hs:Bj s) (hp:s.bs[p]?=some cp)
  (ih:∀(q:Nat) (t l:Ty),ts[q]?=some t->ls[q]?=some l->∀s,Bj s->s.bs[p]?=some cp->∃r,A5 l r/\∀L,A8 (env R) L 121 [.agg ((Aa t).map .pv),AA (u+EW k q:Nat),fn] s r s)
  {Post:AV->Prop} (hP:∀r,A5 (.mk k n i' ls) r->Post r) :
  QD R s.bs.length s.bs.length s.ts.length (AA u) fn (.ptr s.bs.length 0) (.ptr (s.bs.length+1) 0) (.ptr (s.bs.length+2) 0) (F9 s [AA k,SS n,AA i0,a] [AA k,SS n,AA i',.AB []]) (QI s.bs.length s.ts.length Post):=by
 obtain⟨g0,g1,g2⟩:=IJ (s:=s) (c:=[AA k,SS n,AA i0,a]) (d:=[AA k,SS n,AA i',.AB []]);exact AJL (AW (Ak g0) (Ag g0 rfl (BI (n:=ts.length) (by rw[ha.BN,AR]) (uu ha hl hll hu hs hp ih hP ts.length 0 _ (.AB []) (by omega) (R4 hs (by simp[Ab,Ai,ha.Ai]) (by rfl)) (Te hp) g0 g1 g2 (.inl rfl) (AN _)))))
theorem ux {s:AM} {fn:AV} {u:Nat} {n:List UInt8} {i i':Int} {a:AV} (ha:Av a []) (hu:u<2 ^ 60) (hs:Bj s) {p:Nat} {cp:List AV} (hp:s.bs[p]?=some cp) {Post:AV->Prop} (hP:∀r,A5 (.mk 5 n i' []) r->Post r) :
  Yc R s.bs.length s.bs.length s.ts.length (AA u) fn (.ptr s.bs.length 0) (.ptr (s.bs.length+1) 0) (.ptr (s.bs.length+2) 0) (AA i') (F9 s [AA 5,SS n,AA i,a] [AA 5,SS n,AA i,.AB []]) (QI s.bs.length s.ts.length Post):=by
 obtain⟨g0,g1,g2⟩:=IJ (s:=s) (c:=[AA 5,SS n,AA i,a]) (d:=[AA 5,SS n,AA i,.AB []]);refine AJM (AW (Ak g2) (Dr g2 (by simp) rfl (by simp) rfl (.inl (by simp)) ?_));have e3:(F9 s [AA 5,SS n,AA i,a] [AA 5,SS n,AA i,.AB []]).bs.set (s.bs.length+2) ([AA 5,SS n,AA i,.AB []].set 2 (AA i'))=(F9 s [AA 5,SS n,AA i,a] [AA 5,SS n,AA i',.AB []]).bs:=by simp[*,F9]
 show QD R _ _ _ _ _ _ _ _ ⟨(F9 s [AA 5,SS n,AA i,a] [AA 5,SS n,AA i,.AB []]).bs.set (s.bs.length+2) ([AA 5,SS n,AA i,.AB []].set 2 (AA i')),s.ts⟩ _
 rw[e3];exact O3 (ts:=[]) (ls:=[]) ha (by simp) rfl hu hs hp (by simp) hP
theorem kT {v u:Nat} {k:Int}:∀(ts:List Ty) (b q:Nat) (l:Ty),(Bq (J4 v u k b ts))[q]?=some l->∃t,ts[q]?=some t/\(Bq ts)[q]?=some (ren t)/\l=ren (sub v (u+EW k (b+q)) t)
 | [],_,_,_,h=>by grind[J4,Bq]
 | t::ts,b,0,l,h=>by grind[J4,Bq]
 | t::ts,b,q+1,l,h=>by
  simp only[J4,Bq,G8] at h ⊢;obtain⟨t',h1,h2,h3⟩:=kT ts (b+1) q l h
  grind
theorem bN {v u:Nat} {k:Int}:∀(ts:List Ty) (b:Nat),(Bq (J4 v u k b ts)).length=(Bq ts).length
 | [],_=>rfl
 | t::ts,b=>by simp[J4,Bq,bN ts (b+1)]
mutual
theorem bO {N v p:Nat}:∀(t:Ty),size t<2 ^ 38->Fm N t=true->RQ t=true->∀(u:Nat),u+size t<2 ^ 60->∀(x:AV),A5 (ren t) x->∀(s:AM),Bj s->s.bs[p]?=some [AA 2,SS (36::G4 v),AA 0,.AB []] ->
  ∃r,A5 (ren (sub v u t)) r/\∀L,A8 (env R) L 121 [x,AA u,AN0 p] s r s
 | .mk k n i ts,h,ht,Tg,u,hu,x,hx,s,hs,hp=>by
  have Li:=(BL.1 hp).1;simp only[size] at h hu;rw[Fm] at ht;rw[RQ] at Tg
  by_cases h7:k=7
  .subst h7
   simp only[CN,AH,AD,Dx] at ht;have hts:=ht.1;subst hts;have er:ren (.mk 7 n i [])=.mk 2 (36::G4 i.toNat) 0 []:=rfl;have es:ren (sub v u (.mk 7 n i []))=.mk 2 (36::G4 i.toNat) 0 []:=rfl;rw[er] at hx;rw[es];obtain⟨a,rfl,ha⟩:=hx;exact Kg rfl ha (BE (O3 (ts:=[]) (ls:=[]) ha (by simp) rfl (by omega) hs hp (by simp) λr hr=>hr))
  .have er:=Ga k n i ts h7
   rw[er] at hx;obtain⟨a,rfl,ha⟩:=hx
   by_cases h5:k=5
   .subst h5
    simp only[CN,N8,GU,AD,Dx] at Tg;have hts:=Tg.1.1.1;have hi:i<2 ^ 60:=by grind
    subst hts;refine Kg rfl ha (BP ?_);obtain⟨g0,g1,g2⟩:=IJ (s:=s) (c:=[AA 5,SS n,AA i,a]) (d:=[AA 5,SS n,AA i,.AB []]);have hok:Bj (F9 s [AA 5,SS n,AA i,a] [AA 5,SS n,AA i,.AB []]):=R4 hs (by simp[Ab,Ai,ha.Ai]) (by rfl);have gp:=Te (c:=[AA 5,SS n,AA i,a]) (d:=[AA 5,SS n,AA i,.AB []]) hp;refine AW (Ak g0) (Ag g0 rfl ?_);refine⟨_,_,AJC i u (by omega) hi p hok (by grind) _,CC rfl (CC rfl ?_)⟩;have O4:sub v u (.mk 5 n i [])=bif i==(u:Int) then ph v else bif decide ((u:Int)<i) then .mk 5 n (i-1) [] else .mk 5 n i []:=by rfl
    rw[O4];cases he:(i==(u:Int)) with
    | true=>
     simp only[AH];refine AB4 (Ak gp) (BP (FG (Ak gp) (Af gp rfl ?_)));have hc:=TY (R:=R) (ren (ph v)) (by assumption) (.agg [AA 2,SS (36::G4 v),AA 0,.AB []]) ⟨_,rfl,.AB _⟩;refine AG hc ?_;rintro w ⟨b,rfl,hb⟩;refine BZ g1 rfl rfl (by decide) (by simp) (by simp[hb.ok]) (.inl (by simp)) (Af (Be g1) rfl ?_);exact⟨.agg [AA 2,SS (36::G4 v),AA 0,b],by simp[hb.close],⟨b,rfl,hb⟩⟩
    | false=>
     simp only[AE];refine kS (BE (ux ha (by omega) hs hp λr hr=>?_));cases hd:decide ((u:Int)<i) with
     | true=>rw[hd] at hr; exact hr
     | false=>rw[hd] at hr; exact hr
   .have b5:(k==5)=false:=by grind
    have b7:(k==7)=false:=by grind
    have es:ren (sub v u (.mk k n i ts))=.mk k n i (Bq (J4 v u k 0 ts)):=by grind[sub,Ga]
    rw[es];refine Kg rfl ha ?_;rw[b5];rw[b7] at ht;simp only[AE,AD] at ht Tg;have U3:=Bk ts;refine BE (O3 ha (by grind[Bf]) (bN ts 0) (by omega) hs hp ?_ λr hr=>hr);intro q t l hq uw s' hs' hp';obtain⟨t',h1,h2,h3⟩:=kT ts 0 q l uw;rw[h2] at hq;cases hq;rw[h3];have hbn:=Pv k q;rw[Cg];exact WE ts (by omega) ht.2.2 Tg.2 (u+EW k q) (by omega) t' (BA h1) s' hs' hp'
theorem WE {N v p:Nat}:∀(l:List Ty),AQ l<2 ^ 38->GD N l=true->U8 l=true->∀(u:Nat),u+AQ l<2 ^ 60->∀t∈l,∀(s:AM),Bj s->s.bs[p]?=some [AA 2,SS (36::G4 v),AA 0,.AB []] ->
  ∃r,A5 (ren (sub v u t)) r/\∀L,A8 (env R) L 121 [.agg ((Aa (ren t)).map .pv),AA u,AN0 p] s r s
 | [],_,_,_,_,_,_,h=>by cases h
 | e::l,h,ht,Tg,u,hu,t,hm=>by
  simp only[AQ] at h hu;simp only[GD,AD] at ht;simp only[U8,AD] at Tg;rcases Az.1 hm with h' | h'
  .rw[h']
   exact bO e (by omega) ht.1 Tg.1 u (by omega) _ (A5.Bu _)
  .exact WE l (by omega) ht.2 Tg.2 u (by omega) t h'
end
theorem RS {N v:Nat} {t:Ty} (h:size t<2 ^ 38) (ht:Fm N t=true) (hv:RQ t=true) {x:AV} (hx:A5 (ren t) x):AL (env R) 89 [x,phA v] λr=>A5 (ren (sub v 0 t)) r:=by
 obtain⟨k',n',i',ts',hr⟩:∃k n i ts,ren t=.mk k n i ts:=by
  obtain⟨k,n,i,ts⟩:=ren t;exact⟨k,n,i,ts,rfl⟩
 have hx':=hx;rw[hr] at hx;obtain⟨a,rfl,ha⟩:=hx;refine e89 (u0:=.agg [AA k',SS n',AA i',a]) (u1:=phA v) (by simp[ha.close,AU,close]) (AN2 ?_);refine CT (cs:=[AA k',SS n',AA i',a]) rfl (by simp[ha.ok]) (CT (cs:=[AA 2,SS (36::G4 v),AA 0,.AB []]) rfl (by simp) (Bi (Af (cs:=[AA k',SS n',AA i',a]) rfl rfl ?_)))
 have hs:Bj ⟨[[AA k',SS n',AA i',a],[AA 2,SS (36::G4 v),AA 0,.AB []],Z4],[]⟩:=by
  intro b hb;simp only[Az,Ex,Ey] at hb;rcases hb with rfl|rfl|rfl <;> simp[Ab,Ai,ha.Ai]
 obtain⟨r,h1,h2⟩:=bO (R:=R) (v:=v) (p:=1) t h ht hv 0 (by omega) _ hx' ⟨[[AA k',SS n',AA i',a],[AA 2,SS (36::G4 v),AA 0,.AB []],Z4],[]⟩ hs rfl;refine⟨r,_,h2 _,?_⟩;have eC:=h1
 obtain⟨k2,n2,i2,O5,Pt⟩:∃k n i ts,ren (sub v 0 t)=.mk k n i ts:=by
  obtain⟨k,n,i,ts⟩:=ren (sub v 0 t);simp
 rw[Pt] at h1;obtain⟨b,rfl,hb⟩:=h1;refine BZ (old:=Z4) (id:=2) rfl rfl rfl (by decide) (AK _) (by simp[hb.ok]) (.inl (AK _)) (Af (cs:=[AA k2,SS n2,AA i2,b]) rfl rfl ?_);exact⟨.agg [AA k2,SS n2,AA i2,b],by simp[hb.close],eC⟩
end
section
variable {R:RT}
abbrev AN3 (p:Nat):AV:=.func (.func 134) [] [.ptr p 0]
theorem AJN (i u:Int) (h0:-(2 ^ 60)<=i) (h1:i<2 ^ 60) (h2:0<=u) (h3:u<2 ^ 60) (p:Nat) {s:AM} (hs:Bj s) (hp:s.bs[p]?=some [.AB []]) (L:A3) :
  A8 (env R) L 134 [AA i,AA u,.ptr p 0] s (.tuple [.pv (.sc (.pointer none)),AA i]) s:=by
 have fin:∀(rr:Bool),QM rr s.bs.length (λv s'=>v=.tuple [.pv (.sc (.pointer none)),AA i]/\s'=s) (.tuple [.pv (.sc (.pointer none)),AA i]) s:=by
  intro rr;have e:s.bs.take s.bs.length=s.bs:=XG;refine JU (ds:=[.pv (.sc (.pointer none)),AA i]) ?_ ?_ ?_
  .rw[e,De]
   exact hs
  all_goals simp
 obtain⟨v,s',⟨rfl,rfl⟩,hc⟩:=AUy (R:=R) (L:=L) (s:=s) (t0:=AA i) (t1:=AA u) (t2:=.ptr p 0) (Post:=λv s'=>v=.tuple [.pv (.sc (.pointer none)),AA i]/\s'=s) (by rfl) (AJO (Gi (by omega) (by omega) (JT (by
  by_cases h:i>=u
  .rw[Aq h]
   refine Ax (Ax (Ag hp rfl (Ax (BI (n:=0) rfl (Ax (A2 (pk ?_)))))));rw[BF (by omega)];exact BE (uy (fin _))
  .rw[BF h]
   exact Bx (Bx (Bx (Bx (pk (BE (uy (fin _)))))))))))
 omega
mutual
theorem WG {p:Nat}:∀(t:Ty),size t<2 ^ 38->RQ t=true->∀(u:Nat),u+size t<2 ^ 60->∀(x:AV),A5 t x->∀(s:AM),Bj s->s.bs[p]?=some [.AB []] ->
  ∃r,A5 t r/\∀L,A8 (env R) L 121 [x,AA u,AN3 p] s r s
 | .mk k n i ts,h,Tg,u,hu,x,hx,s,hs,hp=>by
  simp only[size] at h hu;rw[RQ] at Tg;obtain⟨a,rfl,ha⟩:=hx
  by_cases h5:k=5
  .subst h5
   simp only[CN,N8,GU,AD,Dx,CZ] at Tg;have hts:=Tg.1.1.1;subst hts;refine Kg rfl ha (BP ?_);obtain⟨g0,g1,g2⟩:=IJ (s:=s) (c:=[AA 5,SS n,AA i,a]) (d:=[AA 5,SS n,AA i,.AB []]);have hok:Bj (F9 s [AA 5,SS n,AA i,a] [AA 5,SS n,AA i,.AB []]):=R4 hs (by simp[Ab,Ai,ha.Ai]) (by rfl);exact AW (Ak g0) (Ag g0 rfl ⟨_,_,AJN i u Tg.1.1.2 Tg.1.2 (by omega) (by omega) p hok (Te hp) _,CC rfl (CC rfl (kS (BE (ux ha (by omega) hs hp λr hr=>hr))))⟩)
  .have b5:(k==5)=false:=by grind
   refine Kg rfl ha ?_;rw[b5];simp only[AD] at Tg;have U3:=Bk ts;refine BE (O3 ha (by omega) rfl (by omega) hs hp ?_ λr hr=>hr);intro q t l hq uw s' hs' hp';rw[hq] at uw;cases uw;have hbn:=Pv k q;exact Th ts (by omega) Tg.2 (u+EW k q) (by omega) t (BA hq) s' hs' hp'
theorem Th {p:Nat}:∀(l:List Ty),AQ l<2 ^ 38->U8 l=true->∀(u:Nat),u+AQ l<2 ^ 60->∀t∈l,∀(s:AM),Bj s->s.bs[p]?=some [.AB []] ->
  ∃r,A5 t r/\∀L,A8 (env R) L 121 [.agg ((Aa t).map .pv),AA u,AN3 p] s r s
 | [],_,_,_,_,_,h=>by cases h
 | e::l,h,Tg,u,hu,t,hm=>by
  simp only[AQ] at h hu;simp only[U8,AD] at Tg;rcases Az.1 hm with h' | h'
  .rw[h']
   exact WG e (by omega) Tg.1 u (by omega) _ (A5.Bu _)
  .exact Th l (by omega) Tg.2 u (by omega) t h'
end
theorem Yd {t:Ty} (h:size t<2 ^ 38) (hv:RQ t=true) {x:AV} (hx:A5 t x):AL (env R) 107 [x,.AB []] λr=>A5 t r:=by
 obtain⟨k,n,i,ts⟩:=t;have hx':=hx;obtain⟨a,rfl,ha⟩:=hx;refine AUz (u0:=.agg [AA k,SS n,AA i,a]) (u1:=.AB []) (by simp[ha.close,AU,close]) (AJP ?_);refine CT (cs:=[AA k,SS n,AA i,a]) rfl (by simp[ha.ok]) (CT (cs:=[.AB []]) rfl (by simp) (Bi (Af (cs:=[AA k,SS n,AA i,a]) rfl rfl ?_)))
 have hs:Bj ⟨[[AA k,SS n,AA i,a],[.AB []],Z4],[]⟩:=by
  intro b hb;simp only[Az,Ex,Ey] at hb;rcases hb with rfl|rfl|rfl <;> simp[Ab,Ai,ha.Ai]
 obtain⟨r,h1,h2⟩:=WG (R:=R) (p:=1) (.mk k n i ts) h hv 0 (by omega) _ hx' ⟨[[AA k,SS n,AA i,a],[.AB []],Z4],[]⟩ hs rfl;refine⟨r,_,h2 _,?_⟩;obtain⟨b,rfl,hb⟩:=h1;refine BZ (old:=Z4) (id:=2) rfl rfl rfl (by decide) (AK _) (by simp[hb.ok]) (.inl (AK _)) (Af (cs:=[AA k,SS n,AA i,b]) rfl rfl ?_);exact⟨.agg [AA k,SS n,AA i,b],by simp[hb.close],⟨b,rfl,hb⟩⟩
theorem MH {t:Ty} (h:size t<2 ^ 38) (hv:RQ t=true) {x:AV} (hx:A5 t x):AL (env R) 70 [x] λr=>A5 t r:=by
 obtain⟨k,n,i,ts⟩:=t;have hx':=hx;obtain⟨a,rfl,ha⟩:=hx;refine e70 (u0:=.agg [AA k,SS n,AA i,a]) (by simp[ha.close]) (AN4 ?_);refine CT (cs:=[AA k,SS n,AA i,a]) rfl (by simp[ha.ok]) (Bi (Af (cs:=[AA k,SS n,AA i,a]) rfl rfl (AG (Yd h hv hx') ?_)));rintro r ⟨b,rfl,hb⟩;refine BZ (old:=Z4) (id:=1) rfl rfl rfl (by decide) (AK _) (by simp[hb.ok]) (.inl (AK _)) (Af (cs:=[AA k,SS n,AA i,b]) rfl rfl ?_);exact⟨.agg [AA k,SS n,AA i,b],by simp[hb.close],⟨b,rfl,hb⟩⟩
end
theorem Ye {n:Int} {s:AM} {K:AV->AM->Prop} (hK:K (.AB [[.sc (.int .i64 n)]]) s):Dc false s 1 [(AA 0)] 1 [(0,1,AA n)] K:=by
 simp[Dc,Fz,CD];exact hK
theorem AB6 {L:A3} {s:AM} {a:AV} {l:List Int} {n:Int} {K:AV->AM->Prop} (ha:EM 0 s.ts 3 a (AY l)) (GZ:L.rt=0) (hl:l.length<2 ^ 40) (h:∀a' ts',EM 0 ts' 3 a' (AY (l++[n]))->K a' ⟨s.bs,ts'⟩) :
  EL false L s 3 1 8 a (.AB [[.sc (.int .i64 n)]]) K:=by
 have hl':=CS l;have:=MG (L:=L) (bs:=s.bs) (ts:=[]) (x:=s.ts) (e:=3) (k:=1) (bytes:=8) (a:=a) (rows:=AY l) (row:=[.sc (.int .i64 n)]) (K:=K) (by grind) (by omega) (by grind[AY]) rfl (by omega) (by simp) (by omega) (by omega) (by grind[AY])
 simp_all
theorem Gb {bs:List (List AV)} {n:Nat} (h:n<=bs.length) (b:List AV):(bs++[b]).take n=bs.take n:=XP h
theorem D7 {bs X:List (List AV)} {n j:Nat} {v:List AV} (h:bs.take n=X) (hj:X[j]?=some v):bs[j]?=some v:=by grind
theorem Gk {bs X:List (List AV)} {n j:Nat} {c:List AV} (h:bs.take n=X):(bs.set j c).take n=X.set j c:=by grind[List.take_set]
theorem Yf {rr:Bool} {A:Nat} {c:List AV} {s0:AM} {bs:List (List AV)} {ts:List (Nat×Nat)} {Post:AV->AM->Prop} (h0:Bj s0) (hT:bs.take s0.bs.length=s0.bs.set A c) (hc:Ab s0.bs.length c=true) (hP:Post (.tuple []) ⟨s0.bs.set A c,ts⟩):QM rr s0.bs.length Post (.tuple []) ⟨bs,ts⟩:=by
 refine JU (ds:=[]) ?_ rfl ?_
 .have:=Bj.set h0 hc ts (j:=A)
  rw[De];intro b hb;have:=this b (by grind)
  grind
 grind
section
variable {R:RT}
abbrev gR (A F:Nat):AV:=.func (.func 56) [] [.ptr A 0,.ptr F 0]
def uz (R:RT) (A F:Nat) (x:AV) (l m:List Int) (s:AM):Prop:=∀(L:A3) (c:AV),L.ro=0->L.rt=0->s.bs[A]?=some [c]->EM 0 s.ts 3 c (AY l) ->
 ∃v s',(∃c' ts',EM 0 ts' 3 c' (AY (l++m))/\v=.tuple []/\s'=⟨s.bs.set A [c'],ts'⟩)/\A8 (env R) L 56 [x,.ptr A 0,.ptr F 0] s v s'
theorem u6 {A F:Nat} {ts:List Ty} {a:AV} (ha:Av a (AP ts)) (hl:ts.length<2 ^ 38) {l:List Int} {s0:AM} (hs0:Bj s0) (hA:A<s0.bs.length) (hF:s0.bs[F]?=some [gR A F]) (hAF:A≠F)
  (ih:∀t∈ts,∀(l:List Int) (s:AM),Bj s->s.bs[F]?=some [gR A F]->l.length+(Al t).length<2 ^ 40->uz R A F (.agg ((Aa t).map .pv)) l (Al t) s)
  (hb:l.length+(CL ts).length<2 ^ 40) {rr:Bool} {Post:AV->AM->Prop} (hP:∀c' ts',EM 0 ts' 3 c' (AY (l++CL ts))->Post (.tuple []) ⟨s0.bs.set A [c'],ts'⟩) :
  ∀(j q:Nat) (done:List Int) (bs:List (List AV)) (tk:List (Nat×Nat)) (c:AV),q+j=ts.length->done++CL (ts.drop q)=l++CL ts->Bj ⟨bs,tk⟩->s0.bs.length<=bs.length->bs.take s0.bs.length=s0.bs.set A [c]->EM 0 tk 3 c (AY done) ->
   kU R 0 0 0 (.ptr F 0) a (AA ts.length) (AA q) ⟨bs,tk⟩ (QM rr s0.bs.length Post):=by
 intro j
 induction j with
 | zero=>
  intro q done bs tk c hi hd hs hn hT hc;refine AD7 (A2 ?_);rw[BF (by omega)];rw[Cj (by omega),CL,Hj] at hd;refine BE (Yf hs0 hT (by simp[Ab,hc.A9.Ai]) (hP c tk ?_))
  grind
 | succ j Et=>
  intro q done bs tk c hi hd hs hn hT hc;refine AD7 (A2 ?_);rw[Aq (by omega)];obtain⟨t,ht⟩:∃t,ts[q]?=some t:=⟨_,Ap (by omega)⟩;have hrl:((Aa t).map AV.pv).length=4:=by grind[Ad]
  have hro:=Ct t
  have K6:Ab (bs.length+1) ((Aa t).map AV.pv)=true:=by
   obtain⟨k1,n1,i1,t1⟩:=t;rfl
  refine BP (AN5 (BO ha (row:=Aa t) (by omega) (by grind[BJ]) (Ad _) (by omega) (Di (Bi ?_))));have kQ:=ih t (BA ht);have hdr:ts.drop q=t::ts.drop (q+1):=drop_cons ht;rw[hdr,CL,<-EX] at hd;have hdl:=BX List.length hd;simp only[B7] at hdl;generalize (Aa t).map AV.pv=row at hrl hro K6 kQ;refine BZ (Am bs Z4) hrl rfl (by decide) (AK _) hro (.inl (AK _)) ?_;have e:(bs++[Z4]).set bs.length row=bs++[row]:=by simp
  rw[e];have gF:(s0.bs.set A [c])[F]?=some [gR A F]:=by grind
  have gA:(s0.bs.set A [c])[A]?=some [c]:=by rw[Fy (by omega)]
  have hs':Bj ⟨bs++[row],tk⟩:=Bj.app (s:=⟨bs,tk⟩) hs K6;have rZ:=(Gb hn row).trans hT;obtain⟨v,s',⟨c',ts',h1,rfl,rfl⟩,h3⟩:=kQ done ⟨bs++[row],tk⟩ hs' (D7 rZ gF) (by omega) (Cu (env R) 56 0 0 0) c rfl rfl (D7 rZ gA) hc;refine Ag (Ah (D7 hT gF) row) rfl (Af (Am bs row) hrl ⟨_,_,h3,AN7 (CO (by omega) (by omega) ?_)⟩);have hTs:=Gk (j:=A) (c:=[c']) rZ;rw[XT] at hTs;exact Et (q+1) (done++Al t) _ ts' c' (by omega) hd (Bj.set (s:=⟨bs++[row],tk⟩) hs' (by simp[Ab,Ai,h1.A9.Ai]) _) (by grind) hTs h1
mutual
theorem bP {A F:Nat} (hAF:A≠F):∀(t:Ty),size t<2 ^ 38->∀(x:AV),A5 t x->∀(l:List Int) (s:AM),Bj s->s.bs[F]?=some [gR A F]->l.length+(Al t).length<2 ^ 40->uz R A F x l (Al t) s
 | .mk k n i ts,h,x,hx,l,s,hs,hF,hb,L,c,hro,GZ,hA,hc=>by
  obtain⟨a,rfl,ha⟩:=hx;simp only[size] at h;rw[Al] at hb ⊢;have lA:=(BL.1 hA).1;have U3:=Bk ts;refine m56 (by simp[Bb,Ep]) ?_;rw[hro,GZ];have hs1:Bj ⟨s.bs++[[AA k,SS n,AA i,a]],s.ts⟩:=Bj.app hs (by simp[Ab,Ai,ha.Ai]);have g:=Am s.bs [AA k,SS n,AA i,a];refine AN8 (CT (cs:=[AA k,SS n,AA i,a]) rfl (by simp[ha.ok]) (AW (Ak g) (Ag g rfl (Bd ?_))));have gA:=Ah hA [AA k,SS n,AA i,a];have same:s.bs.set A [c]=s.bs:=by grind[List.set_getElem_self]
  have tkn:(s.bs++[[AA k,SS n,AA i,a]]).take s.bs.length=s.bs.set A [c]:=by grind
  cases h5:(k==5) with
  | true=>
   rw[h5] at hb;refine BP (Ag gA rfl (AW (Ak g) (Ag g rfl (Ye ⟨by decide,AB6 hc rfl (by omega) λc' ts' HM=>?_⟩))));refine Dr gA (by simp) HM.A9.cells (AK _) HM.A9.ok (.inl (AK _)) ?_;have hT:=Gk (j:=A) (c:=[c']) tkn;rw[XT] at hT;exact Yf hs hT (by simp[Ab,HM.A9.Ai]) ⟨c',ts',HM,rfl,rfl⟩
  | false=>
   refine BE (Bd ?_);cases h3:(k==3) with
   | true=>
    rw[h5,h3] at hb;refine BP (AW (Ak g) (Ag g rfl (BI (n:=ts.length) (by rw[ha.BN,AR]) ?_)));exact u6 (l:=l) ha (by omega) hs lA hF hAF (λt hm l s hs hF hb=>WH hAF ts (by omega) t hm l s hs hF hb) hb (λc' ts' HM=>⟨c',ts',HM,rfl,rfl⟩) ts.length 0 l _ s.ts c (by omega) (by simp) hs1 (by simp) tkn hc
   | false=>
    refine BE (Yf hs tkn (by simp[Ab,hc.A9.Ai]) ⟨c,s.ts,?_,rfl,rfl⟩)
    grind
theorem WH {A F:Nat} (hAF:A≠F):∀(ts:List Ty),AQ ts<2 ^ 38->∀t∈ts,∀(l:List Int) (s:AM),Bj s->s.bs[F]?=some [gR A F]->l.length+(Al t).length<2 ^ 40->uz R A F (.agg ((Aa t).map .pv)) l (Al t) s
 | [],_,_,h=>by cases h
 | e::l,h,t,hm=>by
  simp only[AQ] at h;rcases Az.1 hm with h' | h'
  .rw[h']
   exact bP hAF e (by omega) _ (A5.Bu _)
  .exact WH hAF l (by omega) t h'
end
def Yg (b:Br):List PV:=.list (AP b.bounds)::Aa b.body
def bQ (b:Br) (x:AV):Prop:=∃a y,x=.agg (a::y)/\Av a (AP b.bounds)/\A5 b.body (.agg y)
theorem bQ.Bu (b:Br):bQ b (.agg ((Yg b).map .pv)):=⟨_,_,rfl,.list _,A5.Bu _⟩
theorem Yh {E:Env} {s:AM} {id:Nat} {a:AV} {cs:List AV} {K:AV->Prop} (hb:s.bs[id]?=some (a::cs)) (hk:cs.length=4) (h:K (.agg cs)):EG E s (some 4) (.ptr id 1) K:=by
 simp only[EG,hb,wO,DQ,xL,xM,xF,xG];refine⟨by simp[hk],?_⟩
 show K (.agg (cs.take 4))
 rw[Cv (by omega)];exact h
theorem A5.cells {t:Ty} {y:List AV} (h:A5 t (.agg y)):y.length=4/\y.all A1=true/\Ab 0 y=true/\∀bs n m,AU bs n m y=some y:=by
 obtain⟨k,n,i,ts⟩:=t;obtain⟨a,hy,ha⟩:=h;cases hy;exact⟨rfl,by simp[ha.ok],by simp[Ab,Ai,ha.Ai],λbs n m=>by simp[ha.close,AU,close]⟩
theorem Nq {b:Br} (h:size b.body<2 ^ 38) (hc:(Al b.body).length<2 ^ 40) {x:AV} (hx:bQ b x):AL (env R) 23 [x] λr=>Av r (AY (Al b.body)):=by
 obtain⟨a,y,rfl,ha,hy⟩:=hx;obtain⟨h4,hok,hid,Ba⟩:=hy.cells;refine e23 (u0:=.agg (a::y)) (by simp[AU,close,ha.close,Ba]) (AN9 ?_);refine CT (cs:=a::y) rfl (by simp[ha.ok]; grind) (Bi (Bi ?_));refine Dr (id:=2) (off:=0) (cs:=[.pv (.sc .nilFunc)]) rfl (by decide) rfl (AK _) rfl (.inl (AK _)) ?_;refine Ag (id:=2) rfl rfl (AW (Ak (c:=a) (cs:=y) rfl) ?_)
 show EG _ _ _ (.ptr 0 1) _
 refine Yh rfl h4 ?_
 have hs:Bj ⟨[a::y,[.AB []],[gR 1 2]],[]⟩:=by
  intro c hc;simp only[Az,Ex,Ey] at hc;rcases hc with rfl|rfl|rfl
  .exact Bt (AK _) _ (by simp[Ab,ha.Ai,hid])
  all_goals rfl
 obtain⟨v,s',⟨c',ts',h1,rfl,rfl⟩,h3⟩:=bP (R:=R) (A:=1) (F:=2) (by decide) b.body h _ hy [] ⟨[a::y,[.AB []],[gR 1 2]],[]⟩ hs rfl (by grind) (Cu (env R) 23 0 0 0) (.AB []) rfl rfl rfl (.inl rfl);refine⟨_,_,h3,Ag (id:=1) rfl rfl ?_⟩;obtain⟨r,c1,c2⟩:=Np h1 _ 0;exact⟨r,c1,by grind⟩
theorem Js {b:Br} (h:size b.body<2 ^ 38) (hl:b.bounds.length<2 ^ 38) (hc:(Al b.body).length<2 ^ 40) {x:AV} (hx:bQ b x):AL (env R) 46 [x] λr=>r=BB (decide (b.bounds.length<=6)&&decide ((Al b.body).length<=3)):=by
 have hx':=hx;obtain⟨a,y,rfl,ha,hy⟩:=hx;obtain⟨h4,hok,hid,Ba⟩:=hy.cells;refine e46 (u0:=.agg (a::y)) (by simp[AU,close,ha.close,Ba]) (AOA ?_);have g:∀ts,(AM.mk [a::y] ts).bs[0]?=some (a::y):=λ_=>rfl
 refine CT (cs:=a::y) rfl (by simp[ha.ok]; grind) (AW (Ak (g _)) (Ag (g _) rfl (BI (n:=b.bounds.length) (by rw[ha.BN,AR]) (YY ?_))))
 by_cases h6:b.bounds.length<=6
 .rw[Aq (by omega)]
  refine Ax (Af (g _) (by grind) (Ax (AG (Nq h hc hx') λr hr=>Ax (BI (n:=(Al b.body).length) (by rw[hr.BN,CS]) (Ax (YY (pk ?_)))))));refine⟨_,rfl,?_⟩;rw[Aq h6];have:(((Al b.body).length:Int)<=3)<->((Al b.body).length<=3):=by omega
  grind
 .rw[BF (by omega)]
  refine Bx (Bx (Bx (Bx (pk ⟨_,rfl,?_⟩))))
  grind
theorem LM {s:AM} {p:PV} {K:AV->Prop} (hK:K (.pv p)):EG (env R) s none (.C8 [p] 0) K:=by simp[*]
def ixI (n:Int) (l:List Int):Int:=match l.findIdx? (·==n) with
 | some j=>j
 | none=>-1
theorem gS {l:List Int} {n:Int} (hl:l.length<2 ^ 40) {b:AV} (hb:BG b (AY l)):AL (env R) 93 [b,AA n] λr=>r=AA (ixI n l):=by
 obtain⟨a,Ba,ha⟩:=hb.closed [] 0;refine e93 (u0:=a) (u1:=AA n) (by simp[*]) (AOB (BI (n:=l.length) (by rw[ha.BN,CS]) ?_))
 suffices H:∀(j q:Nat),q+j=l.length->(∀p,p<q->l[p]?≠some n)->kV R 0 0 0 a (AA n) (AA l.length) (AA q) ⟨[],[]⟩ (QP λr=>r=AA (ixI n l)) from H l.length 0 (by omega) (λp hp=>by omega)
 intro j
 induction j with
 | zero=>
  intro q hi hn;refine AD8 (A2 ?_);rw[BF (by omega)];refine BE (AOC ⟨_,rfl,?_⟩)
  grind[List.getElem?_of_mem,ixI]
 | succ j Et=>
  intro q hi hn;refine AD8 (A2 ?_);rw[Aq (by omega)];obtain⟨m,hm⟩:∃m,l[q]?=some m:=⟨_,Ap (by omega)⟩;refine BP (AOD (BO ha (row:=[.sc (.int .i64 m)]) (by omega) (by simp[*,AY]) rfl (by omega) ?_));refine LM ?_;refine Bd ?_;cases he:n==m with
  | true=>
   refine BP ⟨_,rfl,?_⟩;have:l.findIdx? (·==n)=some q:=by grind[List.findIdx?_eq_some_iff_getElem]
   rw[ixI,this]
  | false=>
   refine BE (AOE (CO (by omega) (by omega) (Et (q+1) (by omega) ?_)))
   grind
end
def tok:AV->Option Nat
 | .own t _=>some t
 | _=>none
def ES (a a':AV) (ts ts':List (Nat×Nat)):Prop:=ts.length<=ts'.length/\(∀t,t<ts.length->tok a≠some t->ts'[t]?=ts[t]?)/\(tok a'=tok a\/∃t,tok a'=some t/\ts.length<=t)
theorem ES.refl (a:AV) (ts:List (Nat×Nat)):ES a a ts ts:=⟨AN _,λ_ _ _=>rfl,.inl rfl⟩
theorem ES.trans {a b c:AV} {ts tu tv:List (Nat×Nat)} (h:ES a b ts tu) (k:ES b c tu tv):ES a c ts tv:=by
 obtain⟨h1,h2,h3⟩:=h;obtain⟨k1,k2,k3⟩:=k;refine⟨A6 h1 k1,λt ht ha=>?_,?_⟩
 all_goals grind
def D2 (b:AV) (ts:List (Nat×Nat)):Prop:=∀t,tok b=some t->ts.length<=t
theorem D2.WI {b b':AV} {ts0 ts ts':List (Nat×Nat)} (h:D2 b ts0) (hc:ES b b' ts ts') (hl:ts0.length<=ts.length):D2 b' ts0:=by
 intro t ht;rcases hc.2.2 with h1|⟨u,h1,h2⟩
 .exact h t (by rw[<-h1,ht])
 grind
theorem ES.side {a a' b b':AV} {ts0 ts ts':List (Nat×Nat)} (h:ES a a' ts0 ts) (k:ES b b' ts ts') (hb:D2 b ts0):ES a a' ts0 ts':=by
 obtain⟨h1,h2,h3⟩:=h;obtain⟨k1,k2,k3⟩:=k;refine⟨A6 h1 k1,λt ht ha=>?_,h3⟩;rw[k2 t (by omega) λhb'=>?_,h2 t ht ha];have:=hb t hb';omega
def RU (a b:AV):Prop:=∀t,tok a=some t->tok b≠some t
theorem RU.symm {a b:AV} (h:RU a b):RU b a:=λt h1 h2=>h t h2 h1
theorem EM.u7 {lo:Nat} {ts:List (Nat×Nat)} {k:Nat} {a:AV} {rows:List (List PV)} (h:EM lo ts k a rows) {t:Nat} (ht:tok a=some t):t<ts.length:=by
 rcases h with rfl|⟨u,rfl,h1,_⟩
 .cases ht
 .cases ht
  grind
theorem RU.WI {a a' b:AV} {lo k:Nat} {ts ts':List (Nat×Nat)} {rows:List (List PV)} (h:RU a b) (hc:ES a a' ts ts') (hb:EM lo ts k b rows):RU a' b:=by
 intro t ht hbt;rcases hc.2.2 with h1|⟨u,h1,h2⟩
 .exact h t (by rw[<-h1,ht]) hbt
 .rw[h1] at ht
  cases ht;have:=EM.u7 hb hbt;omega
theorem ES.keep {a a' b:AV} {lo k:Nat} {ts ts':List (Nat×Nat)} {rows:List (List PV)} (hc:ES a a' ts ts') (hb:EM lo ts k b rows) (h:RU a b):EM lo ts' k b rows:=by
 rcases hb with rfl|⟨t,rfl,h1,h2⟩
 .exact .inl rfl
 .refine .inr ⟨t,rfl,?_,h2⟩
  rw[hc.2.1 t (BL.1 h1).1 λha=>h t ha rfl];omega
theorem RU.AB (a:AV) (rows:List (List PV)):RU a (.AB rows):=λ_ _ h=>by cases h
theorem D2.AB (ts:List (Nat×Nat)) (rows:List (List PV)):D2 (.AB rows) ts:=λ_ h=>by cases h
theorem Yi {L:A3} {s:AM} {e:Nat} {k bytes:Nat} {a y:AV} {rows m:List (List PV)} {K:AV->AM->Prop} (ha:EM 0 s.ts e a rows) (GZ:L.rt=0) (hrows:∀r∈rows,r.length=k) (hm:∀r∈m,r.length=k) (hk:0<k)
  (hy:DN s k y=some (m.flatten.map .pv)) (hok:(m.flatten.map AV.pv).all A1=true) (hb:(rows.length+m.length)*bytes<=2 ^ 45) (M9:rows.length+m.length<=2 ^ 45)
  (h:∀a' ts',EM 0 ts' e a' (rows++m)->ES a a' s.ts ts'->K a' ⟨s.bs,ts'⟩):EL false L s e k bytes a y K:=by
 obtain⟨bs,ts⟩:=s;have hall:(rows.all λr=>r.length==k)=true:=by grind
 unfold EL;rw[hy];have hfl:=MI m hm;have hby:=HG m hm;cases hc:m.flatten with
 | nil=>
  have hm0:m=[]:=by
   cases m with
   | nil=>rfl
   | cons r m=>
    grind
  subst hm0;have:=h a ts (by grind) (ES.refl _ _);rcases ha with rfl|⟨t,rfl,h1,h2⟩ <;> simp[*]
 | cons c cs=>
  have hmap:m.flatten.map AV.pv=.pv c::cs.map .pv:=by grind
  have hl:(AV.pv c::cs.map .pv).length / k=m.length:=by
   rw[<-hmap,Bn,hfl,Nat.mul_div_cancel _ hk]
  have htp:Cm (AV.pv c::cs.map .pv)=some m.flatten:=by grind[Kh]
  rw[hmap] at hok;simp only[wO,Bz,hok,hl,htp,hby];refine⟨AZ,?_⟩;rcases ha with rfl|⟨t,rfl,h1,h2⟩
  .refine⟨⟨hb,M9,hall⟩,?_⟩
   refine h (.own ts.length (rows++m)) (ts++[(rows.length+m.length,e)]) (.inr ⟨_,rfl,by simp,AK _⟩) ⟨by simp,λt ht _=>?_,.inr ⟨_,rfl,AN _⟩⟩;rw[Cf ht]
  .refine⟨⟨hb,M9,h1,by omega,hall⟩,?_⟩
   have hlt:t<ts.length:=(BL.1 h1).1;refine h (.own t (rows++m)) (ts.set t (rows.length+m.length,e)) (.inr ⟨_,rfl,by grind,h2⟩) ⟨by simp,λu hu hn=>?_,.inl rfl⟩;rw[Fv];intro htu;exact hn (by rw[htu]; rfl)
theorem oc (t:Ty):(([Aa t].flatten).map AV.pv).all A1=true:=by grind[Ct]
theorem Mq {L:A3} {s:AM} {a:AV} {es:List Ty} {t:Ty} {K:AV->AM->Prop} (ha:EM 0 s.ts 25 a (AP es)) (GZ:L.rt=0) (hl:es.length<2 ^ 38) (h:∀a' ts',EM 0 ts' 25 a' (AP (es++[t]))->ES a a' s.ts ts'->K a' ⟨s.bs,ts'⟩) :
  EL false L s 25 4 56 a (.AB [Aa t]) K:=by
 have hl':=AR es;have hm:∀r∈[Aa t],r.length=4:=by simp[Ad]
 refine Yi (m:=[Aa t]) ha GZ (λr hr=>Gw hr) hm (by omega) (ER (.inl (.AB _)) hm) (oc t) (by grind) (by grind) λa' ts' h1 h2=>h a' ts' ?_ h2
 grind[E8,AP]
theorem u9 {L:A3} {s:AM} {a:AV} {l:List Int} {n:Int} {K:AV->AM->Prop} (ha:EM 0 s.ts 3 a (AY l)) (GZ:L.rt=0) (hl:l.length<2 ^ 40) (h:∀a' ts',EM 0 ts' 3 a' (AY (l++[n]))->ES a a' s.ts ts'->K a' ⟨s.bs,ts'⟩) :
  EL false L s 3 1 8 a (.AB [[.sc (.int .i64 n)]]) K:=by
 have hl':=CS l;have hm:∀r∈[[PV.sc (.int .i64 n)]],r.length=1:=by simp
 refine Yi (m:=[[.sc (.int .i64 n)]]) ha GZ EH hm (by omega) (ER (.inl (.AB _)) hm) (by simp) (by grind) (by grind) λa' ts' h1 h2=>h a' ts' ?_ h2
 grind[AY]
theorem kW {rr:Bool} {A:Nat} {c:List AV} {cs ds:List AV} {s0:AM} {bs:List (List AV)} {ts:List (Nat×Nat)} {Post:AV->AM->Prop} (h0:Bj s0) (hT:bs.take s0.bs.length=s0.bs.set A c) (hc:Ab s0.bs.length c=true) (Ba:AU bs s0.bs.length ts.length cs=some ds) (hP:Post (.agg ds) ⟨s0.bs.set A c,ts⟩):QM rr s0.bs.length Post (.agg cs) ⟨bs,ts⟩:=by
 refine gT (ds:=ds) ?_ Ba ?_
 .have:=Bj.set h0 hc ts (j:=A)
  rw[De];intro b hb;have:=this b (by grind)
  grind
 grind
theorem DV {bs:List (List AV)} {n j:Nat} {c:List AV} (h:n<=j):(bs.set j c).take n=bs.take n:=by grind[List.take_set,List.set_eq_of_length_le]
theorem BM.Mr {v:Ty} {cs:List AV} (h:BM v (.agg cs)) (bs:List (List AV)) (n m:Nat):∃ds,AU bs n m cs=some ds/\BM v (.agg ds):=by
 obtain⟨k,c,i,ts⟩:=v;obtain⟨a,hcs,ha⟩:=h;cases hcs;obtain⟨a',h1,h2⟩:=ha.close bs n m;exact⟨[AA k,SS c,AA i,a'],by simp[*],⟨a',rfl,h2⟩⟩
abbrev gU (o:List Nat):List Int:=o.map λ(x:Nat)=>(x:Int)
theorem AB8 (o:List Nat) {i:Int} (h:0<=i):ixI i (gU o)=match o.findIdx? (·==i.toNat) with
  | some j=>(j:Int)
  | none=>-1:=by
 rw[ixI,List.findIdx?_map];have:((λx:Int=>x==i)∘λx:Nat=>(x:Int))=λx:Nat=>x==i.toNat:=by grind
 grind
section
variable {R:RT}
abbrev bR (P A F:Nat):AV:=.func (.func 91) [] [.ptr P 0,.ptr A 0,.ptr F 0]
structure U9 (P A F e:Nat) (B:List Ty) (bs:List (List AV)):Prop where
 hP:bs[P]?=some [.ptr e 0]
 hF:bs[F]?=some [bR P A F]
 he:∃c cs,bs[e]?=some (c::cs)/\BG c (AP B)
 nP:A≠P
 nF:A≠F
 ne:A≠e
theorem U9.of {P A F e:Nat} {B:List Ty} {bs bs':List (List AV)} (h:U9 P A F e B bs) (hk:∀j c,j≠A->bs[j]?=some c->bs'[j]?=some c):U9 P A F e B bs':=by
 obtain⟨c,cs,h1,h2⟩:=h.he;exact⟨hk _ _ h.nP.symm h.hP,hk _ _ h.nF.symm h.hF,⟨c,cs,hk _ _ h.ne.symm h1,h2⟩,h.nP,h.nF,h.ne⟩
theorem U9.tk {P A F e n:Nat} {B:List Ty} {bs bs':List (List AV)} {c:List AV} (h:U9 P A F e B bs) (hT:bs'.take n=bs.set A c):U9 P A F e B bs':=
 h.of λj d hj hd=>D7 hT (by grind)
def vA (R:RT) (P A F N:Nat) (x:AV) (o:List Nat) (t:Ty) (s:AM):Prop:=∀(L:A3) (c:AV),L.ro=0->L.rt=0->s.bs[A]?=some [c]->EM 0 s.ts 3 c (AY (gU o)) ->
 ∃v s',(∃c' ts' ds,EM 0 ts' 3 c' (AY (gU (KE N t o).2))/\ES c c' s.ts ts'/\v=.agg ds/\BM (ren (KE N t o).1) (.agg ds)/\s'=⟨s.bs.set A [c'],ts'⟩)/\A8 (env R) L 91 [x,.ptr P 0,.ptr A 0,.ptr F 0] s v s'
theorem vB {P A F e N:Nat} {B ts:List Ty} (hN:B.length=N) {a:AV} (ha:Av a (AP (Bq ts))) (hl:ts.length<2 ^ 38) {k i:Int} {n:List UInt8} (hk7:k≠7) {o0:List Nat} {c0:AV} {s0:AM} (hs0:Bj s0) (hA:A<s0.bs.length) (hE:U9 P A F e B s0.bs)
  (ih:∀t∈ts,∀(o:List Nat) (s:AM),Bj s->U9 P A F e B s.bs->o.length+size t<2 ^ 40->vA R P A F N (.agg ((Aa (ren t)).map .pv)) o t s)
  (hlen:∀t∈ts,∀o,(KE N t o).2.length<=o.length+size t) (hb:o0.length+AQ ts<2 ^ 40) {rr:Bool} {Post:AV->AM->Prop}
  (hP:∀c' ts' ds,EM 0 ts' 3 c' (AY (gU (Gh N ts o0).2))->ES c0 c' s0.ts ts'->BM (.mk k n i (Bq (Gh N ts o0).1)) (.agg ds)->Post (.agg ds) ⟨s0.bs.set A [c'],ts'⟩) :
  ∀(j q:Nat) (o:List Nat) (done:List Ty) (bs:List (List AV)) (tk:List (Nat×Nat)) (b c:AV),q+j=ts.length->done++(Gh N (ts.drop q) o).1=(Gh N ts o0).1->(Gh N (ts.drop q) o).2=(Gh N ts o0).2->done.length=q->o.length+AQ (ts.drop q)<=o0.length+AQ ts ->
   Bj ⟨bs,tk⟩->bs.take s0.bs.length=s0.bs.set A [c]->bs[s0.bs.length]?=some [AA k,SS n,AA i,a]->bs[s0.bs.length+1]?=some Z4->bs[s0.bs.length+2]?=some [AA k,SS n,AA i,b] ->
   EM 0 tk 3 c (AY (gU o))->EM 0 tk 25 b (AP (Bq done))->ES c0 c s0.ts tk->D2 b s0.ts->RU c b ->
   kX R 0 0 0 (.ptr F 0) (.ptr (s0.bs.length+1) 0) (.ptr (s0.bs.length+2) 0) a (AA ts.length) (AA q) ⟨bs,tk⟩ (QM rr s0.bs.length Post):=by
 have U3:=Bk ts;intro j
 induction j with
 | zero=>
  intro q o done bs tk b c hi hd1 Sg hdl ho hs hT h0 h1 h2 hc jb hC hfr Jd;refine AEA (A2 ?_);rw[BF (by omega)];rw[Cj (by omega),Gh,Hj] at hd1;rw[Cj (by omega),Gh] at Sg;simp only at hd1 Sg;rw[hd1] at jb;rw[Sg] at hc;refine BE (AOG (Af h2 rfl (BZ h1 rfl rfl (by decide) (AK _) (by simp[jb.A9.ok]) (.inl (AK _)) (Af (Be h1) rfl ?_))));obtain⟨ds,c1,c2⟩:=BM.Mr (v:=.mk k n i (Bq (Gh N ts o0).1)) (cs:=[AA k,SS n,AA i,b]) ⟨b,rfl,jb.A9⟩ (bs.set (s0.bs.length+1) [AA k,SS n,AA i,b]) s0.bs.length tk.length;exact kW hs0 ((DV (by omega)).trans hT) (by simp[Ab,hc.A9.Ai]) c1 (hP c tk ds hc hC c2)
 | succ j Et=>
  intro q o done bs tk b c hi hd1 Sg hdl ho hs hT h0 h1 h2 hc jb hC hfr Jd;refine AEA (A2 ?_);rw[Aq (by omega)];obtain⟨t,ht⟩:∃t,ts[q]?=some t:=⟨_,Ap (by omega)⟩;have GZ:(Bq ts)[q]?=some (ren t):=by grind[Bf]
  have Zz:=BA ht;have hrl:((Aa (ren t)).map AV.pv).length=4:=by grind[Ad]
  have hro:=Ct (ren t)
  have K6:Ab (bs.length+1) ((Aa (ren t)).map AV.pv)=true:=by
   obtain⟨k1,n1,i1,t1⟩:=ren t;rfl
  refine BP (AOH (BO ha (row:=Aa (ren t)) (by omega) (by simp[*,BJ]) (Ad _) (by omega) (Di (Bi ?_))));have kQ:=ih t Zz;have hdr:ts.drop q=t::ts.drop (q+1):=drop_cons ht;rw[hdr,Gh] at hd1 Sg;rw[hdr,AQ] at ho;generalize (Aa (ren t)).map AV.pv=row at hrl hro K6 kQ;refine BZ (Am bs Z4) hrl rfl (by decide) (AK _) hro (.inl (AK _)) ?_;have e:(bs++[Z4]).set bs.length row=bs++[row]:=by simp
  rw[e];have l2:=(BL.1 h2).1;have N4:s0.bs.length<=bs.length:=by omega
  have rZ:=(Gb N4 row).trans hT;have hs':Bj ⟨bs++[row],tk⟩:=Bj.app (s:=⟨bs,tk⟩) hs K6;have gA:(s0.bs.set A [c])[A]?=some [c]:=by rw[Fy (by omega)]
  have gF:(s0.bs.set A [c])[F]?=some [bR P A F]:=by rw[Fv hE.nF]; exact hE.hF
  obtain⟨v,s',⟨c',ts',ds,r1,r2,rfl,r4,rfl⟩,r6⟩:=kQ o ⟨bs++[row],tk⟩ hs' (hE.tk rZ) (by omega) (Cu (env R) 91 0 0 0) c rfl rfl (D7 rZ gA) hc;have g1:=Ah h1 row;have g2:=Ah h2 row;have g0:=Ah h0 row;have g2':((bs++[row]).set A [c'])[s0.bs.length+2]?=some [AA k,SS n,AA i,b]:=Bm g2 (by omega);refine AW (Ak g2) (Ag g2 rfl (Ag (Ah (D7 hT gF) row) rfl (Af (Am bs row) hrl ⟨_,_,r6,Gj r4 ⟨by decide,Mq (r2.keep jb Jd) rfl ?_ ?_⟩⟩)))
  .grind[Bf]
  .intro b' Hx hb' HM
   have er:Bq done++[ren (KE N t o).1]=Bq (done++[(KE N t o).1]):=by simp[Bf]
   rw[er] at hb';refine AW (Ak g2') (Dr g2' (by simp) hb'.A9.cells (AK _) hb'.A9.ok (.inl (AK _)) ?_);refine⟨AW (Ak g2') (Ec _ _),Ag g2' rfl (IG jb),AOJ (CO (by omega) (by omega) ?_)⟩;have AEB:RU b c':=(Jd.WI r2 jb).symm;have hTs:(((bs++[row]).set A [c']).set (s0.bs.length+2) [AA k,SS n,AA i,b']).take s0.bs.length=s0.bs.set A [c']:=by simp[*,DV,Gk]
   have hs2:Bj ⟨(bs++[row]).set A [c'],ts'⟩:=Bj.set (s:=⟨bs++[row],tk⟩) hs' (by simp[Ab,Ai,r1.A9.Ai]) _;have:=hlen t Zz o
   have fin:=Et (q+1) (KE N t o).2 (done++[(KE N t o).1]) _ Hx b' c' (by omega) (by simp[*]) Sg (by grind) (by omega)
    (Bj.set (s:=⟨(bs++[row]).set A [c'],ts'⟩) hs2 (by simp[Ab,Ai,hb'.A9.Ai]) _) hTs (Bm (Bm g0 (by omega)) (by omega)) (Bm (Bm g1 (by omega)) (by omega)) (Be g2')
    (HM.keep r1 AEB) hb' ((hC.trans r2).side HM hfr) (hfr.WI HM (A6 hC.1 r2.1)) (AEB.WI HM r1).symm
   grind
end
end Go.Proofs.YtpgfpakdnijngaaGreatDoor
