/-
  The program's patterns: their kinds; where a placeholder occurs.
-/
import Derived.Test.YtpgfpakdnijngaaGreatDoorTB
import Derived.Test.YtpgfpakdnijngaaGreatDoorTA
import Derived.Test.YtpgfpakdnijngaaGreatDoorW1
import Derived.Test.YtpgfpakdnijngaaGreatDoorWpH
import Derived.Test.YtpgfpakdnijngaaGreatDoorW2
import Derived.Laws.Strings3
set_option linter.all false
namespace Go.Proofs.YtpgfpakdnijngaaGreatDoor
open Go.Tel
mutual
def inp:Ty->Bool
 | .mk k _ _ ts=>bif k==0 then ts.isEmpty else bif k==3||k==4||k==6 then S9 ts else true
def S9:List Ty->Bool
 | []=>true
 | t::l=>inp t&&S9 l
end
mutual
def pat:Ty->Bool
 | .mk k _ _ ts=>bif k==7||k==2 then true else bif k==3 then L4 ts else ts.isEmpty
def L4:List Ty->Bool
 | []=>true
 | t::l=>pat t&&L4 l
end
theorem TA:∀{l:List Ty} {t:Ty},S9 l=true->t∈l->inp t=true
 | [],_,_,h=>by cases h
 | a::l,t,h,ht=>by
  simp only[S9,AE] at h;rcases A1.1 ht with rfl|ht
  .grind
  .exact TA h.2 ht
theorem Qo:∀(l m:List Ty),L4 (l++m)=(L4 l&&L4 m)
 | [],m=>by rfl
 | t::l,m=>by simp[L4,Qo l m,N4]
mutual
theorem kH (v:Nat):∀(t:Ty) (u:Nat),inp t=true->inp (sub v u t)=true
 | .mk k n i ts,u,h=>by
  rw[inp] at h;rw[sub];cases h5:k==5 with
  | true=>
   have:k=5:=by grind
   subst this;simp only[AN];cases i==(u:Int) with
   | true=>rfl
   | false=>cases decide ((u:Int)<i) <;> rfl
  | false=>
   simp only[AG];rw[inp];cases h0:k==0 with
   | true=>
    rw[h0] at h;simp only[AN,Jl] at h ⊢;rw[h];rfl
   | false=>
    rw[h0] at h;simp only[AG] at h ⊢;cases h3:(k==3||k==4||k==6) with
    | true=>
     rw[h3] at h;exact aO v ts u k 0 h
    | false=>rfl
theorem aO (v:Nat):∀(l:List Ty) (u:Nat) (k:Int) (j:Nat),S9 l=true->S9 (J9 v u k j l)=true
 | [],_,_,_,_=>rfl
 | t::l,u,k,j,h=>by
  simp only[S9,AE] at h;simp only[J9,S9,AE];exact⟨kH v t _ h.1,aO v l u k (j+1) h.2⟩
end
mutual
theorem Ri {m:Int->Bool} {b:Ty} (hb:pat b=true):∀(t:Ty) (k:Nat),pat t=true->pat (KA m b t k)=true
 | .mk c n i ts,k,h=>by
  have h':=h;rw[pat] at h;rw[KA];cases h7:c==7 with
  | true=>
   grind
  | false=>
   rw[h7] at h;cases h3:c==3 with
   | false=>grind
   | true=>
    have:c=3:=by grind
    subst this;exact aP hb ts k h
theorem aP {m:Int->Bool} {b:Ty} (hb:pat b=true):∀(l:List Ty) (k:Nat),L4 l=true->L4 (Jj m b l k)=true
 | [],_,_=>rfl
 | t::l,k,h=>by
  simp only[L4,AE] at h;rw[Jj];cases decide (k<BT m t) with
  | true=>
   simp only[AN,L4,AE];exact⟨Ri hb t k h.1,h.2⟩
  | false=>
   simp only[AG,L4,AE];exact⟨h.1,aP hb l _ h.2⟩
end
mutual
theorem YD {v:Nat}:∀t:Ty,pat t=true->DW v true t=false->DW v false t=decide (0<BT (·==(v:Int)) t)
 | .mk k n i ts,hp,h=>by
  rw[DW] at h;rw[pat] at hp;rw[DW,BT];cases h7:k==7 with
  | true=>
   grind
  | false=>
   rw[h7] at h hp;simp only[AG,E6,Ga,Gb] at h hp ⊢;cases h2:k==2 with
   | true=>
    grind
   | false=>
    rw[h2] at h hp;simp only[W6,AG] at h hp;cases h3:k==3 with
    | true=>
     rw[h3] at hp;exact aQ ts hp h
    | false=>
     rw[h3] at hp;simp only[AG,Jl] at hp;subst hp;rfl
theorem aQ {v:Nat}:∀l:List Ty,L4 l=true->Fl v true l=false->Fl v false l=decide (0<CX (·==(v:Int)) l)
 | [],_,_=>rfl
 | t::l,hp,h=>by
  simp only[L4,AE] at hp;simp only[Fl,Gc] at h;rw[Fl,YD t hp.1 h.1,aQ l hp.2 h.2,CX]
  grind
end
mutual
theorem YE {v:Nat} {m:Int->Bool} {b:Ty} (hb:DW v true b=false):∀(t:Ty) (k:Nat),DW v true t=false->DW v true (KA m b t k)=false
 | .mk c n i ts,k,h=>by
  have h':=h;rw[DW] at h;rw[KA];cases h7:c==7 with
  | true=>
   grind
  | false=>
   rw[h7] at h;cases h3:c==3 with
   | false=>grind
   | true=>
    have:c=3:=by grind
    subst this;exact aR hb ts k h
theorem aR {v:Nat} {m:Int->Bool} {b:Ty} (hb:DW v true b=false):∀(l:List Ty) (k:Nat),Fl v true l=false->Fl v true (Jj m b l k)=false
 | [],_,_=>rfl
 | t::l,k,h=>by
  simp only[Fl,Gc] at h;rw[Jj];cases decide (k<BT m t) with
  | true=>
   simp only[AN,Fl,Gc];exact⟨YE hb t k h.1,h.2⟩
  | false=>
   simp only[AG,Fl,Gc];exact⟨h.1,aR hb l _ h.2⟩
end
section
variable {BA:Nat->Bool}
theorem TB {α:Type} {g:α->List Ty->Fm} {P:Ty->Prop}:∀(l:List α) (out B:List Ty) (r:List Ty),(∀a∈l,∀B r,(g a B).1=some r->∀p∈r,P p)->(CZ BA g l out B).1=some r->(∀p∈out,P p)->∀p∈r,P p
 | [],out,B,r,_,h,ho=>by grind[CZ]
 | a::l,out,B,r,hg,h,ho=>by
  have h2:=hg a (by simp) B;rw[CZ] at h;rcases hr:g a B with ⟨_|s,B1⟩
  .grind
  .rw[hr] at h h2
   simp only at h h2;cases hb:BA (out++s).length with
   | true=>grind
   | false=>
    rw[hb] at h;refine TB l (out++s) B1 r (λa ha=>hg a (by grind)) h ?_
    grind
theorem Vr {ex:List Ty->Fm} (hr:∀B r,(ex B).1=some r->∀c∈r,pat c=true) {v:Nat}:∀(f:Nat) (t:Ty) (B r:List Ty),pat t=true->(CN BA ex v f t B).1=some r->∀p∈r,pat p=true
 | 0,t,B,r,ht,h=>by grind[CN]
 | f+1,t,B,r,ht,h=>by
  have h2:=hr B;rw[CN] at h;cases ho:DW v false t with
  | false=>
   grind
  | true=>
   rw[ho] at h;simp only[AN] at h;rcases he:ex B with ⟨_|cs,B1⟩
   .grind
   .rw[he] at h h2
    simp only at h h2;exact TB cs [] B1 r (λc hc B' r' h'=>Vr hr f _ B' r' (Ri (h2 cs rfl c hc) t 0 ht) h') h (by simp)
theorem TC {ex:Ty->List Ty->Fm} {P:Ty->Prop}:∀(l out:List Ty) (ok:Bool) (B:List Ty),(∀t∈l,∀B r,(ex t B).1=some r->∀p∈r,P p)->(∀p∈out,P p)->∀p∈(Gz ex l out ok B).1.1,P p
 | [],_,_,_,_,ho=>ho
 | t::l,out,ok,B,hg,ho=>by
  have h2:=hg t (by simp) B;rw[Gz];rcases hr:ex t B with ⟨_|s,B1⟩
  .exact TC l out false B1 (λa ha=>hg a (by grind)) ho
  .rw[hr] at h2
   refine TC l (out++s) ok B1 (λa ha=>hg a (by grind)) ?_
   grind
theorem aS {ex:Ty->List Ty->Fm} {P:Ty->Prop}:∀(l:List Ty) (out:List (List Ty)) (B:List Ty) (r:List (List Ty)),(∀t∈l,∀B r,(ex t B).1=some r->∀p∈r,P p)->(Er ex l out B).1=some r->(∀o∈out,∀p∈o,P p)->∀o∈r,∀p∈o,P p
 | [],out,B,r,_,h,ho=>by grind[Er]
 | t::l,out,B,r,hg,h,ho=>by
  have h2:=hg t (by simp) B;rw[Er] at h;rcases hr:ex t B with ⟨_|s,B1⟩
  .grind
  .rw[hr] at h h2
   refine aS l (out++[s]) B1 r (λa ha=>hg a (by grind)) h ?_
   grind
theorem Vs:∀(ls out r:List (List Ty)),(∀l∈ls,∀p∈l,pat p=true)->Dn BA ls out=some r->(∀p∈out,L4 p=true)->∀p∈r,L4 p=true
 | [],out,r,_,h,ho=>by grind[Dn]
 | l::ls,out,r,hl,h,ho=>by
  rw[Dn] at h;cases hb:BA (out.flatMap λp=>l.map λx=>p++[x]).length with
  | true=>grind
  | false=>
   rw[hb] at h;refine Vs ls _ r (λa ha=>hl a (by grind)) h ?_
   grind[Qo,L4]
theorem On:∀(f:Nat) (t:Ty) (B r:List Ty),inp t=true->(A3 BA f t B).1=some r->∀p∈r,pat p=true
 | 0,_,_,_,_,h=>by cases h
 | f+1,.mk k n i ts,B,r,hi,h=>by
  have ih:=On f;rw[inp] at hi;rw[A3] at h;cases qY:k==0||k==2||k==7 with
  | true=>
   rw[qY] at h;cases hb:BA 1 with
   | true=>grind
   | false=>
    rw[hb] at h;cases h;intro p hp;rw[E7.1 hp];have:k=0\/k=2\/k=7:=by grind
    rcases this with rfl|rfl|rfl
    all_goals assumption
  | false=>
   rw[qY] at h;simp only[AG] at h;have h0:(k==0)=false:=by grind
   rw[h0] at hi;simp only[AG] at hi;cases L3:k==4 with
   | true=>
    rw[L3] at h hi;simp only[AN,G6,Hq] at h hi;have key:=TC (P:=λp=>pat p=true) ts [] true B (λt hm B' r' h'=>ih t B' r' (TA hi hm) h') (by simp)
    grind
   | false=>
    rw[L3] at h hi;simp only[AG,Bool.or_false] at h hi;cases Lb:k==3 with
    | true=>
     rw[Lb] at h hi;simp only[AN,Hq] at h hi;have key:=λr=>aS (P:=λp=>pat p=true) ts [] B r (λt hm B' r' h'=>ih t B' r' (TA hi hm) h')
     rcases hs:Er (A3 BA f) ts [] B with ⟨_|ls,B1⟩
     .grind
     .rw[hs] at h key
      simp only at h key;cases he:ls.any List.isEmpty with
      | true=>grind
      | false=>
       rw[he] at h;simp only[AG] at h;cases hc:Dn BA ls [[]] with
       | none=>grind
       | some all=>
        rw[hc] at h;simp only at h;cases hb:BA all.length with
        | true=>grind
        | false=>
         rw[hb] at h;cases h;intro p hp;obtain⟨a,ha,rfl⟩:=C0.1 hp;exact Vs ls _ all (key ls rfl (by simp)) hc (by simp[L4]) a ha
    | false=>
     rw[Lb] at h hi;simp only[AG,Gb] at h hi;cases fL:k==6 with
     | false=>
      grind
     | true=>
      rw[fL] at h hi;simp only[AN] at h hi
      match ts,hi with
      | [],_=>cases h; simp
      | [_],_=>cases h; simp
      | _::_::_::_,_=>cases h; simp
      | [b,body],hi=>
       simp only[S9,AE] at hi;simp only[dU] at h;have hl:=ih (sub B.length 0 body) (B++[b]);rcases hs:A3 BA f (sub B.length 0 body) (B++[b]) with ⟨_|l,B1⟩
       .grind
       .rw[hs] at h hl
        simp only at h hl;have hl':=hl l (kH _ _ 0 hi.2.1) rfl;have key:=λr h1=>TB (BA:=BA) (g:=Bv BA (A3 BA f b) B.length) (P:=λp=>pat p=true) l [] B1 r h1
        grind[Bv,Vr]
end
attribute [local simp] CI Bs LP LQ AO CU FJ wO setCells CJ D6 DV Cv A0 alive CY F9 I4 nx A6 DC BO Gs Dt DT si qd okB sj sk sq sr su jh sw sx sy s7 s8 s9 tA tB tC tD tE okF tF tG tH tI tJ Xs tK SR SU SV SW tL tM tN tP tQ tR tS tT tU tV Fw tW qe tX tY tZ td th tj tq uA uB uC Cm g0 g1 xI xL xM xF xG xC lf Y4 Y5
section
variable {R:Nat->Option (List PV)}
mutual
theorem kI:∀(t:Ty),size t<2 ^ 38->X4 t->∀(x:AV),A5 t x->AL (env R) 73 [x] λr=>r=BB (valid t)
 | .mk k n i ts,h,ho,x,hx=>by
  obtain⟨a,rfl,ha⟩:=hx;simp only[size] at h;simp only[X4] at ho;have hs:AZ ts<2 ^ 38:=by omega
  have hn:=ho.1;have ih:=aU ts hs ho.2
  suffices H:∀Post:AV->Prop,Post (BB (valid (.mk k n i ts)))->uu R 0 0 0 (.agg [AA k,SS n,AA i,a]) ⟨[],[]⟩ (QP Post) from
   e73 (u0:=.agg [AA k,SS n,AA i,a]) (by simp[ha.close]) (H _ rfl)
  intro Post hP;refine APP ?_;simp only[valid] at hP;unfold root at hP;cases b2:(k==2) with
  | true=>
   have e2:k=2:=by grind
   subst e2
   by_cases hi:i=0
   .subst hi
    simp[ha.ok,ha.A7,AR]
    grind[Pg]
   .have bi:(i==0)=false:=by grind
    rw[bi] at hP;simpa[QP,QI,ha.ok,ha.A7,AR,hi,bne,bi] using hP
  | false=>
   have e2:¬ k=2:=by grind
   rw[b2] at hP
   by_cases hn0:n=[]
   .subst hn0
    cases b5:(k==5) with
    | true=>
     have e5:k=5:=by grind
     subst e5;simp[ha.ok,ha.A7,AR]
     grind[Pg]
    | false=>
     have e5:¬ k=5:=by grind
     rw[b5] at hP
     by_cases hi:i=0
     .subst hi
      simp[ha.ok,ha.A7,AR,e2,e5,bne,b2,b5]
      grind[Pg]
     .have bi:(i==0)=false:=by grind
      rw[bi] at hP;simpa[QP,QI,ha.ok,ha.A7,AR,e2,e5,hi,bne,b2,b5,bi] using hP
   .have bn:(n==[])=false:=by grind
    rw[bn] at hP;simpa[QP,QI,ha.ok,ha.A7,AR,e2,hn0,bne,b2,bn] using hP
theorem aU:∀(l:List Ty),AZ l<2 ^ 38->Q2 l->∀t∈l,AL (env R) 73 [.agg ((Af t).map .pv)] λr=>r=BB (valid t)
 | [],_,_,_,h=>by cases h
 | e::l,ho,hk,a,h=>by
  simp only[AZ] at ho;simp only[Q2] at hk;rcases A1.1 h with h' | h'
  .rw[h']
   exact kI e (by omega) hk.1 _ (A5.BZ e)
  .exact aU l (by omega) hk.2 a h'
end
theorem TD {t:Ty} (h:size t<2 ^ 38) (ho:X4 t) {x:AV} (hx:A5 t x):AL (env R) 42 [x] λr=>r=AA (verdict t):=by
 have e1:=PY (R:=R) t (by omega) x hx;have e2:=Sc (R:=R) t (by omega) x hx;have e3:=LR (R:=R) t h ho x hx;have hv:verdict t=bif decide (200<size t)||decide (12<depth t) then 4 else bif valid t then 0 else 2:=rfl
 generalize hz:size t=z at *;generalize hd:depth t=d at *;generalize hw:valid t=w at *;obtain⟨k,n,i,ts⟩:=t;obtain⟨a,rfl,ha⟩:=hx;refine e42 (u0:=.agg [AA k,SS n,AA i,a]) (by simp[ha.close]) (AEo ?_);simp[ha.ok];refine AD e1 ?_;rintro v rfl
 have fin:∀b:Bool,b=(decide (200<z)||decide (12<d))->AO (BB b) (QP (λr=>r=AA (verdict (.mk k n i ts))) (AA 4) ⟨[[AA k,SS n,AA i,a]],[]⟩)
   (D6 (env R) ⟨[[AA k,SS n,AA i,a]],[]⟩ (some 4) (.ptr 0 0) λa13=>E3 (env R) (Cv (env R) 42 0 0 0) (.func (.func 86) [] []) [a13] ⟨[[AA k,SS n,AA i,a]],[]⟩ λa14 fV=>Dt a14 λa15=>AO a15 (QP (λr=>r=AA (verdict (.mk k n i ts))) (AA 2) fV) (uv R 0 0 0 fV (QP λr=>r=AA (verdict (.mk k n i ts))))):=by
  rintro b rfl;cases hb:(decide (200<z)||decide (12<d)) with
  | true=>simp[*,QP]
  | false=>
   simp;refine AD e3 ?_;rintro v rfl;cases w with
   | false=>simp[*,QP]
   | true=>
    simp;refine APR ?_;simp[*,QP]
 by_cases c1:200<z
 .have oD:(200<(z:Int)):=by omega
  have oE:¬ ((z:Int)<=200):=by omega
  have:=fin true (by grind);simpa[oD,oE] using this
 .have oD:¬ (200<(z:Int)):=by omega
  have oE:((z:Int)<=200):=by omega
  simp[oD,oE];refine AD e2 ?_;rintro v rfl
  by_cases c2:12<d
  .have c2':(12<(d:Int)):=by omega
   have c2n:¬ ((d:Int)<=12):=by omega
   have:=fin true (by grind);simpa[oD,oE,c2',c2n] using this
  .have c2':¬ (12<(d:Int)):=by omega
   have c2n:((d:Int)<=12):=by omega
   have:=fin false (by grind);simpa[oD,oE,c2',c2n] using this
theorem Uo {t:Ty} (h:size t<2 ^ 60) (ho:X4 t) {x:AV} (hx:A5 t x):AL (env R) 42 [x] λr=>r=AA (verdict t):=by
 by_cases hs:size t<2 ^ 38
 .grind[TD]
 have e1:=PY (R:=R) t (by omega) x hx;have hv:verdict t=4:=by grind[verdict]
 rw[hv];generalize hz:size t=z at *;obtain⟨k,n,i,ts⟩:=t;obtain⟨a,rfl,ha⟩:=hx;refine e42 (u0:=.agg [AA k,SS n,AA i,a]) (by simp[ha.close]) (AEo ?_);simp[ha.ok];refine AD e1 ?_;rintro v rfl;have oD:(200<(z:Int)):=by omega
 have oE:¬ ((z:Int)<=200):=by omega
 simp[*,QP]
theorem Q4 {t:Ty} (h:size t<2 ^ 38) (ho:X4 t) {x:AV} (hx:A5 t x):AL (env R) 30 [x] λr=>r=AA (verdict t):=by
 have e1:=NL (R:=R) t (by omega) x hx;have e2:=Qg (R:=R) t (by omega) x hx;have e3:=kI (R:=R) t h ho x hx;have hv:verdict t=bif decide (200<size t)||decide (12<depth t) then 4 else bif valid t then 0 else 2:=rfl
 generalize hz:size t=z at *;generalize hd:depth t=d at *;generalize hw:valid t=w at *;obtain⟨k,n,i,ts⟩:=t;obtain⟨a,rfl,ha⟩:=hx;refine e30 (u0:=.agg [AA k,SS n,AA i,a]) (by simp[ha.close]) (AEp ?_);simp[ha.ok];refine AD e1 ?_;rintro v rfl
 have fin:∀b:Bool,b=(decide (200<z)||decide (12<d))->AO (BB b) (QP (λr=>r=AA (verdict (.mk k n i ts))) (AA 4) ⟨[[AA k,SS n,AA i,a]],[]⟩)
   (D6 (env R) ⟨[[AA k,SS n,AA i,a]],[]⟩ (some 4) (.ptr 0 0) λa13=>E3 (env R) (Cv (env R) 30 0 0 0) (.func (.func 73) [] []) [a13] ⟨[[AA k,SS n,AA i,a]],[]⟩ λa14 fV=>Dt a14 λa15=>AO a15 (QP (λr=>r=AA (verdict (.mk k n i ts))) (AA 2) fV) (uw R 0 0 0 fV (QP λr=>r=AA (verdict (.mk k n i ts))))):=by
  rintro b rfl;cases hb:(decide (200<z)||decide (12<d)) with
  | true=>simp[*,QP]
  | false=>
   simp;refine AD e3 ?_;rintro v rfl;cases w with
   | false=>simp[*,QP]
   | true=>
    simp;refine APS ?_;simp[*,QP]
 by_cases c1:200<z
 .have oD:(200<(z:Int)):=by omega
  have oE:¬ ((z:Int)<=200):=by omega
  have:=fin true (by grind);simpa[oD,oE] using this
 .have oD:¬ (200<(z:Int)):=by omega
  have oE:((z:Int)<=200):=by omega
  simp[oD,oE];refine AD e2 ?_;rintro v rfl
  by_cases c2:12<d
  .have c2':(12<(d:Int)):=by omega
   have c2n:¬ ((d:Int)<=12):=by omega
   have:=fin true (by grind);simpa[oD,oE,c2',c2n] using this
  .have c2':¬ (12<(d:Int)):=by omega
   have c2n:((d:Int)<=12):=by omega
   have:=fin false (by grind);simpa[oD,oE,c2',c2n] using this
theorem TE {t:Ty} (h:size t<2 ^ 60) (ho:X4 t) {x:AV} (hx:A5 t x):AL (env R) 30 [x] λr=>r=AA (verdict t):=by
 by_cases hs:size t<2 ^ 38
 .grind[Q4]
 have e1:=NL (R:=R) t (by omega) x hx;have hv:verdict t=4:=by grind[verdict]
 rw[hv];generalize hz:size t=z at *;obtain⟨k,n,i,ts⟩:=t;obtain⟨a,rfl,ha⟩:=hx;refine e30 (u0:=.agg [AA k,SS n,AA i,a]) (by simp[ha.close]) (AEp ?_);simp[ha.ok];refine AD e1 ?_;rintro v rfl;have oD:(200<(z:Int)):=by omega
 have oE:¬ ((z:Int)<=200):=by omega
 simp[*,QP]
end
section
variable {R:Nat->Option (List PV)}
theorem LC (b:Bool):AL (env R) 113 [BB b] λr=>∃c:Int,r=AA c/\c≠0:=by
 refine AWh (u0:=BB b) (by simp) (AKJ ?_);refine⟨λ_=>⟨_,Fw,-1,rfl,by omega⟩,λ_=>AKK ⟨_,Fw,1,rfl,by omega⟩⟩
theorem ux {k i k' i':Int} {n n':List UInt8} {ts ts':List Ty} {a a':AV} (ha:Aq a (AW ts)) (Ir:Aq a' (AW ts')) (hl:AZ ts<2 ^ 60) (hlen:ts.length=ts'.length)
  (ih:∀t∈ts,∀(t':Ty) (x x':AV),A5 t x->A5 t' x'->AL (env R) 79 [x,x'] λr=>∃c:Int,r=AA c/\(c=0<->t=t')) {Post:AV->Prop} :
  ∀(j q:Nat),q+j=ts.length->(∀c:Int,(c=0<->ts.drop q=ts'.drop q)->Post (AA c))->kJ R 0 0 0 (.ptr 0 0) (.ptr 1 0) (AA q) ⟨[[AA k,SS n,AA i,a],[AA k',SS n',AA i',a']],[]⟩ (QP Post):=by
 have UT:=BP ts;intro j
 induction j with
 | zero=>
  intro q hi hP;refine AEq ?_;have h1:¬ ((q:Int)<ts.length):=by omega
  simp[ha.A7,AR,h1];refine APT ?_;have h2:ts.drop q=[]:=Bu (by omega);have h3:ts'.drop q=[]:=Bu (by omega);exact⟨_,Fw,hP 0 (by grind)⟩
 | succ j D2=>
  intro q hi hP;refine AEq ?_;have h1:((q:Int)<ts.length):=by omega
  obtain⟨t,ht⟩:∃t,ts[q]?=some t:=⟨_,Ak (by omega)⟩;obtain⟨t',ht'⟩:∃t,ts'[q]?=some t:=⟨_,Ak (by omega)⟩;rw[drop_cons ht,drop_cons ht'] at hP;have e3:=ih t (A2 ht) t' _ _ (A5.BZ t) (A5.BZ t');simp[ha.A7,AR,h1];refine APU ?_;simp;refine BI ha (row:=Af t) (by omega) (by simp[*,BE]) (Ac t) (by omega) ?_;simp[Ac];refine BI Ir (row:=Af t') (by omega) (by simp[*,BE]) (Ac t') (by omega) ?_;have tk:∀t:Ty,List.take 4 ((Af t).map AV.pv)=(Af t).map .pv:=λt=>CA (by simp[Ac])
  simp[Ac,<-List.map_take,tk];refine AD e3 ?_;rintro v ⟨c,rfl,hc⟩
  by_cases h0:c=0
  .have e:t=t':=hc.1 h0
   subst h0;simp;refine APV ?_;simp only[CY,xI];refine⟨⟨Ae,Ae⟩,B7 (by omega) (by omega) ?_⟩;have:=D2 (q+1) (by omega) (λc h=>hP c (by rw[h]; grind))
   grind
  simp_all[QP]
mutual
theorem aV:∀(t:Ty),size t<2 ^ 38->∀(t':Ty) (x x':AV),A5 t x->A5 t' x'->AL (env R) 79 [x,x'] λr=>∃c:Int,r=AA c/\(c=0<->t=t')
 | .mk k n i ts,h,.mk k' n' i' ts',x,x',hx,hx'=>by
  obtain⟨a,rfl,ha⟩:=hx;obtain⟨a',rfl,Ir⟩:=hx';simp only[size] at h;have ih:=Vt ts (by omega)
  suffices H:∀Post:AV->Prop,(∀c:Int,(c=0<->Ty.mk k n i ts=Ty.mk k' n' i' ts')->Post (AA c))->uy R 0 0 0 (.agg [AA k,SS n,AA i,a]) (.agg [AA k',SS n',AA i',a']) ⟨[],[]⟩ (QP Post) from
   e79 (u0:=.agg [AA k,SS n,AA i,a]) (u1:=.agg [AA k',SS n',AA i',a']) (by simp[ha.close,Ir.close]) (H _ λc hc=>⟨c,rfl,hc⟩)
  intro Post hP;refine APW ?_;simp only[Ty.mk.injEq] at hP
  by_cases h1:k=k'
  .subst h1
   by_cases h2:n=n'
   .subst h2
    by_cases h3:i=i'
    .subst h3
     by_cases h4:ts.length=ts'.length
     .have h4':((ts.length:Int)=ts'.length):=by omega
      simp[ha.ok,Ir.ok,ha.A7,Ir.A7,AR,h4',bne];refine APX ?_;have:=ux (k:=k) (i:=i) (k':=k) (i':=i) (n:=n) (n':=n) ha Ir (by omega) h4 ih ts.length 0 (by omega) (Post:=Post) (by grind);omega
     .have h4':¬ ((ts.length:Int)=ts'.length):=by omega
      simp[ha.ok,Ir.ok,ha.A7,Ir.A7,AR,h4',bne];refine AD (LC _) ?_;rintro v ⟨c,rfl,hc⟩;exact⟨_,Fw,hP c (by grind)⟩
    .have h3':(i==i')=false:=by grind
     simp[ha.ok,Ir.ok,h3,bne];refine AD (LC _) ?_;rintro v ⟨c,rfl,hc⟩;exact⟨_,Fw,hP c (by omega)⟩
   .simp[ha.ok,Ir.ok,h2,bne]
    refine AD (LC _) ?_;rintro v ⟨c,rfl,hc⟩;exact⟨_,Fw,hP c (by grind)⟩
  .simp[ha.ok,Ir.ok,h1,bne]
   refine AD (LC _) ?_;rintro v ⟨c,rfl,hc⟩;exact⟨_,Fw,hP c (by omega)⟩
theorem Vt:∀(l:List Ty),AZ l<2 ^ 38->∀t∈l,∀(t':Ty) (x x':AV),A5 t x->A5 t' x'->AL (env R) 79 [x,x'] λr=>∃c:Int,r=AA c/\(c=0<->t=t')
 | [],_,_,h=>by cases h
 | e::l,ho,a,h=>by
  simp only[AZ] at ho;rcases A1.1 h with h' | h'
  .rw[h']
   exact aV e (by omega)
  .exact Vt l (by omega) a h'
end
theorem Oo {t t':Ty} {x x':AV} (h:size t<2 ^ 38) (hx:A5 t x) (hx':A5 t' x'):AL (env R) 35 [x,x'] λr=>∃b:Bool,r=BB b/\(b=true<->t=t'):=by
 have e:=aV (R:=R) t h t' x x' hx hx';obtain⟨k,n,i,ts⟩:=t;obtain⟨k',n',i',ts'⟩:=t';obtain⟨a,rfl,ha⟩:=hx;obtain⟨a',rfl,Ir⟩:=hx';refine e35 (u0:=.agg [AA k,SS n,AA i,a]) (u1:=.agg [AA k',SS n',AA i',a']) (by simp[ha.close,Ir.close]) (APY ?_);simp[ha.ok,Ir.ok];refine AD e ?_;rintro v ⟨c,rfl,hc⟩;refine⟨⟨rfl,rfl⟩,_,Fw,?_⟩
 grind
end
theorem Ao {b:Bool} {s:AM} {W:(AV->AM->Prop)->Prop} {K:AV->AM->Prop} (h:W K):I4 (BB b) b s W K:=⟨λ_=>h,λh=>absurd rfl h⟩
theorem KB {b c:Bool} {s:AM} {W:(AV->AM->Prop)->Prop} {K:AV->AM->Prop} (hn:b≠c) (h:K (.tuple []) s):I4 (BB b) c s W K:=⟨λh=>absurd h hn,λ_=>h⟩
theorem DF {s:AM} {W:(AV->AM->Prop)->Prop} {K:AV->AM->Prop} (h:K (.tuple []) s):I4 (BB true) false s W K:=KB (by decide) h
theorem Bm {s:AM} {W:(AV->AM->Prop)->Prop} {K:AV->AM->Prop} (h:K (.tuple []) s):I4 (BB false) true s W K:=KB (by decide) h
theorem A4 {A B:Prop} (h:A):AO (BB true) A B:=⟨λ_=>h,λh=>by cases h⟩
theorem Am {A B:Prop} (h:B):AO (BB false) A B:=⟨λh=>(by cases h),λ_=>h⟩
theorem pk {c:Bool} {a b:AV} {K:AV->Prop} (h:K (bif c then a else b)):A6 (BB c) a b K:=h
theorem Au {k:IntKind} {a b:Int} {K:AV->Prop} (h:K (BB (a==b))):CY k .eql (.pv (.sc (.int k a))) (.pv (.sc (.int k b))) K:=⟨⟨rfl,rfl⟩,h⟩
theorem FE {k:IntKind} {a b:Int} {K:AV->Prop} (h:K (BB (a != b))):CY k .neq (.pv (.sc (.int k a))) (.pv (.sc (.int k b))) K:=⟨⟨rfl,rfl⟩,h⟩
theorem Ah {a b:Int} {K:AV->Prop} (h:K (BB (a<b))):CY .i64 .lss (AA a) (AA b) K:=⟨⟨rfl,rfl⟩,h⟩
theorem YF {a b:Int} {K:AV->Prop} (h:K (BB (a<=b))):CY .i64 .leq (AA a) (AA b) K:=⟨⟨rfl,rfl⟩,h⟩
theorem Fp {a b:Int} {K:AV->Prop} (h:K (BB (a>b))):CY .i64 .gtr (AA a) (AA b) K:=⟨⟨rfl,rfl⟩,h⟩
theorem NU {a b:Int} {K:AV->Prop} (h:K (BB (a>=b))):CY .i64 .geq (AA a) (AA b) K:=⟨⟨rfl,rfl⟩,h⟩
theorem BW {a b:Int} {K:AV->Prop} (h1:-(2 ^ 63)<=a+b) (h2:a+b<2 ^ 63) (h:K (AA (a+b))):CY .i64 .add (AA a) (AA b) K:=⟨⟨rfl,rfl⟩,B7 h1 h2 h⟩
theorem JV {a b:Int} {K:AV->Prop} (h1:-(2 ^ 63)<=a-b) (h2:a-b<2 ^ 63) (h:K (AA (a-b))):CY .i64 .sub (AA a) (AA b) K:=⟨⟨rfl,rfl⟩,B7 h1 h2 h⟩
theorem IC {z ps cs:_} {K:AV->Prop} (hf:FJ z ps=some cs) (h:K (.agg cs)):CU z ps K:=by
 simp only[CU,hf,wO];exact h
theorem nt {b:Bool} {K:AV->Prop} (h:K (BB !b)):Dt (BB b) K:=h
theorem CE {l:List AV} {i:Nat} {v:AV} {K:AV->Prop} (hi:l[i]?=some v) (h:K v):DC (.tuple l) i K:=by
 simp only[DC,wO,hi];exact h
theorem Bw {s:AM} {v:AV} {cs:List AV} {K:AV->AM->Prop} (hc:cellsOf v=cs) (ho:cs.all A9=true) (h:K (.ptr s.bs.length 0) ⟨s.bs++[cs],s.ts⟩):Bs s v K:=by
 unfold Bs;rw[hc];exact⟨ho,h⟩
theorem Bt {s:AM} {cs:List AV} {K:AV->AM->Prop} (h:K (.ptr s.bs.length 0) ⟨s.bs++[cs],s.ts⟩):CI s cs K:=h
theorem AP {s:AM} {id:Nat} {c:AV} {cs:List AV} (h:s.bs[id]?=some (c::cs)):alive s id=true:=by
 simp[alive,h]
theorem Cy {s:AM} {id off:Nat} {K:AV->Prop} (ha:alive s id=true) (h:K (.ptr id off)):DT s (.ptr id off) K:=⟨ha,h⟩
theorem AK {s:AM} {id off d:Nat} {K:AV->Prop} (ha:alive s id=true) (h:K (.ptr id (off+d))):A0 s (.ptr id off) d K:=⟨ha,h⟩
theorem AU {E:Env} {s:AM} {id off:Nat} {cs:List AV} {v:AV} {K:AV->Prop} (hb:s.bs[id]?=some cs) (hv:cs[off]?=some v) (h:K v):D6 E s none (.ptr id off) K:=by
 simp only[D6,hb,wO,DV,hv,xL,xM,xF,xG];exact h
theorem Ad {E:Env} {s:AM} {id k:Nat} {cs:List AV} {K:AV->Prop} (hb:s.bs[id]?=some cs) (hk:cs.length=k) (h:K (.agg cs)):D6 E s (some k) (.ptr id 0) K:=by
 simp only[D6,hb,wO,DV,Ih,xL,xM,xF,xG];refine⟨by omega,?_⟩;rw[CA (by omega)];exact h
theorem Al {s:AM} {a:AV} {n:Nat} {K:AV->Prop} (hl:A7 s a=some n) (h:K (AA n)):BO s a K:=by
 simp only[BO,hl,wO];exact h
theorem AKL {a b:List UInt8} {K:AV->Prop} (hl:a.length+b.length<2 ^ 63) (h:K (SS (a++b))):F9 .add (SS a) (SS b) K:=by
 simp only[F9];exact⟨by simpa using hl,by simpa using h⟩
theorem sln {w:List UInt8} {K:AV->Prop} (h:K (AA w.length)):Gs (SS w) K:=by assumption
theorem six {w:List UInt8} {i:Int} {c:UInt8} {K:AV->Prop} (h0:0<=i) (hc:w[i.toNat]?=some c) (h:K (.pv (.sc (.int .u8 c.toNat)))):Lv (SS w) (AA i) K:=⟨h0,c,hc,h⟩
theorem CL {L:A8} {s:AM} {id k:Nat} {cs old:List AV} {K:AM->Prop} (hb:s.bs[id]?=some old) (hk:cs.length=k) (ho:old.length=k) (h0:0<k) (hro:L.ro<=id) (hok:cs.all A9=true) (hn:L.n0<=id\/IG cs=true) (h:K ⟨s.bs.set id cs,s.ts⟩):CJ L s k (.ptr id 0) (.agg cs) K:=by
 have hce:cellsOf (.agg cs)=cs:=rfl
 have oG:∀(a b:List AV),a.length=b.length->setCells a 0 b=b:=by
  intro a b hab
  have gen:∀(b pre old:List AV),old.length=b.length->setCells (pre++old) pre.length b=pre++b:=by
   intro b
   induction b with
   | nil=>intro pre old h; cases old with
    | nil=>rfl
    | cons _ _=>grind
   | cons x b ih=>
    intro pre old h;cases old with
    | nil=>grind
    | cons y old=>
     have:=ih (pre++[x]) old (by grind)
     simp_all[setCells]
  simpa using gen b [] a hab
 simp only[CJ,hb,wO,hce];refine⟨⟨hk,by omega,hro,hok,hn,by omega⟩,?_⟩;rw[oG old cs (by omega)];exact h
theorem oH {P:Program} {t:TypeId} (ht:P.underlying t=some .string) (c:UInt8) (w:List UInt8):quick P (Instr.sliceAt t (.string ⟨(c::w).toArray⟩) (some (.int .i64 1)) none none)=some (.string ⟨w.toArray⟩):=by
 unfold Instr.sliceAt;refine Cf (I7 ht) ?_;simp only;unfold Instr.slice;refine Cf (I7 ht) ?_;have hs:(1:Int)<=((⟨(c::w).toArray⟩:ByteArray).size:Int):=by grind[ByteArray.size]
 simp only[Instr.sliceBounds,Instr.sliceBound,asIntOf,hs,Option.isSome_none,DH,Ia,pure_bind,Kt,GZ];have e:(⟨(c::w).toArray⟩:ByteArray).extract 1 (⟨(c::w).toArray⟩:ByteArray).size=⟨w.toArray⟩:=by simp[*,ByteArray.ext_iff,ByteArray.size]
 show quick P (pure (Value.string ((⟨(c::w).toArray⟩:ByteArray).extract 1 (⟨(c::w).toArray⟩:ByteArray).size)))=_
 rw[e];rfl
theorem oJ {E:Env} {L:A8} {s:AM} {lk:Lk} {o:Oper} {K:AV->AM->Prop} {t:TypeId} {x:Operand} {c:UInt8} {w:List UInt8} (ho:o.op=.slice t x (some (.const (.int .i64 1))) none none) (ht:E.P.underlying t=some .string) (hx:IU lk x=some (SS (c::w)))
  (h:K (SS w) s):TF E L s lk o K:=by
 refine⟨SS w,s,λρ hA=>?_,h⟩;have ex:=CR hA hx
 have h1:Eh ρ o.op.operands.toList=true:=by
  have e:o.op.operands.toList=[x,.const (.int .i64 1)]:=by rw[ho]; rfl
  rw[e];have e1:Ag ρ (.const (.int .i64 1))=.pv (.sc (.int .i64 1)):=rfl
  grind[Eh,HJ]
 have h2:Cw E ρ o=some (SS w):=by
  have:quick E.P (execOp (λz=>(HJ (Ag ρ z)).getD undef) o)=some (.value (.string ⟨w.toArray⟩)):=by
   unfold execOp;rw[ho];have e1:Ag ρ (.const (.int .i64 1))=.pv (.sc (.int .i64 1)):=rfl;simp only[ex,e1,HJ,Ic,MN,Option.map_none];exact Cf (oH ht c w) rfl
  simp only[Cw,h1,GZ,this];rfl
 grind[PC,Cc]
theorem oK {E:Env} {L:A8} {s:AM} {lk:Lk} {o:Oper} {K:AV->AM->Prop} {t c:TypeId} {x:Operand} (ho:o.op=.binOp .eql t x (.const .nilIface) c) (hx:IU lk x=some (.pv (.sc .nilIface)))
  (hq:quick E.P (do eqGuard .eql t x (.const .nilIface) .nilIface .nilIface; binOp .eql t .nilIface .nilIface)=some (.bool true)) (h:K (BB true) s):TF E L s lk o K:=by
 refine⟨BB true,s,λρ hA=>?_,h⟩;have ex:=CR hA hx;have e1:Ag ρ (.const .nilIface)=.pv (.sc .nilIface):=rfl
 have h1:Eh ρ o.op.operands.toList=true:=by
  have e:o.op.operands.toList=[x,.const .nilIface]:=by rw[ho]; rfl
  grind[Eh,HJ]
 have h2:Cw E ρ o=some (BB true):=by
  have:quick E.P (execOp (λz=>(HJ (Ag ρ z)).getD undef) o)=some (.value (.bool true)):=by
   unfold execOp;rw[ho];simp only[ex,e1,HJ,Ic];exact Cf hq rfl
  simp only[Cw,h1,GZ,this];rfl
 grind[II,D4,sameKind,rowsOf,Ik,Cc]
theorem Vu:∀(f n:Nat) (acc:List UInt8),acc.length<(Kc (f+1) n acc).length/\(Kc (f+1) n acc).length<=acc.length+f+1
 | 0,n,acc=>by grind[Kc]
 | f+1,n,acc=>by
  rw[Kc];cases Nat.blt n 10 with
  | true=>simp
  | false=>
   have:=Vu f (n / 10) (UInt8.ofNat (48+n % 10)::acc)
   grind
theorem TG (n:Nat):0<(G0 n).length/\(G0 n).length<=20:=by grind[Vu,G0]
mutual
def ren:Ty->Ty
 | .mk k n i ts=>bif k==7 then .mk 2 (36::G0 i.toNat) 0 [] else .mk k n i (B4 ts)
def B4:List Ty->List Ty
 | []=>[]
 | t::l=>ren t::B4 l
end
theorem Bk:∀l:List Ty,B4 l=l.map ren
 | []=>rfl
 | t::l=>by rw[B4,Bk l]; rfl
mutual
def HM (N:Nat):Ty->Bool
 | .mk k n i ts=>bif k==7 then ts.isEmpty&&(decide (0<=i)&&decide (i<N)) else !(n.head?==some 36)&&(decide (n.length<2 ^ 40)&&IY N ts)
def IY (N:Nat):List Ty->Bool
 | []=>true
 | t::l=>HM N t&&IY N l
end
structure Rj (R:RT):Prop where
 ito:∀n:Nat,n<2 ^ 40->AL (env R) 123 [AA n] λv=>v=SS (G0 n)
 ato:∀n:Nat,n<2 ^ 40->AL (env R) 124 [SS (G0 n)] λv=>v=.tuple [AA n,.pv (.sc .nilIface)]
section
variable {R:RT}
theorem ACm {c:UInt8} {w:List UInt8} (h:((c::w).head?==some 36)=false):(((c.toNat:Int)) != 36)=true:=by
 simp only[List.head?_cons] at h;have:c≠36:=by grind
 simp only[bne_iff_ne,ne_eq];intro h1;apply this;have h2:c.toNat=36:=by omega
 exact UInt8.toNat_inj.1 h2
theorem KC (hn:Rj R) {N:Nat} (hN:N<=2 ^ 40) {k i:Int} {n:List UInt8} {ts:List Ty} (ht:HM N (.mk k n i ts)=true) {x:AV} (hx:A5 (ren (.mk k n i ts)) x) :
  AL (env R) 92 [x] λr=>r=bif k==7 then .tuple [AA i,BB true] else .tuple [AA 0,BB false]:=by
 rw[ren] at hx;rw[HM] at ht
 have go:∀(k' i':Int) (n':List UInt8) (a:AV) (rows:List (List PV)),Aq a rows->(∀Post:AV->Prop,Post (bif k==7 then .tuple [AA i,BB true] else .tuple [AA 0,BB false])->uz R 0 0 0 (.agg [AA k',SS n',AA i',a]) ⟨[],[]⟩ (QP Post)) ->
   AL (env R) 92 [.agg [AA k',SS n',AA i',a]] λr=>r=bif k==7 then .tuple [AA i,BB true] else .tuple [AA 0,BB false]:=by
  intro k' i' n' a rows ha h;exact e92 (u0:=.agg [AA k',SS n',AA i',a]) (by simp[ha.close]) (h _ rfl)
 cases b7:(k==7) with
 | true=>
  rw[b7] at hx ht;simp only[AN,AE,DU] at hx ht;obtain⟨a,rfl,ha⟩:=hx;have hd:=TG i.toNat;have go':=go 2 0 (36::G0 i.toNat) a _ ha;rw[b7] at go';refine go' λPost hP=>AEr (Bw rfl (by simp[ha.ok]) (AK rfl (AU rfl rfl (FE ?_))))
  refine Ao (AK rfl (Ao (AU rfl rfl (Ao (sln (Ao (Ah (pk ?_))))))));have h2:¬ (((36::G0 i.toNat).length:Nat):Int)<2:=by grind
  rw[Aw h2];refine Ao (AK rfl (Ao (AU rfl rfl (Ao (six (c:=36) (by omega) rfl (Ao (FE (pk (Am ?_)))))))));refine APZ (AK rfl (AU rfl rfl ?_));refine oJ (t:=9) (x:=.tmp 23) (by rfl) (by kernel_rfl) rfl ?_;refine AD (hn.ato i.toNat (by omega)) ?_;rintro v rfl;refine CE rfl (CE rfl (oK (t:=136) (c:=136) (x:=.tmp 29) (by rfl) rfl (by kernel_rfl) ?_));have e:((i.toNat:Nat):Int)=i:=by omega
  rw[e];exact⟨_,by rfl,hP⟩
 | false=>
  rw[b7] at hx ht;simp only[AG,AE,DU] at hx ht;obtain⟨a,rfl,ha⟩:=hx;have go':=go k i n a _ ha;rw[b7] at go';refine go' λPost hP=>AEr (Bw rfl (by simp[ha.ok]) (AK rfl (AU rfl rfl (FE ?_))))
  have fin:∀(s:AM),QP Post (.tuple [AA 0,BB false]) s:=λs=>⟨_,by rfl,hP⟩
  by_cases h2:k=2
  .subst h2
   refine Ao (AK rfl (Ao (AU rfl rfl (Ao (sln (Ao (Ah (pk ?_))))))))
   by_cases hl:(n.length:Int)<2
   .simp[*]
   .rw[Aw hl]
    obtain⟨c,w,rfl⟩:=MP (l:=n) (by grind);have hne:=ACm (c:=c) (w:=w) (by grind)
    simp_all[six]
  .have hb:(k != 2)=true:=by grind
   simp[*]
abbrev phA (v:Nat):AV:=.agg [AA 2,SS (36::G0 v),AA 0,.AB []]
theorem Pu (hn:Rj R) (v:Nat) (hv:v<2 ^ 40):AL (env R) 90 [AA v] λr=>r=phA v:=by
 have hd:=TG v;refine e90 (u0:=AA v) (by simp) (APa ?_);refine AD (hn.ito v hv) ?_;rintro _ rfl;refine AKL (by grind) (IC rfl ?_);refine CL (old:=[AA 0,SS [],AA 0,.AB []]) rfl rfl rfl (by decide) (AI _) rfl (.inl (AI _)) ?_;refine Ad rfl rfl ?_;exact⟨phA v,by rfl,rfl⟩
theorem BM.app {s:AM} (h:BM s) {b:List AV} (hb:Ab (s.bs.length+1) b=true):BM ⟨s.bs++[b],s.ts⟩:=by
 intro c hc;simp only[Bo,CO,B8];rcases CG.1 hc with hc|hc
 .exact Bn (by omega) c (h c hc)
 grind
theorem Iy {rr:Bool} {s:AM} (hs:BM s) {m:List (List AV)} {p:PV} {Post:AV->AM->Prop} (h:Post (.pv p) s):QM rr s.bs.length Post (.pv p) ⟨s.bs++m,s.ts⟩:=by
 have e:(s.bs++m).take s.bs.length=s.bs:=by simp
 refine AEs ?_ ?_
 .simp only[e]
  rw[Cz];exact hs
 simp[*]
theorem ACn {α:Type} {row:α->List PV} (hrow:∀a,(row a).length=4) {f:FuncId} {cs:List AV} {g:α->Bool} {ts:List α} {y:AV} (hy:Aq y (ts.map row)) (hl:ts.length<2 ^ 60) {s:AM} (hf:∀t∈ts,∀L,BD (env R) L f (.agg ((row t).map .pv)::cs) s (BB (g t)) s) {n0 ro rt:Nat} {QR:QT} :
  ∀(j q:Nat),q+j=ts.length->(∀i:Int,decide (0<=i)=(ts.drop q).any g->QR (AA i) s)->Pc R n0 ro rt y (.func (.func f) [] cs) (AA ts.length) (AA q) s QR:=by
 intro j
 induction j with
 | zero=>
  intro q hi hP;refine Pd (Ah ?_);have h1:¬ ((q:Int)<ts.length):=by omega
  rw[Aw h1];refine Am (e9 ?_);have h2:ts.drop q=[]:=Bu (by omega);rw[h2] at hP;exact hP (-1) (by simp)
 | succ j D2=>
  intro q hi hP;refine Pd (Ah ?_);have h1:((q:Int)<ts.length):=by omega
  rw[Ap h1];refine A4 (fB ?_);obtain⟨t,ht⟩:∃t,ts[q]?=some t:=⟨_,Ak (by omega)⟩;have hd:=drop_cons ht;rw[hd] at hP;refine BI hy (row:=row t) (by omega) (by simp[ht]) (hrow t) (by omega) ?_;have hc:=hf t (A2 ht)
  have e4:∀K:AV->Prop,K (.agg ((row t).map .pv))->D6 (env R) s (some 4) (.Cq (row t) 0) K:=by
   intro K hK;simp only[D6,DV,Ih,xL,xM,xF,xG];refine⟨by rw[Bx,hrow]; omega,?_⟩;rw[CA (by rw[Bx,hrow]; omega)];exact hK
  refine e4 _ ?_;refine⟨BB (g t),s,hc _,?_⟩;cases hg:g t with
  | true=>simp[*]
  | false=>
   refine Am (fC (BW (by omega) (by omega) ?_));simp only[N2,hg,Gb] at hP;have:=D2 (q+1) (by omega) hP;simpa using this
theorem YG {α:Type} {row:α->List PV} (hrow:∀a,(row a).length=4) {f:FuncId} {cs:List AV} {g:α->Bool} {ts:List α} {y:AV} (hy:Aq y (ts.map row)) (hl:ts.length<2 ^ 60) {s:AM} (hs:BM s) (hcs:Bi cs=false) (hf:∀t∈ts,∀L,BD (env R) L f (.agg ((row t).map .pv)::cs) s (BB (g t)) s) (L:A8) :
  BD (env R) L 94 [y,.func (.func f) [] cs] s (BB (ts.any g)) s:=by
 have hi:∀L,∃i:Int,decide (0<=i)=ts.any g/\BD (env R) L 125 [y,.func (.func f) [] cs] s (AA i) s:=by
  intro L
  obtain⟨v,s',⟨i,rfl,rfl,h⟩,hc⟩:=APb (R:=R) (L:=L) (s:=s) (t0:=y) (t1:=.func (.func f) [] cs) (Post:=λv s'=>∃i:Int,v=AA i/\s'=s/\decide (0<=i)=ts.any g) (by grind[Bi,F1]) (fD (Al (n:=ts.length) (by rw[hy.A7,Bx]) (ACn hrow hy hl hf ts.length 0 (by omega) λi h=>by
   have:=Iy (rr:=L.rr 125) hs (m:=[]) (p:=.sc (.int .i64 i)) (Post:=λv s'=>∃i:Int,v=AA i/\s'=s/\decide (0<=i)=ts.any g) ⟨i,rfl,rfl,by grind⟩
   simp_all)))
  grind
 obtain⟨v,s',⟨rfl,rfl⟩,hc⟩:=m94 (R:=R) (L:=L) (s:=s) (t0:=y) (t1:=.func (.func f) [] cs) (Post:=λv s'=>v=BB (ts.any g)/\s'=s) (by grind[Bi,F1]) (uK (by
  obtain⟨i,h,hc⟩:=hi (Cv (env R) 94 0 L.ro L.rt);refine⟨AA i,s,hc,NU ?_⟩;have:=Iy (rr:=L.rr 94) hs (m:=[]) (p:=.sc (.bool (ts.any g))) (Post:=λv s'=>v=BB (ts.any g)/\s'=s) ⟨rfl,rfl⟩
  simp_all))
 omega
theorem DK (t:Ty):((Af t).map AV.pv).all A9=true:=by cases t; rfl
mutual
theorem Qp (hn:Rj R) {N:Nat} (hN:N<=2 ^ 40) (v:Nat):∀(t:Ty) (inv:Bool),size t<2 ^ 60->HM N t=true->∀(x:AV),A5 (ren t) x->AL (env R) 62 [x,AA v,BB inv] λr=>r=BB (DW v inv t)
 | .mk k n i ts,inv,h,ht,x,hx=>by
  have hv:=KC hn hN ht hx;have ht':=ht;rw[HM] at ht;rw[ren] at hx;rw[DW];simp only[size] at h;cases b7:(k==7) with
  | true=>
   rw[b7] at hx hv ht;simp only[AN,AE,DU] at hx hv ht;obtain⟨a,rfl,ha⟩:=hx;refine e62 (u0:=.agg [AA 2,SS (36::G0 i.toNat),AA 0,a]) (u1:=AA v) (u2:=BB inv) (by simp[ha.close]) (AEt ?_);refine Bw rfl (by simp[ha.ok]) (Bw rfl rfl (Bw rfl rfl (Ad rfl rfl (AD hv ?_))));rintro _ rfl;refine CE rfl (CE rfl (A4 (AU rfl rfl (Au ?_))));simp only[AN];cases he:(i==(v:Int)) with
   | true=>exact Ao (AU rfl rfl (Ao (nt (pk ⟨_,Fw,by cases inv <;> rfl⟩))))
   | false=>exact Bm (Bm (pk ⟨_,Fw,by cases inv <;> rfl⟩))
  | false=>
   rw[b7] at hx hv ht;simp only[AG,AE,DU] at hx hv ht;obtain⟨a,rfl,ha⟩:=hx;have ih:=Oq hn hN v ts (inv&&!(k==2)) (by omega) ht.2.2;refine e62 (u0:=.agg [AA k,SS n,AA i,a]) (u1:=AA v) (u2:=BB inv) (by simp[ha.close]) (AEt ?_);refine Bw rfl (by simp[ha.ok]) (Bw rfl rfl (Bw rfl rfl (Ad rfl rfl (AD hv ?_))));rintro _ rfl;refine CE rfl (CE rfl (Am (APc (AK rfl (AU rfl rfl ?_)))))
   have hs:BM ⟨[[AA k,SS n,AA i,a],[AA v],[BB inv]],[]⟩:=by
    intro b hb;simp only[A1,Ed,Ee] at hb;rcases hb with rfl|rfl|rfl <;> simp[Ab,Ar,ha.Ar]
   have hsz:=BP ts
   have Ir:Aq a (ts.map λt=>Af (ren t)):=by
    rw[H7,Bk,Wz] at ha;exact ha
   refine⟨_,_,YG (λt=>Ac (ren t)) (g:=λt=>DW v (inv&&!(k==2)) t) (f:=103) (cs:=[.ptr 1 0,.ptr 2 0,.ptr 0 0]) Ir (by omega) hs (by rfl) ?_ _,?_⟩
   .intro t hm L
    have hc:=ih t hm
    obtain⟨w,s',⟨rfl,rfl⟩,hcc⟩:=AWi (R:=R) (L:=L) (s:=⟨[[AA k,SS n,AA i,a],[AA v],[BB inv]],[]⟩) (t0:=.agg ((Af (ren t)).map .pv)) (t1:=.ptr 1 0) (t2:=.ptr 2 0) (t3:=.ptr 0 0) (Post:=λw s'=>w=BB (DW v (inv&&!(k==2)) t)/\s'=⟨[[AA k,SS n,AA i,a],[AA v],[BB inv]],[]⟩) (by simp[Bi,F1]) (AKM (by
     generalize hr:(Af (ren t)).map AV.pv=r at hc;have hrl:r.length=4:=by grind[Ac]
     have hro:r.all A9=true:=by grind[DK]
     refine Bw rfl hro (Ad rfl hrl (AU rfl rfl (AU rfl rfl ?_)))
     have fin:∀(b:Bool) (s1:AM),s1=⟨[[AA k,SS n,AA i,a],[AA v],[BB inv],r],[]⟩->b=(inv&&!(k==2))->E3 (env R) (Cv (env R) 103 0 L.ro L.rt) (.func (.func 62) [] []) [.agg r,AA v,BB b] s1 (λa14 oL=>QM (L.rr 103) 3 (λw s'=>w=BB (DW v (inv&&!(k==2)) t)/\s'=⟨[[AA k,SS n,AA i,a],[AA v],[BB inv]],[]⟩) a14 oL):=by
      rintro b s1 rfl rfl;refine AD hc ?_;rintro _ rfl;exact Iy (s:=⟨[[AA k,SS n,AA i,a],[AA v],[BB inv]],[]⟩) hs (m:=[r]) (p:=.sc (.bool _)) ⟨rfl,rfl⟩
     cases inv with
     | true=>simp_all[bne]
     | false=>simp_all))
    omega
   .refine⟨_,Fw,?_⟩
    have:∀l:List Ty,l.any (λt=>DW v (inv&&!(k==2)) t)=Fl v (inv&&!(k==2)) l:=by
     intro l
     induction l with
     | nil=>rfl
     | cons e l ih=>grind[Fl]
    grind
theorem Oq (hn:Rj R) {N:Nat} (hN:N<=2 ^ 40) (v:Nat):∀(l:List Ty) (inv:Bool),AZ l<2 ^ 60->IY N l=true->∀t∈l,AL (env R) 62 [.agg ((Af (ren t)).map .pv),AA v,BB inv] λr=>r=BB (DW v inv t)
 | [],_,_,_,_,h=>by cases h
 | e::l,inv,h,ht,t,hm=>by
  simp only[AZ] at h;simp only[IY,AE] at ht;rcases A1.1 hm with h' | h'
  .rw[h']
   exact Qp hn hN v e inv (by omega) ht.1 _ (A5.BZ _)
  .exact Oq hn hN v l inv (by omega) ht.2 t h'
end
end
def BJ (v:Ty) (x:AV):Prop:=match v with
 | .mk k n i ts=>∃a,x=.agg [AA k,SS n,AA i,a]/\BF a (AW ts)
theorem A5.G1 {v:Ty} {x:AV} (h:A5 v x):BJ v x:=by
 obtain⟨k,n,i,ts⟩:=v;obtain⟨a,rfl,ha⟩:=h;exact⟨a,rfl,.inl ha⟩
theorem BJ.closed {v:Ty} {x:AV} (h:BJ v x) (bs:List (List AV)) (n:Nat):∃x',close bs n 0 x=some x'/\A5 v x':=by
 obtain⟨k,c,i,ts⟩:=v;obtain⟨a,rfl,ha⟩:=h;obtain⟨a',h1,h2⟩:=ha.closed bs n;exact⟨.agg [AA k,SS c,AA i,a'],by simp[h1],⟨a',rfl,h2⟩⟩
abbrev Z4:List AV:=[AA 0,SS [],AA 0,.AB []]
theorem FF (l m:List Ty):AW (l++m)=AW l++AW m:=by simp[H7]
theorem Gt {l:List Ty} {r:List PV} (h:r∈AW l):r.length=4:=by grind[H7,Ac]
theorem FO {t:Ty} {x:AV} (h:BJ t x) {s:AM} {K:AV->AM->Prop} (hK:K (.AB [Af t]) s):CV false s 4 [(AA 0),(SS []),(AA 0),(.AB [])] 1 [(0,4,x)] K:=by
 obtain⟨k,n,i,ts⟩:=t;obtain⟨a,rfl,ha⟩:=h;simp only[Af] at hK;simp[CV,FY,CB,ha.ok,ha.Jg];omega
theorem YH {L:A8} {s:AM} {a:AV} {es:List Ty} {t:Ty} {K:AV->AM->Prop} (ha:Dg 0 s.ts 25 a (AW es)) (EU:L.rt=0) (hl:es.length<2 ^ 38) (h:∀a' ts',Dg 0 ts' 25 a' (AW (es++[t]))->K a' ⟨s.bs,ts'⟩) :
  Ct false L s 25 4 56 a (.AB [Af t]) K:=by
 have hl':(AW es).length=es.length:=AR es;have:=L5 (L:=L) (bs:=s.bs) (ts:=[]) (x:=s.ts) (e:=25) (k:=4) (bytes:=56) (a:=a) (rows:=AW es) (row:=Af t) (K:=K) (by grind) (by omega) (λr hr=>Gt hr) (Ac t) (by omega) (DK t) (by omega) (by omega) (by grind[FF,AW])
 simp_all
theorem DD {L:A8} {s:AM} {id off:Nat} {v:AV} {cs:List AV} {K:AM->Prop} (hb:s.bs[id]?=some cs) (ho:off<cs.length) (hc:cellsOf v=[v]) (hro:L.ro<=id) (hok:A9 v=true) (hn:L.n0<=id\/JA v=true) (h:K ⟨s.bs.set id (cs.set off v),s.ts⟩):CJ L s 1 (.ptr id off) v K:=by
 simp only[CJ,hb,wO,hc];refine⟨⟨rfl,by simp; omega,hro,by simp[hok],hn.imp (λh=>h) λh=>by simp[IG,h],by omega⟩,?_⟩;simpa[setCells] using h
theorem HF {lo:Nat} {ts:List (Nat×Nat)} {k:Nat} {a:AV} {es:List Ty} (h:Dg lo ts k a (AW es)):Tel.Bg a a=true:=by
 rcases h with rfl|⟨t,rfl,_⟩
 all_goals simp[*,Tel.Bg,DJ]
theorem EO (a b:Nat):Tel.Bg (.ptr a b) (.ptr a b)=true:=by simp[Tel.Bg]
theorem Av {bs:List (List AV)} {j:Nat} {c:List AV} (h:bs[j]?=some c) (b:List AV):(bs++[b])[j]?=some c:=by grind
theorem Ay (bs:List (List AV)) (b:List AV):(bs++[b])[bs.length]?=some b:=by simp
theorem BR {bs:List (List AV)} {j k:Nat} {c b:List AV} (h:bs[j]?=some c) (hn:k≠j):(bs.set k b)[j]?=some c:=by grind
theorem Bf {bs:List (List AV)} {j:Nat} {c b:List AV} (h:bs[j]?=some c):(bs.set j b)[j]?=some b:=by grind
section
variable {R:RT}
theorem Cg {s:AM} {t:Ty} {K:AV->Prop} (hK:K (.agg ((Af t).map .pv))):D6 (env R) s (some 4) (.Cq (Af t) 0) K:=by
 simp only[D6,DV,Ih,xL,xM,xF,xG];refine⟨by rw[Bx,Ac]; omega,?_⟩;rw[CA (by rw[Bx,Ac]; omega)];exact hK
theorem fW {ts:List Ty} {a:AV} (ha:Aq a (AW ts)) (hl:AZ ts<2 ^ 38) {k i:Int} {n:List UInt8} (ih:∀t∈ts,AL (env R) 146 [.agg ((Af t).map .pv)] λr=>A5 t r) {Post:AV->Prop} (hP:∀r,A5 (.mk k n i ts) r->Post r) :
  ∀(j q:Nat) (s:AM) (b:AV),q+j=ts.length->s.bs[1]?=some Z4->s.bs[2]?=some [AA k,SS n,AA i,b]->Dg 0 s.ts 25 b (AW (ts.take q))->YI R 0 0 0 (.ptr 1 0) (.ptr 2 0) a (AA ts.length) (AA q) s (QP Post):=by
 have UT:=BP ts;intro j
 induction j with
 | zero=>
  intro q s b hi h1 h2 hb;refine u6 (Ah ?_);rw[Aw (by omega)];refine Am (AKN (Ad h2 rfl (CL h1 rfl rfl (by decide) (AI _) (by simp[hb.Ax.ok]) (.inl (AI _)) (Ad (Bf h1) rfl ?_))));rw[CA (by omega)] at hb;obtain⟨r,h3,h4⟩:=BJ.closed (v:=.mk k n i ts) ⟨b,rfl,hb.Ax⟩ (s.bs.set 1 [AA k,SS n,AA i,b]) 0;exact⟨r,h3,hP r h4⟩
 | succ j D2=>
  intro q s b hi h1 h2 hb;refine u6 (Ah ?_);rw[Ap (by omega)];obtain⟨t,ht⟩:∃t,ts[q]?=some t:=⟨_,Ak (by omega)⟩;refine A4 (AKO (BI ha (row:=Af t) (by omega) (by grind[BE]) (Ac t) (by omega) (Cg ?_)));have hm:=ih t (A2 ht);have hro:((Af t).map AV.pv).all A9=true:=DK t;have hrl:((Af t).map AV.pv).length=4:=by grind[Ac]
  generalize (Af t).map AV.pv=row at hm hro hrl;obtain⟨bs,tk⟩:=s;simp only[CI] at *;have l1:=(BL.1 h1).1;have l2:=(BL.1 h2).1;refine CL (Ay bs Z4) hrl rfl (by decide) (AI _) hro (.inl (AI _)) ?_;have e:(bs++[Z4]).set bs.length row=bs++[row]:=by simp
  rw[e];have g1:=Av h1 row;have g2:=Av h2 row;refine AK (AP g2) (AU g2 rfl (Ad (Ay bs row) hrl (AD hm ?_)));intro v hv;refine FO hv.G1 ⟨by decide,YH hb rfl (by grind) ?_⟩;intro b' HN hb';have hqt:ts.take q++[t]=ts.take (q+1):=by grind[List.take_add_one]
  rw[hqt] at hb';refine AK (AP g2) (DD g2 (by simp) hb'.Ax.cells (AI _) hb'.Ax.ok (.inl (AI _)) ?_);refine⟨AK (AP g2) (EO _ _),AU g2 rfl (HF hb),AKP (BW (by omega) (by omega) ?_)⟩;have:=D2 (q+1) ⟨(bs++[row]).set 2 [AA k,SS n,AA i,b'],HN⟩ b' (by omega) (BR g1 (by decide)) (Bf g2) hb'
  grind
mutual
theorem TH:∀(t:Ty),size t<2 ^ 38->∀(x:AV),A5 t x->AL (env R) 146 [x] λr=>A5 t r
 | .mk k n i ts,h,x,hx=>by
  obtain⟨a,rfl,ha⟩:=hx;simp only[size] at h;have ih:=Qq ts (by omega);refine AWj (u0:=.agg [AA k,SS n,AA i,a]) (by simp[ha.close]) (AKQ ?_);refine Bw rfl (by simp[ha.ok]) (Bt (Ad rfl rfl (Bt (CL (old:=Z4) rfl rfl rfl (by decide) (AI _) (by simp[ha.ok]) (.inl (AI _)) ?_))));refine AK rfl (DD (off:=3) rfl (Aa 4) rfl (AI _) rfl (.inl (AI _)) (AK rfl (AU rfl rfl (Al (n:=ts.length) (by rw[ha.A7,AR]) ?_))));exact fW ha (by omega) ih (λr hr=>hr) ts.length 0 _ (.AB []) (by omega) rfl rfl (.inl rfl)
theorem Qq:∀(l:List Ty),AZ l<2 ^ 38->∀t∈l,AL (env R) 146 [.agg ((Af t).map .pv)] λr=>A5 t r
 | [],_,_,h=>by cases h
 | e::l,h,t,hm=>by
  simp only[AZ] at h;rcases A1.1 hm with h' | h'
  .rw[h']
   exact TH e (by omega) _ (A5.BZ e)
  .exact Qq l (by omega) t h'
end
end
theorem ACo {L:A8} {s:AM} {a:AV} {es:List Ty} {t:Ty} {K:AV->AM->Prop} (ha:Dg L.rt s.ts 25 a (AW es)) (hle:L.rt<=s.ts.length) (hl:es.length<2 ^ 38) (h:∀a' ts',Dg L.rt ts' 25 a' (AW (es++[t]))->L.rt<=ts'.length->K a' ⟨s.bs,ts'⟩) :
  Ct false L s 25 4 56 a (.AB [Af t]) K:=by
 have hl':(AW es).length=es.length:=AR es;have htl:(s.ts.take L.rt).length=L.rt:=by grind
 have e:s.ts.take L.rt++s.ts.drop L.rt=s.ts:=List.take_append_drop _ _;have:=L5 (L:=L) (bs:=s.bs) (ts:=s.ts.take L.rt) (x:=s.ts.drop L.rt) (e:=25) (k:=4) (bytes:=56) (a:=a) (rows:=AW es) (row:=Af t) (K:=K) (by grind) (by omega) (λr hr=>Gt hr) (Ac t) (by omega) (DK t) (by omega) (by omega) (by grind[FF,AW])
 simp_all
theorem NV {m:Nat} {ts:List (Nat×Nat)} {k:Nat} {a:AV} {rows:List (List PV)} (h:Dg m ts k a rows) (bs:List (List AV)) (n:Nat):∃a',close bs n m a=some a'/\Aq a' rows:=by
 rcases h with rfl|⟨t,rfl,_,h2⟩
 .simp[*,Aq.AB]
 .have:¬ t<m:=by omega
  exact⟨.pv (.list rows),by grind[close],.list _⟩
theorem L6 (t:Ty):Tel.Bg (.agg ((Af t).map .pv)) (.agg ((Af t).map .pv))=true:=by
 cases t
 grind[Af,Tel.Bg,Hx,Mm,FX,Ht,DJ]
theorem BM.set {s:AM} (h:BM s) {j:Nat} {c:List AV} (hc:Ab s.bs.length c=true) (ts:List (Nat×Nat)):BM ⟨s.bs.set j c,ts⟩:=by
 intro b hb;simp only[RP];rcases jL hb with hb|rfl
 .exact h b hb
 omega
mutual
def aW:Ty->Bool
 | .mk k _ i ts=>(!(k==5)||(ts.isEmpty&&decide (-(2 ^ 60)<=i)&&decide (i<2 ^ 60)))&&aX ts
def aX:List Ty->Bool
 | []=>true
 | t::l=>aW t&&aX l
end
abbrev APe (p:Nat):AV:=.func (.func 122) [] [.ptr p 0]
section
variable {R:RT}
theorem AKR (i u:Int) (hu:0<=u) (hi:i<2 ^ 60) (p:Nat) {s:AM} (hs:BM s) (hp:p<s.bs.length) (L:A8) :
  BD (env R) L 122 [AA i,AA u,.ptr p 0] s (.tuple [bif i==u then .ptr p 0 else .pv (.sc (.pointer none)),AA (bif i==u then 0 else bif decide (u<i) then i-1 else i)]) s:=by
 have fin:∀(rr:Bool) (x:AV) (n:Int),(x=.ptr p 0\/x=.pv (.sc (.pointer none)))->QM rr s.bs.length (λv s'=>v=.tuple [x,AA n]/\s'=s) (.tuple [x,AA n]) s:=by
  intro rr x n hx;have e:s.bs.take s.bs.length=s.bs:=Nw;refine JW (ds:=[x,AA n]) ?_ ?_ ?_
  .rw[e,Cz]
   exact hs
  .grind[AY,close]
  simp
 obtain⟨v,s',⟨rfl,rfl⟩,hc⟩:=AWk (R:=R) (L:=L) (s:=s) (t0:=AA i) (t1:=AA u) (t2:=.ptr p 0) (Post:=λv s'=>v=.tuple [bif i==u then .ptr p 0 else .pv (.sc (.pointer none)),AA (bif i==u then 0 else bif decide (u<i) then i-1 else i)]/\s'=s) (by rfl) (AKS (Au (by
  cases he:(i==u) with
  | true=>simp[*]
  | false=>
   refine Am (Fp ?_)
   by_cases hlt:u<i
   .have:i>u:=hlt
    rw[Ap this];exact A4 (JV (by omega) (by omega) (fin _ _ _ (.inr rfl)))
   .have:¬ i>u:=hlt
    rw[Aw this];exact Am (AKT (fin _ _ _ (.inr rfl))))))
 omega
theorem HG (k:Int) (n:List UInt8) (i:Int) (ts:List Ty) (h:k≠7):ren (.mk k n i ts)=.mk k n i (B4 ts):=by grind[ren]
theorem u7 {p:Nat} {cp:List AV} {fn:AV} {ts ls:List Ty} {a:AV} (ha:Aq a (AW ts)) (hl:ts.length<2 ^ 38) (Rk:ls.length=ts.length) {k i:Int} {n:List UInt8} {u:Nat} (hu:u<2 ^ 60)
  {s0:AM} (hs0:BM s0) (hp:s0.bs[p]?=some cp)
  (ih:∀(q:Nat) (t l:Ty),ts[q]?=some t->ls[q]?=some l->∀s,BM s->s.bs[p]?=some cp->∃r,A5 l r/\∀L,BD (env R) L 121 [.agg ((Af t).map .pv),AA (u+Ea k q:Nat),fn] s r s)
  {i':Int} {Post:AV->Prop} (hP:∀r,A5 (.mk k n i' ls) r->Post r) :
  ∀(j q:Nat) (s:AM) (b:AV),q+j=ts.length->BM s->s.bs[p]?=some cp->s.bs[s0.bs.length]?=some [AA k,SS n,AA i,a]->s.bs[s0.bs.length+1]?=some Z4->s.bs[s0.bs.length+2]?=some [AA k,SS n,AA i',b] ->
   Dg s0.ts.length s.ts 25 b (AW (ls.take q))->s0.ts.length<=s.ts.length ->
   YJ R s0.bs.length s0.bs.length s0.ts.length (AA u) fn (.ptr s0.bs.length 0) (.ptr (s0.bs.length+1) 0) (.ptr (s0.bs.length+2) 0) a (AA ts.length) (AA q) s (QI s0.bs.length s0.ts.length Post):=by
 intro j
 induction j with
 | zero=>
  intro q s b hi hs h0 h1 h2 h3 hb hle;refine u9 (Ah ?_);rw[Aw (by omega)];refine Am (AKU (Ad h3 rfl (CL h2 rfl rfl (by decide) (by simp) (by simp[hb.Ax.ok]) (.inl (by simp)) (Ad (Bf h2) rfl ?_))));rw[CA (by omega)] at hb;obtain⟨b',c1,c2⟩:=NV hb (s.bs.set (s0.bs.length+1) [AA k,SS n,AA i',b]) s0.bs.length;exact⟨.agg [AA k,SS n,AA i',b'],by simp[c1],hP _ ⟨b',rfl,c2⟩⟩
 | succ j D2=>
  intro q s b hi hs h0 h1 h2 h3 hb hle;refine u9 (Ah ?_);rw[Ap (by omega)];obtain⟨t,ht⟩:∃t,ts[q]?=some t:=⟨_,Ak (by omega)⟩;obtain⟨l,hlq⟩:∃l,ls[q]?=some l:=⟨_,Ak (by omega)⟩;have hrl:((Af t).map AV.pv).length=4:=by grind[Ac]
  have hro:=DK t
  have La:Ab (s.bs.length+1) ((Af t).map AV.pv)=true:=by
   obtain⟨k1,n1,i1,t1⟩:=t;rfl
  refine A4 (AKV (BI ha (row:=Af t) (by omega) (by simp[*,BE]) (Ac _) (by omega) (Cg (Bt ?_))));have oM:=ih q t l ht hlq;have LO:=L6 t;generalize (Af t).map AV.pv=row at hrl hro La oM LO;obtain⟨bs,tk⟩:=s;have l3:=(BL.1 h3).1;simp only at *;refine CL (Ay bs Z4) hrl rfl (by decide) (by simp[Cv]; omega) hro (.inl (by simp[Cv]; omega)) ?_;have e:(bs++[Z4]).set bs.length row=bs++[row]:=by simp
  rw[e];have g0:=Av h0 row;have g1:=Av h1 row;have g2:=Av h2 row;have g3:=Av h3 row;have hs':BM ⟨bs++[row],tk⟩:=BM.app (s:=⟨bs,tk⟩) hs La;have hbn:=PZ k q;have aY:AL (env R) 119 [.agg [AA k,SS n,AA i,a],AA q] λr=>r=AA (Ea k q):=K5 ha q
  obtain⟨r,Xo,Ns⟩:=oM ⟨bs++[row],tk⟩ hs' g0;refine AK (AP g3) (AU g3 rfl (Ad (Ay bs row) hrl (Ad g1 rfl (AD aY ?_))));rintro _ rfl;refine BW (by omega) (by omega) ?_;have e1:((u:Int)+(Ea k q:Nat))=((u+Ea k q:Nat):Int):=by omega
  rw[e1];refine⟨r,_,Ns _,FO Xo.G1 ⟨by decide,ACo hb hle (by grind) ?_⟩⟩;intro b' HN hb' hle';have er:ls.take q++[l]=ls.take (q+1):=by grind[List.take_add_one]
  rw[er] at hb';refine AK (AP g3) (DD g3 (by simp) hb'.Ax.cells (by simp) hb'.Ax.ok (.inl (by simp)) ?_);refine⟨AK (AP g3) (EO _ _),AK (AP g3) (EO _ _),AU g3 rfl (HF hb),AU g3 rfl (HF hb),Ad (Ay bs row) hrl LO,AKW (BW (by omega) (by omega) ?_)⟩;have lp:=(BL.1 hp).1;have:=D2 (q+1) ⟨(bs++[row]).set (s0.bs.length+2) [AA k,SS n,AA i',b'],HN⟩ b' (by omega) ?_ ?_ (BR g1 (by omega)) (BR g2 (by omega)) (Bf g3) hb' hle'
  .grind
  .exact BM.set (s:=⟨bs++[row],tk⟩) hs' (by simp[Ab,Ar,hb'.Ax.Ar]) _
  grind[BR]
end
theorem TI {k i:Int} {n:List UInt8} {ts:List Ty} (h:valid (.mk k n i ts)=true):(n.head?==some 36)=false/\n.length<2 ^ 40:=by
 simp only[valid,AE] at h;have nil:n=[]->(n.head?==some 36)=false/\n.length<2 ^ 40:=by grind
 rcases M4 h.1 with ⟨_,h2,_⟩|⟨_,h2,_⟩|rfl|⟨_,h2,_⟩|⟨_,h2,_⟩|⟨_,h2,_⟩|⟨_,h2,_⟩
 .grind
 .grind
 .have h1:=h.1
  simp[root,shape] at h1;obtain⟨_,⟨⟨h3,_⟩,_⟩,_⟩:=h1;unfold Mo at h3;simp only[AE,DU] at h3;refine⟨?_,by omega⟩;rcases n with _|⟨c,w⟩
  .rfl
  .have h4:=h3.1.2
   simp only at h4;rw[Ny];intro h5;have h5:c=36:=by grind
   rw[h5] at h4;exact absurd h4 (by decide)
 all_goals grind
theorem Pv {n:List UInt8} {i:Int} {ts:List Ty} (h:valid (.mk 5 n i ts)=true):i<=200:=by grind[valid,root,shape]
theorem Dq (σ:List Nat) (u:Nat) {k i:Int} {n:List UInt8} {ts:List Ty} (hv:valid (.mk k n i ts)=true):(k=5/\n=[]/\ts=[]/\0<=i/\i<=200/\((∃v∈σ,inst σ u (.mk k n i ts)=ph v)\/inst σ u (.mk k n i ts)=.mk 5 [] i []))\/((k==5)=false/\inst σ u (.mk k n i ts)=.mk k n i (Da σ u k 0 ts)):=by
 by_cases h5:k=5
 .subst h5
  obtain⟨rfl,rfl,h0⟩:=I5 hv;refine .inl ⟨rfl,rfl,rfl,h0,Pv hv,?_⟩
  grind[inst]
 grind[inst]
mutual
theorem ID {q:Int->Bool} {σ:List Nat} (hσ:∀x∈σ,q x=true):∀(t:Ty) (u:Nat),valid t=true->Eu q (inst σ u t)=true
 | .mk k n i ts,u,hv=>by
  rcases Dq σ u hv with ⟨rfl,rfl,rfl,h0,h1,⟨v,h2,h3⟩|h3⟩|⟨b5,h3⟩
  .grind[Eu]
  .grind[Eu,D1]
  .have h7:(k==7)=false:=by grind[JQ]
   have hn:=TI hv;simp only[valid,AE] at hv;rw[h3,Eu,h7,Vv hσ ts u k 0 hv.2]
   grind
theorem Vv {q:Int->Bool} {σ:List Nat} (hσ:∀x∈σ,q x=true):∀(l:List Ty) (u:Nat) (k:Int) (j:Nat),BS l=true->D1 q (Da σ u k j l)=true
 | [],_,_,_,_=>rfl
 | t::l,u,k,j,hv=>by
  simp only[BS,AE] at hv;rw[Da,D1,ID hσ t _ hv.1,Vv hσ l u k (j+1) hv.2];rfl
end
mutual
theorem TJ (σ:List Nat):∀(t:Ty) (u:Nat),valid t=true->aW (inst σ u t)=true
 | .mk k n i ts,u,hv=>by
  rcases Dq σ u hv with ⟨rfl,rfl,rfl,h0,h1,⟨v,h2,h3⟩|h3⟩|⟨b5,h3⟩
  .rw[h3]
   rfl
  .rw[h3,aW]
   have e1:decide (-(2 ^ 60)<=i)=true:=Ap (by omega);have e2:decide (i<2 ^ 60)=true:=Ap (by omega);rw[e1,e2];rfl
  .simp only[valid,AE] at hv
   rw[h3,aW,b5,Vw σ ts u k 0 hv.2];rfl
theorem Vw (σ:List Nat):∀(l:List Ty) (u:Nat) (k:Int) (j:Nat),BS l=true->aX (Da σ u k j l)=true
 | [],_,_,_,_=>rfl
 | t::l,u,k,j,hv=>by
  simp only[BS,AE] at hv;rw[Da,aX,TJ σ t _ hv.1,Vw σ l u k (j+1) hv.2];rfl
end
mutual
theorem kL (σ:List Nat):∀(t:Ty) (u:Nat),valid t=true->cv (inst σ u t)=cv t
 | .mk k n i ts,u,hv=>by
  rcases Dq σ u hv with ⟨rfl,rfl,rfl,h0,h1,⟨v,h2,h3⟩|h3⟩|⟨b5,h3⟩
  .rw[h3]
   rfl
  .rw[h3]
  .simp only[valid,AE] at hv
   rw[h3,cv,cv,TK σ ts u k 0 hv.2]
theorem TK (σ:List Nat):∀(l:List Ty) (u:Nat) (k:Int) (j:Nat),BS l=true->LU (Da σ u k j l)=LU l
 | [],_,_,_,_=>rfl
 | t::l,u,k,j,hv=>by
  simp only[BS,AE] at hv;rw[Da,LU,LU,kL σ t _ hv.1,TK σ l u k (j+1) hv.2]
end
mutual
theorem I8 (σ:List Nat):∀(t:Ty) (u:Nat),valid t=true->size (inst σ u t)=size t/\depth (inst σ u t)=depth t/\wt (inst σ u t)=wt t/\inp (inst σ u t)=true
 | .mk k n i ts,u,hv=>by
  rcases Dq σ u hv with ⟨rfl,rfl,rfl,h0,h1,⟨v,h2,h3⟩|h3⟩|⟨b5,h3⟩
  .rw[h3]
   exact⟨rfl,rfl,rfl,rfl⟩
  .rw[h3]
   exact⟨rfl,rfl,rfl,rfl⟩
  .have ZE:=hv
   simp only[valid,AE] at hv;obtain⟨e1,e2,e3,e4⟩:=TL σ ts u k 0 hv.2;rw[h3];refine⟨by grind[size],by grind[depth],by grind[wt,TK],?_⟩;rw[inp,e4];cases b0:(k==0) with
   | false=>simp
   | true=>
    have:k=0:=by grind
    subst this;rcases M4 hv.1 with ⟨_,_,_,rfl⟩|h|h|h|h|h|h
    .rfl
    all_goals omega
theorem TL (σ:List Nat):∀(l:List Ty) (u:Nat) (k:Int) (j:Nat),BS l=true->AZ (Da σ u k j l)=AZ l/\Ep (Da σ u k j l)=Ep l/\qg (Da σ u k j l)=qg l/\S9 (Da σ u k j l)=true
 | [],_,_,_,_=>⟨rfl,rfl,rfl,rfl⟩
 | t::l,u,k,j,hv=>by
  simp only[BS,AE] at hv;obtain⟨e1,e2,e3,e4⟩:=I8 σ t (u+Ea k j) hv.1;obtain⟨f1,f2,f3,f4⟩:=TL σ l u k (j+1) hv.2
  grind[Da,AZ,Ep,qg,S9]
end
mutual
theorem Mc:∀(t:Ty),valid t=true->ren t=t
 | .mk k n i ts,hv=>by
  have h7:(k==7)=false:=by grind[JQ]
  simp only[valid,AE] at hv;rw[ren,h7,TM ts hv.2];rfl
theorem TM:∀(l:List Ty),BS l=true->B4 l=l
 | [],_=>rfl
 | t::l,hv=>by
  simp only[BS,AE] at hv;rw[B4,Mc t hv.1,TM l hv.2]
end
theorem EP {t:Ty} (hv:valid t=true) (hc:Co 0 t=true):inst [] 0 t=t:=Iv [] t 0 hv hc
section
variable {R:RT}
theorem kM {s:AM} {m:Option Nat} {K:AV->Prop} (h:K (BB false)):aZ s (Q5 (.pv (.sc (.pointer none)))) m .neq (.pv (.sc (.pointer none))) (.pv (.sc (.pointer none))) K:=by assumption
theorem ACp {s:AM} {n:Option Nat} {id off:Nat} {K:AV->Prop} (ha:alive s id=true) (h:K (BB true)):aZ s n (some 0) .neq (.ptr id off) (.pv (.sc (.pointer none))) K:=by
 simp only[aZ,TN,Ga];refine⟨?_,h⟩
 simp_all[sameKind,D4]
def GG (s:AM) (c d:List AV):AM:=⟨s.bs++[c]++[Z4]++[d],s.ts⟩
theorem IE {s:AM} {c d:List AV}:(GG s c d).bs[s.bs.length]?=some c/\(GG s c d).bs[s.bs.length+1]?=some Z4/\(GG s c d).bs[s.bs.length+2]?=some d:=by simp[*,GG]
theorem TP {s:AM} {c d:List AV} {p:Nat} {x:List AV} (h:s.bs[p]?=some x):(GG s c d).bs[p]?=some x:=Av (Av (Av h _) _) _
theorem Rm {s:AM} (hs:BM s) {c d:List AV} (hc:Ab 0 c=true) (hd:Ab 0 d=true):BM (GG s c d):=by
 intro b hb;simp only[GG,CG,E7] at hb;rcases hb with ((hb|rfl)|rfl)|rfl
 .exact Bn (by simp[GG]) b (hs b hb)
 .exact Bn (by simp) _ hc
 .rfl
 .exact Bn (by simp) _ hd
theorem Ke {s:AM} {u:Nat} {fn:AV} (hfn:close [] 0 0 fn=none) {k' i':Int} {n':List UInt8} {a:AV} {rows:List (List PV)} {Post:AV->Prop} (ha:Aq a rows)
  (hh:AO (BB (k'==5)) (
   A0 (GG s [AA k',SS n',AA i',a] [AA k',SS n',AA i',.AB []]) (.ptr s.bs.length 0) 2 λa19=>
   D6 (env R) (GG s [AA k',SS n',AA i',a] [AA k',SS n',AA i',.AB []]) none a19 λa20=>
   E3 (env R) (Cv (env R) 121 s.bs.length s.bs.length s.ts.length) (fn) [a20,AA u] (GG s [AA k',SS n',AA i',a] [AA k',SS n',AA i',.AB []]) λa22 TQ=>
   DC a22 0 λa23=>
   DC a22 1 λa24=>
   aZ TQ (Q5 a23) (some 0) .neq a23 (.pv (.sc (.pointer none))) λa26=>
   AO a26 (
   DT TQ a23 λa28=>
   D6 (env R) TQ (some 4) a28 λa29=>
   E3 (env R) (Cv (env R) 121 s.bs.length s.bs.length s.ts.length) (.func (.func 146) [] []) [a29] TQ λa30 oN=>
   CJ (Cv (env R) 121 s.bs.length s.bs.length s.ts.length) oN 4 (.ptr (s.bs.length+1) 0) a30 λoL=>
   D6 (env R) oL (some 4) (.ptr (s.bs.length+1) 0) λr=>
   QI s.bs.length s.ts.length Post r oL) (
   YK R s.bs.length s.bs.length s.ts.length (AA u) (fn) (.ptr s.bs.length 0) (.ptr (s.bs.length+1) 0) (.ptr (s.bs.length+2) 0) a24 TQ (QI s.bs.length s.ts.length Post))) (
   Px R s.bs.length s.bs.length s.ts.length (AA u) (fn) (.ptr s.bs.length 0) (.ptr (s.bs.length+1) 0) (.ptr (s.bs.length+2) 0) (GG s [AA k',SS n',AA i',a] [AA k',SS n',AA i',.AB []]) (QI s.bs.length s.ts.length Post))) :
  ∃r,Post r/\∀L,BD (env R) L 121 [.agg [AA k',SS n',AA i',a],AA u,fn] s r s:=by
 refine i121 (by simp[*]) (AKX ?_);refine Bw (cs:=[AA k',SS n',AA i',a]) rfl (by simp[ha.ok]) (Bt ?_);refine Ad (cs:=[AA k',SS n',AA i',a]) (Av (Ay _ _) _) rfl (Bt ?_);refine CL (old:=Z4) (Ay _ _) rfl rfl (by decide) (by simp) (by simp[ha.ok]) (.inl (by simp)) ?_;have e:((s.bs++[[AA k',SS n',AA i',a]]++[Z4]++[Z4]).set (s.bs++[[AA k',SS n',AA i',a]]++[Z4]).length [AA k',SS n',AA i',a])=(GG s [AA k',SS n',AA i',a] [AA k',SS n',AA i',a]).bs:=by grind[GG]
 have l1:(s.bs++[[AA k',SS n',AA i',a]]++[Z4]).length=s.bs.length+2:=by simp
 have l2:(s.bs++[[AA k',SS n',AA i',a]]).length=s.bs.length+1:=by simp
 simp only at e l1 l2 ⊢;rw[e];simp only[l1,l2];obtain⟨g0,g1,g2⟩:=IE (s:=s) (c:=[AA k',SS n',AA i',a]) (d:=[AA k',SS n',AA i',a]);refine AK (AP g2) (DD (off:=3) g2 (Aa 4) rfl (by simp) rfl (.inl (by simp)) ?_);have e2:(GG s [AA k',SS n',AA i',a] [AA k',SS n',AA i',a]).bs.set (s.bs.length+2) ([AA k',SS n',AA i',a].set 3 (.AB []))=(GG s [AA k',SS n',AA i',a] [AA k',SS n',AA i',.AB []]).bs:=by simp[*,GG]
 show A0 ⟨(GG s [AA k',SS n',AA i',a] [AA k',SS n',AA i',a]).bs.set (s.bs.length+2) ([AA k',SS n',AA i',a].set 3 (.AB [])),s.ts⟩ _ _ _
 rw[e2];obtain⟨g0,g1,g2⟩:=IE (s:=s) (c:=[AA k',SS n',AA i',a]) (d:=[AA k',SS n',AA i',.AB []]);exact AK (AP g0) (AU g0 rfl (Au hh))
theorem Ot {s:AM} {p:Nat} {cp:List AV} {fn:AV} {ts ls:List Ty} {a:AV} (ha:Aq a (AW ts)) (hl:ts.length<2 ^ 38) (Rk:ls.length=ts.length) {k i0 i':Int} {n:List UInt8} {u:Nat} (hu:u<2 ^ 60) (hs:BM s) (hp:s.bs[p]?=some cp)
  (ih:∀(q:Nat) (t l:Ty),ts[q]?=some t->ls[q]?=some l->∀s,BM s->s.bs[p]?=some cp->∃r,A5 l r/\∀L,BD (env R) L 121 [.agg ((Af t).map .pv),AA (u+Ea k q:Nat),fn] s r s)
  {Post:AV->Prop} (hP:∀r,A5 (.mk k n i' ls) r->Post r) :
  Px R s.bs.length s.bs.length s.ts.length (AA u) fn (.ptr s.bs.length 0) (.ptr (s.bs.length+1) 0) (.ptr (s.bs.length+2) 0) (GG s [AA k,SS n,AA i0,a] [AA k,SS n,AA i',.AB []]) (QI s.bs.length s.ts.length Post):=by
 obtain⟨g0,g1,g2⟩:=IE (s:=s) (c:=[AA k,SS n,AA i0,a]) (d:=[AA k,SS n,AA i',.AB []]);exact AKY (AK (AP g0) (AU g0 rfl (Al (n:=ts.length) (by rw[ha.A7,AR]) (u7 ha hl Rk hu hs hp ih hP ts.length 0 _ (.AB []) (by omega) (Rm hs (by simp[Ab,Ar,ha.Ar]) (by rfl)) (TP hp) g0 g1 g2 (.inl rfl) (Aa _)))))
theorem vA {s:AM} {fn:AV} {u:Nat} {n:List UInt8} {i i':Int} {a:AV} (ha:Aq a []) (hu:u<2 ^ 60) (hs:BM s) {p:Nat} {cp:List AV} (hp:s.bs[p]?=some cp) {Post:AV->Prop} (hP:∀r,A5 (.mk 5 n i' []) r->Post r) :
  YK R s.bs.length s.bs.length s.ts.length (AA u) fn (.ptr s.bs.length 0) (.ptr (s.bs.length+1) 0) (.ptr (s.bs.length+2) 0) (AA i') (GG s [AA 5,SS n,AA i,a] [AA 5,SS n,AA i,.AB []]) (QI s.bs.length s.ts.length Post):=by
 obtain⟨g0,g1,g2⟩:=IE (s:=s) (c:=[AA 5,SS n,AA i,a]) (d:=[AA 5,SS n,AA i,.AB []]);refine AKZ (AK (AP g2) (DD g2 (by simp) rfl (by simp) rfl (.inl (by simp)) ?_));have e3:(GG s [AA 5,SS n,AA i,a] [AA 5,SS n,AA i,.AB []]).bs.set (s.bs.length+2) ([AA 5,SS n,AA i,.AB []].set 2 (AA i'))=(GG s [AA 5,SS n,AA i,a] [AA 5,SS n,AA i',.AB []]).bs:=by simp[*,GG]
 show Px R _ _ _ _ _ _ _ _ ⟨(GG s [AA 5,SS n,AA i,a] [AA 5,SS n,AA i,.AB []]).bs.set (s.bs.length+2) ([AA 5,SS n,AA i,.AB []].set 2 (AA i')),s.ts⟩ _
 rw[e3];exact Ot (ts:=[]) (ls:=[]) ha (by simp) rfl hu hs hp (by simp) hP
theorem kN {v u:Nat} {k:Int}:∀(ts:List Ty) (b q:Nat) (l:Ty),(B4 (J9 v u k b ts))[q]?=some l->∃t,ts[q]?=some t/\(B4 ts)[q]?=some (ren t)/\l=ren (sub v (u+Ea k (b+q)) t)
 | [],_,_,_,h=>by grind[J9,B4]
 | t::ts,b,0,l,h=>by grind[J9,B4]
 | t::ts,b,q+1,l,h=>by
  simp only[J9,B4,Hp] at h ⊢;obtain⟨t',h1,h2,h3⟩:=kN ts (b+1) q l h
  grind
theorem bA {v u:Nat} {k:Int}:∀(ts:List Ty) (b:Nat),(B4 (J9 v u k b ts)).length=(B4 ts).length
 | [],_=>rfl
 | t::ts,b=>by simp[J9,B4,bA ts (b+1)]
mutual
theorem bB {N v p:Nat}:∀(t:Ty),size t<2 ^ 38->HM N t=true->aW t=true->∀(u:Nat),u+size t<2 ^ 60->∀(x:AV),A5 (ren t) x->∀(s:AM),BM s->s.bs[p]?=some [AA 2,SS (36::G0 v),AA 0,.AB []] ->
  ∃r,A5 (ren (sub v u t)) r/\∀L,BD (env R) L 121 [x,AA u,APe p] s r s
 | .mk k n i ts,h,ht,Up,u,hu,x,hx,s,hs,hp=>by
  have KT:=(BL.1 hp).1;simp only[size] at h hu;rw[HM] at ht;rw[aW] at Up
  by_cases h7:k=7
  .subst h7
   simp only[C7,AN,AE,Jl] at ht;have hts:=ht.1;subst hts;have er:ren (.mk 7 n i [])=.mk 2 (36::G0 i.toNat) 0 []:=rfl;have es:ren (sub v u (.mk 7 n i []))=.mk 2 (36::G0 i.toNat) 0 []:=rfl;rw[er] at hx;rw[es];obtain⟨a,rfl,ha⟩:=hx;exact Ke rfl ha (Am (Ot (ts:=[]) (ls:=[]) ha (by simp) rfl (by omega) hs hp (by simp) λr hr=>hr))
  .have er:=HG k n i ts h7
   rw[er] at hx;obtain⟨a,rfl,ha⟩:=hx
   by_cases h5:k=5
   .subst h5
    simp only[C7,MM,Gb,AE,Jl] at Up;have hts:=Up.1.1.1;have hi:i<2 ^ 60:=by grind
    subst hts;refine Ke rfl ha (A4 ?_);obtain⟨g0,g1,g2⟩:=IE (s:=s) (c:=[AA 5,SS n,AA i,a]) (d:=[AA 5,SS n,AA i,.AB []]);have hok:BM (GG s [AA 5,SS n,AA i,a] [AA 5,SS n,AA i,.AB []]):=Rm hs (by simp[Ab,Ar,ha.Ar]) (by rfl);have gp:=TP (c:=[AA 5,SS n,AA i,a]) (d:=[AA 5,SS n,AA i,.AB []]) hp;refine AK (AP g0) (AU g0 rfl ?_);refine⟨_,_,AKR i u (by omega) hi p hok (by grind) _,CE rfl (CE rfl ?_)⟩;have Q6:sub v u (.mk 5 n i [])=bif i==(u:Int) then ph v else bif decide ((u:Int)<i) then .mk 5 n (i-1) [] else .mk 5 n i []:=by rfl
    rw[Q6];cases he:(i==(u:Int)) with
    | true=>
     simp only[AN];refine ACp (AP gp) (A4 (Cy (AP gp) (Ad gp rfl ?_)));have hc:=TH (R:=R) (ren (ph v)) (by assumption) (.agg [AA 2,SS (36::G0 v),AA 0,.AB []]) ⟨_,rfl,.AB _⟩;refine AD hc ?_;rintro w ⟨b,rfl,hb⟩;refine CL g1 rfl rfl (by decide) (by simp) (by simp[hb.ok]) (.inl (by simp)) (Ad (Bf g1) rfl ?_);exact⟨.agg [AA 2,SS (36::G0 v),AA 0,b],by simp[hb.close],⟨b,rfl,hb⟩⟩
    | false=>
     simp only[AG];refine kM (Am (vA ha (by omega) hs hp λr hr=>?_));cases hd:decide ((u:Int)<i) with
     | true=>rw[hd] at hr; exact hr
     | false=>rw[hd] at hr; exact hr
   .have b5:(k==5)=false:=by grind
    have b7:(k==7)=false:=by grind
    have es:ren (sub v u (.mk k n i ts))=.mk k n i (B4 (J9 v u k 0 ts)):=by grind[sub,HG]
    rw[es];refine Ke rfl ha ?_;rw[b5];rw[b7] at ht;simp only[AG,AE] at ht Up;have UT:=BP ts;refine Am (Ot ha (by grind[Bk]) (bA ts 0) (by omega) hs hp ?_ λr hr=>hr);intro q t l hq hlq s' hs' hp';obtain⟨t',h1,h2,h3⟩:=kN ts 0 q l hlq;rw[h2] at hq;cases hq;rw[h3];have hbn:=PZ k q;rw[CQ];exact Vx ts (by omega) ht.2.2 Up.2 (u+Ea k q) (by omega) t' (A2 h1) s' hs' hp'
theorem Vx {N v p:Nat}:∀(l:List Ty),AZ l<2 ^ 38->IY N l=true->aX l=true->∀(u:Nat),u+AZ l<2 ^ 60->∀t∈l,∀(s:AM),BM s->s.bs[p]?=some [AA 2,SS (36::G0 v),AA 0,.AB []] ->
  ∃r,A5 (ren (sub v u t)) r/\∀L,BD (env R) L 121 [.agg ((Af (ren t)).map .pv),AA u,APe p] s r s
 | [],_,_,_,_,_,_,h=>by cases h
 | e::l,h,ht,Up,u,hu,t,hm=>by
  simp only[AZ] at h hu;simp only[IY,AE] at ht;simp only[aX,AE] at Up;rcases A1.1 hm with h' | h'
  .rw[h']
   exact bB e (by omega) ht.1 Up.1 u (by omega) _ (A5.BZ _)
  .exact Vx l (by omega) ht.2 Up.2 u (by omega) t h'
end
theorem Q7 {N v:Nat} {t:Ty} (h:size t<2 ^ 38) (ht:HM N t=true) (hv:aW t=true) {x:AV} (hx:A5 (ren t) x):AL (env R) 89 [x,phA v] λr=>A5 (ren (sub v 0 t)) r:=by
 obtain⟨k',n',i',ts',hr⟩:∃k n i ts,ren t=.mk k n i ts:=by
  obtain⟨k,n,i,ts⟩:=ren t;exact⟨k,n,i,ts,rfl⟩
 have hx':=hx;rw[hr] at hx;obtain⟨a,rfl,ha⟩:=hx;refine e89 (u0:=.agg [AA k',SS n',AA i',a]) (u1:=phA v) (by simp[ha.close,AY,close]) (APh ?_);refine Bw (cs:=[AA k',SS n',AA i',a]) rfl (by simp[ha.ok]) (Bw (cs:=[AA 2,SS (36::G0 v),AA 0,.AB []]) rfl (by simp) (Bt (Ad (cs:=[AA k',SS n',AA i',a]) rfl rfl ?_)))
 have hs:BM ⟨[[AA k',SS n',AA i',a],[AA 2,SS (36::G0 v),AA 0,.AB []],Z4],[]⟩:=by
  intro b hb;simp only[A1,Ed,Ee] at hb;rcases hb with rfl|rfl|rfl <;> simp[Ab,Ar,ha.Ar]
 obtain⟨r,h1,h2⟩:=bB (R:=R) (v:=v) (p:=1) t h ht hv 0 (by omega) _ hx' ⟨[[AA k',SS n',AA i',a],[AA 2,SS (36::G0 v),AA 0,.AB []],Z4],[]⟩ hs rfl;refine⟨r,_,h2 _,?_⟩;have ZD:=h1
 obtain⟨k2,n2,i2,Jw,Ns⟩:∃k n i ts,ren (sub v 0 t)=.mk k n i ts:=by
  obtain⟨k,n,i,ts⟩:=ren (sub v 0 t);simp
 rw[Ns] at h1;obtain⟨b,rfl,hb⟩:=h1;refine CL (old:=Z4) (id:=2) rfl rfl rfl (by decide) (AI _) (by simp[hb.ok]) (.inl (AI _)) (Ad (cs:=[AA k2,SS n2,AA i2,b]) rfl rfl ?_);exact⟨.agg [AA k2,SS n2,AA i2,b],by simp[hb.close],ZD⟩
end
section
variable {R:RT}
abbrev APi (p:Nat):AV:=.func (.func 134) [] [.ptr p 0]
theorem AKa (i u:Int) (h0:-(2 ^ 60)<=i) (h1:i<2 ^ 60) (h2:0<=u) (h3:u<2 ^ 60) (p:Nat) {s:AM} (hs:BM s) (hp:s.bs[p]?=some [.AB []]) (L:A8) :
  BD (env R) L 134 [AA i,AA u,.ptr p 0] s (.tuple [.pv (.sc (.pointer none)),AA i]) s:=by
 have fin:∀(rr:Bool),QM rr s.bs.length (λv s'=>v=.tuple [.pv (.sc (.pointer none)),AA i]/\s'=s) (.tuple [.pv (.sc (.pointer none)),AA i]) s:=by
  intro rr;have e:s.bs.take s.bs.length=s.bs:=Nw;refine JW (ds:=[.pv (.sc (.pointer none)),AA i]) ?_ ?_ ?_
  .rw[e,Cz]
   exact hs
  all_goals simp
 obtain⟨v,s',⟨rfl,rfl⟩,hc⟩:=AWo (R:=R) (L:=L) (s:=s) (t0:=AA i) (t1:=AA u) (t2:=.ptr p 0) (Post:=λv s'=>v=.tuple [.pv (.sc (.pointer none)),AA i]/\s'=s) (by rfl) (AKb (JV (by omega) (by omega) (NU (by
  by_cases h:i>=u
  .rw[Ap h]
   refine Ao (Ao (AU hp rfl (Ao (Al (n:=0) rfl (Ao (Ah (pk ?_)))))));rw[Aw (by omega)];exact Am (vB (fin _))
  .rw[Aw h]
   exact Bm (Bm (Bm (Bm (pk (Am (vB (fin _)))))))))))
 omega
mutual
theorem Vy {p:Nat}:∀(t:Ty),size t<2 ^ 38->aW t=true->∀(u:Nat),u+size t<2 ^ 60->∀(x:AV),A5 t x->∀(s:AM),BM s->s.bs[p]?=some [.AB []] ->
  ∃r,A5 t r/\∀L,BD (env R) L 121 [x,AA u,APi p] s r s
 | .mk k n i ts,h,Up,u,hu,x,hx,s,hs,hp=>by
  simp only[size] at h hu;rw[aW] at Up;obtain⟨a,rfl,ha⟩:=hx
  by_cases h5:k=5
  .subst h5
   simp only[C7,MM,Gb,AE,Jl,DU] at Up;have hts:=Up.1.1.1;subst hts;refine Ke rfl ha (A4 ?_);obtain⟨g0,g1,g2⟩:=IE (s:=s) (c:=[AA 5,SS n,AA i,a]) (d:=[AA 5,SS n,AA i,.AB []]);have hok:BM (GG s [AA 5,SS n,AA i,a] [AA 5,SS n,AA i,.AB []]):=Rm hs (by simp[Ab,Ar,ha.Ar]) (by rfl);exact AK (AP g0) (AU g0 rfl ⟨_,_,AKa i u Up.1.1.2 Up.1.2 (by omega) (by omega) p hok (TP hp) _,CE rfl (CE rfl (kM (Am (vA ha (by omega) hs hp λr hr=>hr))))⟩)
  .have b5:(k==5)=false:=by grind
   refine Ke rfl ha ?_;rw[b5];simp only[AE] at Up;have UT:=BP ts;refine Am (Ot ha (by omega) rfl (by omega) hs hp ?_ λr hr=>hr);intro q t l hq hlq s' hs' hp';rw[hq] at hlq;cases hlq;have hbn:=PZ k q;exact TR ts (by omega) Up.2 (u+Ea k q) (by omega) t (A2 hq) s' hs' hp'
theorem TR {p:Nat}:∀(l:List Ty),AZ l<2 ^ 38->aX l=true->∀(u:Nat),u+AZ l<2 ^ 60->∀t∈l,∀(s:AM),BM s->s.bs[p]?=some [.AB []] ->
  ∃r,A5 t r/\∀L,BD (env R) L 121 [.agg ((Af t).map .pv),AA u,APi p] s r s
 | [],_,_,_,_,_,h=>by cases h
 | e::l,h,Up,u,hu,t,hm=>by
  simp only[AZ] at h hu;simp only[aX,AE] at Up;rcases A1.1 hm with h' | h'
  .rw[h']
   exact Vy e (by omega) Up.1 u (by omega) _ (A5.BZ _)
  .exact TR l (by omega) Up.2 u (by omega) t h'
end
theorem YL {t:Ty} (h:size t<2 ^ 38) (hv:aW t=true) {x:AV} (hx:A5 t x):AL (env R) 107 [x,.AB []] λr=>A5 t r:=by
 obtain⟨k,n,i,ts⟩:=t;have hx':=hx;obtain⟨a,rfl,ha⟩:=hx;refine AWp (u0:=.agg [AA k,SS n,AA i,a]) (u1:=.AB []) (by simp[ha.close,AY,close]) (AKc ?_);refine Bw (cs:=[AA k,SS n,AA i,a]) rfl (by simp[ha.ok]) (Bw (cs:=[.AB []]) rfl (by simp) (Bt (Ad (cs:=[AA k,SS n,AA i,a]) rfl rfl ?_)))
 have hs:BM ⟨[[AA k,SS n,AA i,a],[.AB []],Z4],[]⟩:=by
  intro b hb;simp only[A1,Ed,Ee] at hb;rcases hb with rfl|rfl|rfl <;> simp[Ab,Ar,ha.Ar]
 obtain⟨r,h1,h2⟩:=Vy (R:=R) (p:=1) (.mk k n i ts) h hv 0 (by omega) _ hx' ⟨[[AA k,SS n,AA i,a],[.AB []],Z4],[]⟩ hs rfl;refine⟨r,_,h2 _,?_⟩;obtain⟨b,rfl,hb⟩:=h1;refine CL (old:=Z4) (id:=2) rfl rfl rfl (by decide) (AI _) (by simp[hb.ok]) (.inl (AI _)) (Ad (cs:=[AA k,SS n,AA i,b]) rfl rfl ?_);exact⟨.agg [AA k,SS n,AA i,b],by simp[hb.close],⟨b,rfl,hb⟩⟩
theorem bC {t:Ty} (h:size t<2 ^ 38) (hv:aW t=true) {x:AV} (hx:A5 t x):AL (env R) 70 [x] λr=>A5 t r:=by
 obtain⟨k,n,i,ts⟩:=t;have hx':=hx;obtain⟨a,rfl,ha⟩:=hx;refine e70 (u0:=.agg [AA k,SS n,AA i,a]) (by simp[ha.close]) (APj ?_);refine Bw (cs:=[AA k,SS n,AA i,a]) rfl (by simp[ha.ok]) (Bt (Ad (cs:=[AA k,SS n,AA i,a]) rfl rfl (AD (YL h hv hx') ?_)));rintro r ⟨b,rfl,hb⟩;refine CL (old:=Z4) (id:=1) rfl rfl rfl (by decide) (AI _) (by simp[hb.ok]) (.inl (AI _)) (Ad (cs:=[AA k,SS n,AA i,b]) rfl rfl ?_);exact⟨.agg [AA k,SS n,AA i,b],by simp[hb.close],⟨b,rfl,hb⟩⟩
end
theorem Ou {n:Int} {s:AM} {K:AV->AM->Prop} (hK:K (.AB [[.sc (.int .i64 n)]]) s):CV false s 1 [(AA 0)] 1 [(0,1,AA n)] K:=by
 simp[CV,FY,CB];exact hK
theorem ACq {L:A8} {s:AM} {a:AV} {l:List Int} {n:Int} {K:AV->AM->Prop} (ha:Dg 0 s.ts 3 a (AX l)) (EU:L.rt=0) (hl:l.length<2 ^ 40) (h:∀a' ts',Dg 0 ts' 3 a' (AX (l++[n]))->K a' ⟨s.bs,ts'⟩) :
  Ct false L s 3 1 8 a (.AB [[.sc (.int .i64 n)]]) K:=by
 have hl':=BV l;have:=L5 (L:=L) (bs:=s.bs) (ts:=[]) (x:=s.ts) (e:=3) (k:=1) (bytes:=8) (a:=a) (rows:=AX l) (row:=[.sc (.int .i64 n)]) (K:=K) (by grind) (by omega) (by grind[AX]) rfl (by omega) (by simp) (by omega) (by omega) (by grind[AX])
 simp_all
theorem Dy {bs:List (List AV)} {n:Nat} (h:n<=bs.length) (b:List AV):(bs++[b]).take n=bs.take n:=W8 h
theorem B5 {bs X:List (List AV)} {n j:Nat} {v:List AV} (h:bs.take n=X) (hj:X[j]?=some v):bs[j]?=some v:=by grind
theorem EE {bs X:List (List AV)} {n j:Nat} {c:List AV} (h:bs.take n=X):(bs.set j c).take n=X.set j c:=by grind[List.take_set]
theorem YM {rr:Bool} {A:Nat} {c:List AV} {s0:AM} {bs:List (List AV)} {ts:List (Nat×Nat)} {Post:AV->AM->Prop} (h0:BM s0) (hT:bs.take s0.bs.length=s0.bs.set A c) (hc:Ab s0.bs.length c=true) (hP:Post (.tuple []) ⟨s0.bs.set A c,ts⟩):QM rr s0.bs.length Post (.tuple []) ⟨bs,ts⟩:=by
 refine JW (ds:=[]) ?_ rfl ?_
 .have:=BM.set h0 hc ts (j:=A)
  rw[Cz];intro b hb;have:=this b (by grind)
  grind
 grind
section
variable {R:RT}
abbrev fX (A F:Nat):AV:=.func (.func 56) [] [.ptr A 0,.ptr F 0]
def vC (R:RT) (A F:Nat) (x:AV) (l m:List Int) (s:AM):Prop:=∀(L:A8) (c:AV),L.ro=0->L.rt=0->s.bs[A]?=some [c]->Dg 0 s.ts 3 c (AX l) ->
 ∃v s',(∃c' ts',Dg 0 ts' 3 c' (AX (l++m))/\v=.tuple []/\s'=⟨s.bs.set A [c'],ts'⟩)/\BD (env R) L 56 [x,.ptr A 0,.ptr F 0] s v s'
theorem vD {A F:Nat} {ts:List Ty} {a:AV} (ha:Aq a (AW ts)) (hl:ts.length<2 ^ 38) {l:List Int} {s0:AM} (hs0:BM s0) (hA:A<s0.bs.length) (hF:s0.bs[F]?=some [fX A F]) (hAF:A≠F)
  (ih:∀t∈ts,∀(l:List Int) (s:AM),BM s->s.bs[F]?=some [fX A F]->l.length+(Ai t).length<2 ^ 40->vC R A F (.agg ((Af t).map .pv)) l (Ai t) s)
  (hb:l.length+(Bp ts).length<2 ^ 40) {rr:Bool} {Post:AV->AM->Prop} (hP:∀c' ts',Dg 0 ts' 3 c' (AX (l++Bp ts))->Post (.tuple []) ⟨s0.bs.set A [c'],ts'⟩) :
  ∀(j q:Nat) (done:List Int) (bs:List (List AV)) (tk:List (Nat×Nat)) (c:AV),q+j=ts.length->done++Bp (ts.drop q)=l++Bp ts->BM ⟨bs,tk⟩->s0.bs.length<=bs.length->bs.take s0.bs.length=s0.bs.set A [c]->Dg 0 tk 3 c (AX done) ->
   kO R 0 0 0 (.ptr F 0) a (AA ts.length) (AA q) ⟨bs,tk⟩ (QM rr s0.bs.length Post):=by
 intro j
 induction j with
 | zero=>
  intro q done bs tk c hi hd hs hn hT hc;refine AEv (Ah ?_);rw[Aw (by omega)];rw[Bu (by omega),Bp,Gd] at hd;refine Am (YM hs0 hT (by simp[Ab,hc.Ax.Ar]) (hP c tk ?_))
  grind
 | succ j D2=>
  intro q done bs tk c hi hd hs hn hT hc;refine AEv (Ah ?_);rw[Ap (by omega)];obtain⟨t,ht⟩:∃t,ts[q]?=some t:=⟨_,Ak (by omega)⟩;have hrl:((Af t).map AV.pv).length=4:=by grind[Ac]
  have hro:=DK t
  have La:Ab (bs.length+1) ((Af t).map AV.pv)=true:=by
   obtain⟨k1,n1,i1,t1⟩:=t;rfl
  refine A4 (APk (BI ha (row:=Af t) (by omega) (by grind[BE]) (Ac _) (by omega) (Cg (Bt ?_))));have oM:=ih t (A2 ht);have hdr:ts.drop q=t::ts.drop (q+1):=drop_cons ht;rw[hdr,Bp,<-Di] at hd;have hdl:=Ba List.length hd;simp only[Bo] at hdl;generalize (Af t).map AV.pv=row at hrl hro La oM;refine CL (Ay bs Z4) hrl rfl (by decide) (AI _) hro (.inl (AI _)) ?_;have e:(bs++[Z4]).set bs.length row=bs++[row]:=by simp
  rw[e];have gF:(s0.bs.set A [c])[F]?=some [fX A F]:=by grind
  have gA:(s0.bs.set A [c])[A]?=some [c]:=by rw[CS (by omega)]
  have hs':BM ⟨bs++[row],tk⟩:=BM.app (s:=⟨bs,tk⟩) hs La;have fY:=(Dy hn row).trans hT;obtain⟨v,s',⟨c',ts',h1,rfl,rfl⟩,h3⟩:=oM done ⟨bs++[row],tk⟩ hs' (B5 fY gF) (by omega) (Cv (env R) 56 0 0 0) c rfl rfl (B5 fY gA) hc;refine AU (Av (B5 hT gF) row) rfl (Ad (Ay bs row) hrl ⟨_,_,h3,APl (BW (by omega) (by omega) ?_)⟩);have oO:=EE (j:=A) (c:=[c']) fY;rw[Hr] at oO;exact D2 (q+1) (done++Ai t) _ ts' c' (by omega) hd (BM.set (s:=⟨bs++[row],tk⟩) hs' (by simp[Ab,Ar,h1.Ax.Ar]) _) (by grind) oO h1
mutual
theorem bD {A F:Nat} (hAF:A≠F):∀(t:Ty),size t<2 ^ 38->∀(x:AV),A5 t x->∀(l:List Int) (s:AM),BM s->s.bs[F]?=some [fX A F]->l.length+(Ai t).length<2 ^ 40->vC R A F x l (Ai t) s
 | .mk k n i ts,h,x,hx,l,s,hs,hF,hb,L,c,hro,EU,hA,hc=>by
  obtain⟨a,rfl,ha⟩:=hx;simp only[size] at h;rw[Ai] at hb ⊢;have lA:=(BL.1 hA).1;have UT:=BP ts;refine m56 (by simp[Bi,F1]) ?_;rw[hro,EU];have hs1:BM ⟨s.bs++[[AA k,SS n,AA i,a]],s.ts⟩:=BM.app hs (by simp[Ab,Ar,ha.Ar]);have g:=Ay s.bs [AA k,SS n,AA i,a];refine APm (Bw (cs:=[AA k,SS n,AA i,a]) rfl (by simp[ha.ok]) (AK (AP g) (AU g rfl (Au ?_))));have gA:=Av hA [AA k,SS n,AA i,a];have same:s.bs.set A [c]=s.bs:=by grind[List.set_getElem_self]
  have tkn:(s.bs++[[AA k,SS n,AA i,a]]).take s.bs.length=s.bs.set A [c]:=by grind
  cases h5:(k==5) with
  | true=>
   rw[h5] at hb;refine A4 (AU gA rfl (AK (AP g) (AU g rfl (Ou ⟨by decide,ACq hc rfl (by omega) λc' ts' KQ=>?_⟩))));refine DD gA (by simp) KQ.Ax.cells (AI _) KQ.Ax.ok (.inl (AI _)) ?_;have hT:=EE (j:=A) (c:=[c']) tkn;rw[Hr] at hT;exact YM hs hT (by simp[Ab,KQ.Ax.Ar]) ⟨c',ts',KQ,rfl,rfl⟩
  | false=>
   refine Am (Au ?_);cases h3:(k==3) with
   | true=>
    rw[h5,h3] at hb;refine A4 (AK (AP g) (AU g rfl (Al (n:=ts.length) (by rw[ha.A7,AR]) ?_)));exact vD (l:=l) ha (by omega) hs lA hF hAF (λt hm l s hs hF hb=>Vz hAF ts (by omega) t hm l s hs hF hb) hb (λc' ts' KQ=>⟨c',ts',KQ,rfl,rfl⟩) ts.length 0 l _ s.ts c (by omega) (by simp) hs1 (by simp) tkn hc
   | false=>
    refine Am (YM hs tkn (by simp[Ab,hc.Ax.Ar]) ⟨c,s.ts,?_,rfl,rfl⟩)
    grind
theorem Vz {A F:Nat} (hAF:A≠F):∀(ts:List Ty),AZ ts<2 ^ 38->∀t∈ts,∀(l:List Int) (s:AM),BM s->s.bs[F]?=some [fX A F]->l.length+(Ai t).length<2 ^ 40->vC R A F (.agg ((Af t).map .pv)) l (Ai t) s
 | [],_,_,h=>by cases h
 | e::l,h,t,hm=>by
  simp only[AZ] at h;rcases A1.1 hm with h' | h'
  .rw[h']
   exact bD hAF e (by omega) _ (A5.BZ _)
  .exact Vz hAF l (by omega) t h'
end
def DY (b:Br):List PV:=.list (AW b.bounds)::Af b.body
def Py (b:Br) (x:AV):Prop:=∃a y,x=.agg (a::y)/\Aq a (AW b.bounds)/\A5 b.body (.agg y)
theorem Py.BZ (b:Br):Py b (.agg ((DY b).map .pv)):=⟨_,_,rfl,.list _,A5.BZ _⟩
theorem YN {E:Env} {s:AM} {id:Nat} {a:AV} {cs:List AV} {K:AV->Prop} (hb:s.bs[id]?=some (a::cs)) (hk:cs.length=4) (h:K (.agg cs)):D6 E s (some 4) (.ptr id 1) K:=by
 simp only[D6,hb,wO,DV,xL,xM,xF,xG];refine⟨by simp[hk],?_⟩
 show K (.agg (cs.take 4))
 rw[CA (by omega)];exact h
theorem A5.cells {t:Ty} {y:List AV} (h:A5 t (.agg y)):y.length=4/\y.all A9=true/\Ab 0 y=true/\∀bs n m,AY bs n m y=some y:=by
 obtain⟨k,n,i,ts⟩:=t;obtain⟨a,hy,ha⟩:=h;cases hy;exact⟨rfl,by simp[ha.ok],by simp[Ab,Ar,ha.Ar],λbs n m=>by simp[ha.close,AY,close]⟩
theorem NW {b:Br} (h:size b.body<2 ^ 38) (hc:(Ai b.body).length<2 ^ 40) {x:AV} (hx:Py b x):AL (env R) 23 [x] λr=>Aq r (AX (Ai b.body)):=by
 obtain⟨a,y,rfl,ha,hy⟩:=hx;obtain⟨h4,hok,hid,Be⟩:=hy.cells;refine e23 (u0:=.agg (a::y)) (by simp[AY,close,ha.close,Be]) (APn ?_);refine Bw (cs:=a::y) rfl (by simp[ha.ok]; grind) (Bt (Bt ?_));refine DD (id:=2) (off:=0) (cs:=[.pv (.sc .nilFunc)]) rfl (by decide) rfl (AI _) rfl (.inl (AI _)) ?_;refine AU (id:=2) rfl rfl (AK (AP (c:=a) (cs:=y) rfl) ?_)
 show D6 _ _ _ (.ptr 0 1) _
 refine YN rfl h4 ?_
 have hs:BM ⟨[a::y,[.AB []],[fX 1 2]],[]⟩:=by
  intro c hc;simp only[A1,Ed,Ee] at hc;rcases hc with rfl|rfl|rfl
  .exact Bn (AI _) _ (by simp[Ab,ha.Ar,hid])
  all_goals rfl
 obtain⟨v,s',⟨c',ts',h1,rfl,rfl⟩,h3⟩:=bD (R:=R) (A:=1) (F:=2) (by decide) b.body h _ hy [] ⟨[a::y,[.AB []],[fX 1 2]],[]⟩ hs rfl (by grind) (Cv (env R) 23 0 0 0) (.AB []) rfl rfl rfl (.inl rfl);refine⟨_,_,h3,AU (id:=1) rfl rfl ?_⟩;obtain⟨r,c1,c2⟩:=NV h1 _ 0;exact⟨r,c1,by grind⟩
theorem Ov {b:Br} (h:size b.body<2 ^ 38) (hl:b.bounds.length<2 ^ 38) (hc:(Ai b.body).length<2 ^ 40) {x:AV} (hx:Py b x):AL (env R) 46 [x] λr=>r=BB (decide (b.bounds.length<=6)&&decide ((Ai b.body).length<=3)):=by
 have hx':=hx;obtain⟨a,y,rfl,ha,hy⟩:=hx;obtain⟨h4,hok,hid,Be⟩:=hy.cells;refine e46 (u0:=.agg (a::y)) (by simp[AY,close,ha.close,Be]) (APo ?_);have g:∀ts,(AM.mk [a::y] ts).bs[0]?=some (a::y):=λ_=>rfl
 refine Bw (cs:=a::y) rfl (by simp[ha.ok]; grind) (AK (AP (g _)) (AU (g _) rfl (Al (n:=b.bounds.length) (by rw[ha.A7,AR]) (YF ?_))))
 by_cases h6:b.bounds.length<=6
 .rw[Ap (by omega)]
  refine Ao (Ad (g _) (by grind) (Ao (AD (NW h hc hx') λr hr=>Ao (Al (n:=(Ai b.body).length) (by rw[hr.A7,BV]) (Ao (YF (pk ?_)))))));refine⟨_,rfl,?_⟩;rw[Ap h6];have:(((Ai b.body).length:Int)<=3)<->((Ai b.body).length<=3):=by omega
  grind
 .rw[Aw (by omega)]
  refine Bm (Bm (Bm (Bm (pk ⟨_,rfl,?_⟩))))
  grind
theorem Ej {s:AM} {p:PV} {K:AV->Prop} (hK:K (.pv p)):D6 (env R) s none (.Cq [p] 0) K:=by simp[*]
def ixI (n:Int) (l:List Int):Int:=match l.findIdx? (·==n) with
 | some j=>j
 | none=>-1
theorem fZ {l:List Int} {n:Int} (hl:l.length<2 ^ 40) {b:AV} (hb:BF b (AX l)):AL (env R) 93 [b,AA n] λr=>r=AA (ixI n l):=by
 obtain⟨a,Be,ha⟩:=hb.closed [] 0;refine e93 (u0:=a) (u1:=AA n) (by simp[*]) (APp (Al (n:=l.length) (by rw[ha.A7,BV]) ?_))
 suffices H:∀(j q:Nat),q+j=l.length->(∀p,p<q->l[p]?≠some n)->kP R 0 0 0 a (AA n) (AA l.length) (AA q) ⟨[],[]⟩ (QP λr=>r=AA (ixI n l)) from H l.length 0 (by omega) (λp hp=>by omega)
 intro j
 induction j with
 | zero=>
  intro q hi hn;refine AEw (Ah ?_);rw[Aw (by omega)];refine Am (APq ⟨_,rfl,?_⟩)
  grind[List.getElem?_of_mem,ixI]
 | succ j D2=>
  intro q hi hn;refine AEw (Ah ?_);rw[Ap (by omega)];obtain⟨m,hm⟩:∃m,l[q]?=some m:=⟨_,Ak (by omega)⟩;refine A4 (APr (BI ha (row:=[.sc (.int .i64 m)]) (by omega) (by simp[*,AX]) rfl (by omega) ?_));refine Ej ?_;refine Au ?_;cases he:n==m with
  | true=>
   refine A4 ⟨_,rfl,?_⟩;have:l.findIdx? (·==n)=some q:=by grind[List.findIdx?_eq_some_iff_getElem]
   rw[ixI,this]
  | false=>
   refine Am (APs (BW (by omega) (by omega) (D2 (q+1) (by omega) ?_)))
   grind
end
def tok:AV->Option Nat
 | .own t _=>some t
 | _=>none
def Ca (a a':AV) (ts ts':List (Nat×Nat)):Prop:=ts.length<=ts'.length/\(∀t,t<ts.length->tok a≠some t->ts'[t]?=ts[t]?)/\(tok a'=tok a\/∃t,tok a'=some t/\ts.length<=t)
theorem Ca.refl (a:AV) (ts:List (Nat×Nat)):Ca a a ts ts:=⟨Aa _,λ_ _ _=>rfl,.inl rfl⟩
theorem Ca.trans {a b c:AV} {ts tu tv:List (Nat×Nat)} (h:Ca a b ts tu) (k:Ca b c tu tv):Ca a c ts tv:=by
 obtain⟨h1,h2,h3⟩:=h;obtain⟨k1,k2,k3⟩:=k;refine⟨Bq h1 k1,λt ht ha=>?_,?_⟩
 all_goals grind
def DL (b:AV) (ts:List (Nat×Nat)):Prop:=∀t,tok b=some t->ts.length<=t
theorem DL.Ow {b b':AV} {ts0 ts ts':List (Nat×Nat)} (h:DL b ts0) (hc:Ca b b' ts ts') (hl:ts0.length<=ts.length):DL b' ts0:=by
 intro t ht;rcases hc.2.2 with h1|⟨u,h1,h2⟩
 .exact h t (by rw[<-h1,ht])
 grind
theorem Ca.side {a a' b b':AV} {ts0 ts ts':List (Nat×Nat)} (h:Ca a a' ts0 ts) (k:Ca b b' ts ts') (hb:DL b ts0):Ca a a' ts0 ts':=by
 obtain⟨h1,h2,h3⟩:=h;obtain⟨k1,k2,k3⟩:=k;refine⟨Bq h1 k1,λt ht ha=>?_,h3⟩;rw[k2 t (by omega) λhb'=>?_,h2 t ht ha];have:=hb t hb';omega
def Q8 (a b:AV):Prop:=∀t,tok a=some t->tok b≠some t
theorem Q8.symm {a b:AV} (h:Q8 a b):Q8 b a:=λt h1 h2=>h t h2 h1
theorem Dg.vE {lo:Nat} {ts:List (Nat×Nat)} {k:Nat} {a:AV} {rows:List (List PV)} (h:Dg lo ts k a rows) {t:Nat} (ht:tok a=some t):t<ts.length:=by
 rcases h with rfl|⟨u,rfl,h1,_⟩
 .cases ht
 .cases ht
  grind
theorem Q8.Ow {a a' b:AV} {lo k:Nat} {ts ts':List (Nat×Nat)} {rows:List (List PV)} (h:Q8 a b) (hc:Ca a a' ts ts') (hb:Dg lo ts k b rows):Q8 a' b:=by
 intro t ht hbt;rcases hc.2.2 with h1|⟨u,h1,h2⟩
 .exact h t (by rw[<-h1,ht]) hbt
 .rw[h1] at ht
  cases ht;have:=Dg.vE hb hbt;omega
theorem Ca.keep {a a' b:AV} {lo k:Nat} {ts ts':List (Nat×Nat)} {rows:List (List PV)} (hc:Ca a a' ts ts') (hb:Dg lo ts k b rows) (h:Q8 a b):Dg lo ts' k b rows:=by
 rcases hb with rfl|⟨t,rfl,h1,h2⟩
 .exact .inl rfl
 .refine .inr ⟨t,rfl,?_,h2⟩
  rw[hc.2.1 t (BL.1 h1).1 λha=>h t ha rfl];omega
theorem Q8.AB (a:AV) (rows:List (List PV)):Q8 a (.AB rows):=λ_ _ h=>by cases h
theorem DL.AB (ts:List (Nat×Nat)) (rows:List (List PV)):DL (.AB rows) ts:=λ_ h=>by cases h
theorem Pz {L:A8} {s:AM} {e:Nat} {k bytes:Nat} {a y:AV} {rows m:List (List PV)} {K:AV->AM->Prop} (ha:Dg 0 s.ts e a rows) (EU:L.rt=0) (hrows:∀r∈rows,r.length=k) (hm:∀r∈m,r.length=k) (hk:0<k)
  (hy:Cx s k y=some (m.flatten.map .pv)) (hok:(m.flatten.map AV.pv).all A9=true) (hb:(rows.length+m.length)*bytes<=2 ^ 45) (Lf:rows.length+m.length<=2 ^ 45)
  (h:∀a' ts',Dg 0 ts' e a' (rows++m)->Ca a a' s.ts ts'->K a' ⟨s.bs,ts'⟩):Ct false L s e k bytes a y K:=by
 obtain⟨bs,ts⟩:=s;have hall:(rows.all λr=>r.length==k)=true:=by grind
 unfold Ct;rw[hy];have hfl:=L7 m hm;have hby:=Fq m hm;cases hc:m.flatten with
 | nil=>
  have hm0:m=[]:=by
   cases m with
   | nil=>rfl
   | cons r m=>
    grind
  subst hm0;have:=h a ts (by grind) (Ca.refl _ _);rcases ha with rfl|⟨t,rfl,h1,h2⟩ <;> simp[*]
 | cons c cs=>
  have hmap:m.flatten.map AV.pv=.pv c::cs.map .pv:=by grind
  have hl:(AV.pv c::cs.map .pv).length / k=m.length:=by
   rw[<-hmap,Bx,hfl,Nat.mul_div_cancel _ hk]
  have htp:Cm (AV.pv c::cs.map .pv)=some m.flatten:=by grind[Kf]
  rw[hmap] at hok;simp only[wO,CH,hok,hl,htp,hby];refine⟨Ae,?_⟩;rcases ha with rfl|⟨t,rfl,h1,h2⟩
  .refine⟨⟨hb,Lf,hall⟩,?_⟩
   refine h (.own ts.length (rows++m)) (ts++[(rows.length+m.length,e)]) (.inr ⟨_,rfl,by simp,AI _⟩) ⟨by simp,λt ht _=>?_,.inr ⟨_,rfl,Aa _⟩⟩;rw[Ci ht]
  .refine⟨⟨hb,Lf,h1,by omega,hall⟩,?_⟩
   have hlt:t<ts.length:=(BL.1 h1).1;refine h (.own t (rows++m)) (ts.set t (rows.length+m.length,e)) (.inr ⟨_,rfl,by grind,h2⟩) ⟨by simp,λu hu hn=>?_,.inl rfl⟩;rw[Fz];intro htu;exact hn (by rw[htu]; rfl)
theorem oP (t:Ty):(([Af t].flatten).map AV.pv).all A9=true:=by grind[DK]
theorem Iz {L:A8} {s:AM} {a:AV} {es:List Ty} {t:Ty} {K:AV->AM->Prop} (ha:Dg 0 s.ts 25 a (AW es)) (EU:L.rt=0) (hl:es.length<2 ^ 38) (h:∀a' ts',Dg 0 ts' 25 a' (AW (es++[t]))->Ca a a' s.ts ts'->K a' ⟨s.bs,ts'⟩) :
  Ct false L s 25 4 56 a (.AB [Af t]) K:=by
 have hl':=AR es;have hm:∀r∈[Af t],r.length=4:=by simp[Ac]
 refine Pz (m:=[Af t]) ha EU (λr hr=>Gt hr) hm (by omega) (Db (.inl (.AB _)) hm) (oP t) (by grind) (by grind) λa' ts' h1 h2=>h a' ts' ?_ h2
 grind[FF,AW]
theorem bE {L:A8} {s:AM} {a:AV} {l:List Int} {n:Int} {K:AV->AM->Prop} (ha:Dg 0 s.ts 3 a (AX l)) (EU:L.rt=0) (hl:l.length<2 ^ 40) (h:∀a' ts',Dg 0 ts' 3 a' (AX (l++[n]))->Ca a a' s.ts ts'->K a' ⟨s.bs,ts'⟩) :
  Ct false L s 3 1 8 a (.AB [[.sc (.int .i64 n)]]) K:=by
 have hl':=BV l;have hm:∀r∈[[PV.sc (.int .i64 n)]],r.length=1:=by simp
 refine Pz (m:=[[.sc (.int .i64 n)]]) ha EU DR hm (by omega) (Db (.inl (.AB _)) hm) (by simp) (by grind) (by grind) λa' ts' h1 h2=>h a' ts' ?_ h2
 grind[AX]
theorem bF {rr:Bool} {A:Nat} {c:List AV} {cs ds:List AV} {s0:AM} {bs:List (List AV)} {ts:List (Nat×Nat)} {Post:AV->AM->Prop} (h0:BM s0) (hT:bs.take s0.bs.length=s0.bs.set A c) (hc:Ab s0.bs.length c=true) (Be:AY bs s0.bs.length ts.length cs=some ds) (hP:Post (.agg ds) ⟨s0.bs.set A c,ts⟩):QM rr s0.bs.length Post (.agg cs) ⟨bs,ts⟩:=by
 refine YO (ds:=ds) ?_ Be ?_
 .have:=BM.set h0 hc ts (j:=A)
  rw[Cz];intro b hb;have:=this b (by grind)
  grind
 grind
theorem C6 {bs:List (List AV)} {n j:Nat} {c:List AV} (h:n<=j):(bs.set j c).take n=bs.take n:=by grind[List.take_set,List.set_eq_of_length_le]
theorem BJ.I0 {v:Ty} {cs:List AV} (h:BJ v (.agg cs)) (bs:List (List AV)) (n m:Nat):∃ds,AY bs n m cs=some ds/\BJ v (.agg ds):=by
 obtain⟨k,c,i,ts⟩:=v;obtain⟨a,hcs,ha⟩:=h;cases hcs;obtain⟨a',h1,h2⟩:=ha.close bs n m;exact⟨[AA k,SS c,AA i,a'],by simp[*],⟨a',rfl,h2⟩⟩
abbrev fc (o:List Nat):List Int:=o.map λ(x:Nat)=>(x:Int)
theorem ACs (o:List Nat) {i:Int} (h:0<=i):ixI i (fc o)=match o.findIdx? (·==i.toNat) with
  | some j=>(j:Int)
  | none=>-1:=by
 rw[ixI,List.findIdx?_map];have:((λx:Int=>x==i)∘λx:Nat=>(x:Int))=λx:Nat=>x==i.toNat:=by grind
 grind
section
variable {R:RT}
abbrev bG (P A F:Nat):AV:=.func (.func 91) [] [.ptr P 0,.ptr A 0,.ptr F 0]
structure Uq (P A F e:Nat) (B:List Ty) (bs:List (List AV)):Prop where
 hP:bs[P]?=some [.ptr e 0]
 hF:bs[F]?=some [bG P A F]
 he:∃c cs,bs[e]?=some (c::cs)/\BF c (AW B)
 nP:A≠P
 nF:A≠F
 ne:A≠e
theorem Uq.of {P A F e:Nat} {B:List Ty} {bs bs':List (List AV)} (h:Uq P A F e B bs) (hk:∀j c,j≠A->bs[j]?=some c->bs'[j]?=some c):Uq P A F e B bs':=by
 obtain⟨c,cs,h1,h2⟩:=h.he;exact⟨hk _ _ h.nP.symm h.hP,hk _ _ h.nF.symm h.hF,⟨c,cs,hk _ _ h.ne.symm h1,h2⟩,h.nP,h.nF,h.ne⟩
theorem Uq.tk {P A F e n:Nat} {B:List Ty} {bs bs':List (List AV)} {c:List AV} (h:Uq P A F e B bs) (hT:bs'.take n=bs.set A c):Uq P A F e B bs':=
 h.of λj d hj hd=>B5 hT (by grind)
def vF (R:RT) (P A F N:Nat) (x:AV) (o:List Nat) (t:Ty) (s:AM):Prop:=∀(L:A8) (c:AV),L.ro=0->L.rt=0->s.bs[A]?=some [c]->Dg 0 s.ts 3 c (AX (fc o)) ->
 ∃v s',(∃c' ts' ds,Dg 0 ts' 3 c' (AX (fc (LA N t o).2))/\Ca c c' s.ts ts'/\v=.agg ds/\BJ (ren (LA N t o).1) (.agg ds)/\s'=⟨s.bs.set A [c'],ts'⟩)/\BD (env R) L 91 [x,.ptr P 0,.ptr A 0,.ptr F 0] s v s'
theorem vG {P A F e N:Nat} {B ts:List Ty} (hN:B.length=N) {a:AV} (ha:Aq a (AW (B4 ts))) (hl:ts.length<2 ^ 38) {k i:Int} {n:List UInt8} (hk7:k≠7) {o0:List Nat} {c0:AV} {s0:AM} (hs0:BM s0) (hA:A<s0.bs.length) (hE:Uq P A F e B s0.bs)
  (ih:∀t∈ts,∀(o:List Nat) (s:AM),BM s->Uq P A F e B s.bs->o.length+size t<2 ^ 40->vF R P A F N (.agg ((Af (ren t)).map .pv)) o t s)
  (hlen:∀t∈ts,∀o,(LA N t o).2.length<=o.length+size t) (hb:o0.length+AZ ts<2 ^ 40) {rr:Bool} {Post:AV->AM->Prop}
  (hP:∀c' ts' ds,Dg 0 ts' 3 c' (AX (fc (Gh N ts o0).2))->Ca c0 c' s0.ts ts'->BJ (.mk k n i (B4 (Gh N ts o0).1)) (.agg ds)->Post (.agg ds) ⟨s0.bs.set A [c'],ts'⟩) :
  ∀(j q:Nat) (o:List Nat) (done:List Ty) (bs:List (List AV)) (tk:List (Nat×Nat)) (b c:AV),q+j=ts.length->done++(Gh N (ts.drop q) o).1=(Gh N ts o0).1->(Gh N (ts.drop q) o).2=(Gh N ts o0).2->done.length=q->o.length+AZ (ts.drop q)<=o0.length+AZ ts ->
   BM ⟨bs,tk⟩->bs.take s0.bs.length=s0.bs.set A [c]->bs[s0.bs.length]?=some [AA k,SS n,AA i,a]->bs[s0.bs.length+1]?=some Z4->bs[s0.bs.length+2]?=some [AA k,SS n,AA i,b] ->
   Dg 0 tk 3 c (AX (fc o))->Dg 0 tk 25 b (AW (B4 done))->Ca c0 c s0.ts tk->DL b s0.ts->Q8 c b ->
   kQ R 0 0 0 (.ptr F 0) (.ptr (s0.bs.length+1) 0) (.ptr (s0.bs.length+2) 0) a (AA ts.length) (AA q) ⟨bs,tk⟩ (QM rr s0.bs.length Post):=by
 have UT:=BP ts;intro j
 induction j with
 | zero=>
  intro q o done bs tk b c hi hd1 SE hdl ho hs hT h0 h1 h2 hc ZB hC hfr Ji;refine AEx (Ah ?_);rw[Aw (by omega)];rw[Bu (by omega),Gh,Gd] at hd1;rw[Bu (by omega),Gh] at SE;simp only at hd1 SE;rw[hd1] at ZB;rw[SE] at hc;refine Am (APt (Ad h2 rfl (CL h1 rfl rfl (by decide) (AI _) (by simp[ZB.Ax.ok]) (.inl (AI _)) (Ad (Bf h1) rfl ?_))));obtain⟨ds,c1,c2⟩:=BJ.I0 (v:=.mk k n i (B4 (Gh N ts o0).1)) (cs:=[AA k,SS n,AA i,b]) ⟨b,rfl,ZB.Ax⟩ (bs.set (s0.bs.length+1) [AA k,SS n,AA i,b]) s0.bs.length tk.length;exact bF hs0 ((C6 (by omega)).trans hT) (by simp[Ab,hc.Ax.Ar]) c1 (hP c tk ds hc hC c2)
 | succ j D2=>
  intro q o done bs tk b c hi hd1 SE hdl ho hs hT h0 h1 h2 hc ZB hC hfr Ji;refine AEx (Ah ?_);rw[Ap (by omega)];obtain⟨t,ht⟩:∃t,ts[q]?=some t:=⟨_,Ak (by omega)⟩;have EU:(B4 ts)[q]?=some (ren t):=by grind[Bk]
  have V2:=A2 ht;have hrl:((Af (ren t)).map AV.pv).length=4:=by grind[Ac]
  have hro:=DK (ren t)
  have La:Ab (bs.length+1) ((Af (ren t)).map AV.pv)=true:=by
   obtain⟨k1,n1,i1,t1⟩:=ren t;rfl
  refine A4 (APu (BI ha (row:=Af (ren t)) (by omega) (by simp[*,BE]) (Ac _) (by omega) (Cg (Bt ?_))));have oM:=ih t V2;have hdr:ts.drop q=t::ts.drop (q+1):=drop_cons ht;rw[hdr,Gh] at hd1 SE;rw[hdr,AZ] at ho;generalize (Af (ren t)).map AV.pv=row at hrl hro La oM;refine CL (Ay bs Z4) hrl rfl (by decide) (AI _) hro (.inl (AI _)) ?_;have e:(bs++[Z4]).set bs.length row=bs++[row]:=by simp
  rw[e];have l2:=(BL.1 h2).1;have ND:s0.bs.length<=bs.length:=by omega
  have fY:=(Dy ND row).trans hT;have hs':BM ⟨bs++[row],tk⟩:=BM.app (s:=⟨bs,tk⟩) hs La;have gA:(s0.bs.set A [c])[A]?=some [c]:=by rw[CS (by omega)]
  have gF:(s0.bs.set A [c])[F]?=some [bG P A F]:=by rw[Fz hE.nF]; exact hE.hF
  obtain⟨v,s',⟨c',ts',ds,r1,r2,rfl,r4,rfl⟩,r6⟩:=oM o ⟨bs++[row],tk⟩ hs' (hE.tk fY) (by omega) (Cv (env R) 91 0 0 0) c rfl rfl (B5 fY gA) hc;have g1:=Av h1 row;have g2:=Av h2 row;have g0:=Av h0 row;have qh:((bs++[row]).set A [c'])[s0.bs.length+2]?=some [AA k,SS n,AA i,b]:=BR g2 (by omega);refine AK (AP g2) (AU g2 rfl (AU (Av (B5 hT gF) row) rfl (Ad (Ay bs row) hrl ⟨_,_,r6,FO r4 ⟨by decide,Iz (r2.keep ZB Ji) rfl ?_ ?_⟩⟩)))
  .grind[Bk]
  .intro b' HN hb' KQ
   have er:B4 done++[ren (LA N t o).1]=B4 (done++[(LA N t o).1]):=by simp[Bk]
   rw[er] at hb';refine AK (AP qh) (DD qh (by simp) hb'.Ax.cells (AI _) hb'.Ax.ok (.inl (AI _)) ?_);refine⟨AK (AP qh) (EO _ _),AU qh rfl (HF ZB),APv (BW (by omega) (by omega) ?_)⟩;have AEy:Q8 b c':=(Ji.Ow r2 ZB).symm;have oO:(((bs++[row]).set A [c']).set (s0.bs.length+2) [AA k,SS n,AA i,b']).take s0.bs.length=s0.bs.set A [c']:=by simp[*,C6,EE]
   have hs2:BM ⟨(bs++[row]).set A [c'],ts'⟩:=BM.set (s:=⟨bs++[row],tk⟩) hs' (by simp[Ab,Ar,r1.Ax.Ar]) _;have:=hlen t V2 o
   have fin:=D2 (q+1) (LA N t o).2 (done++[(LA N t o).1]) _ HN b' c' (by omega) (by simp[*]) SE (by grind) (by omega)
    (BM.set (s:=⟨(bs++[row]).set A [c'],ts'⟩) hs2 (by simp[Ab,Ar,hb'.Ax.Ar]) _) oO (BR (BR g0 (by omega)) (by omega)) (BR (BR g1 (by omega)) (by omega)) (Bf qh)
    (KQ.keep r1 AEy) hb' ((hC.trans r2).side KQ hfr) (hfr.Ow KQ (Bq hC.1 r2.1)) (AEy.Ow KQ r1).symm
   grind
end
end Go.Proofs.YtpgfpakdnijngaaGreatDoor
