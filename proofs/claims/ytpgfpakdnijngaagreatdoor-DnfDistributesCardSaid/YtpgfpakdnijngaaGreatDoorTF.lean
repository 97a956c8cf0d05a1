/-
  How many bounds expand notes: every term.
-/
import Derived.Test.YtpgfpakdnijngaaGreatDoorTE
import Derived.Test.YtpgfpakdnijngaaGreatDoorTB
import Derived.Test.YtpgfpakdnijngaaGreatDoorW1
set_option linter.unusedSimpArgs false
set_option linter.unusedVariables false
namespace Go.Proofs.YtpgfpakdnijngaaGreatDoor
open Go.Tel
def PR:Ty->Bool
 | .mk k _ _ _=>!(k==3||k==4||k==6)
def nF (t:Ty):Nat:=bif PR t then 1 else 33*lv t+500
def ex9:List Nat->List Nat->Nat
 | [b,c],[_,f]=>1+c+f*b
 | _,_=>0
mutual
def nb:Ty->Nat
 | .mk k _ _ ts=>bif k==6 then ex9 (fN ts) (ts.map nF) else bif k==3||k==4 then(fN ts).sum else 0
def fN:List Ty->List Nat
 | []=>[]
 | t::l=>nb t::fN l
end
theorem QX:∀ l:List Ty,fN l=l.map nb
 | []=>rfl
 | t::l=>by rw[fN,QX l]; rfl
theorem WR {ex:List Ty->GF} {v a c n:Nat} {B0:List Ty} (hx:ExC v a c B0 ex) (hc:2<=c):∀ (l out B:List Ty),(∀ t∈l,pat t=true/\BF (·==(v:Int)) t<=n)->B0<+:B->out.length<=32 ->
  (∀ r,(CN (AR 32) (BX (AR 32) ex v) l out B).1=some r->(CN (AR 32) (BX (AR 32) ex v) l out B).2.length+a*out.length<=B.length+a*r.length/\r.length<=32) /\
  ((CN (AR 32) (BX (AR 32) ex v) l out B).1=none->(CN (AR 32) (BX (AR 32) ex v) l out B).2.length+a*out.length<=B.length+a*(n+461))
 | [],out,B,_,_,ho=>by
  rw[CN];exact⟨fun r h=>by cases h; exact⟨AL _,ho⟩,fun h=>by cases h⟩
 | t::l,out,B,hl,hB,ho=>by
  obtain⟨t1,t2⟩:=hl t (by simp);have hp:=M4 (Ai:=AR 32) hx.pre v t B;have h33:a*out.length<=a*32:=EO _ ho
  have key:(∀ r,(BX (AR 32) ex v t B).1=some r->r.length<=33/\(BX (AR 32) ex v t B).2.length<=B.length+a*r.length)/\((BX (AR 32) ex v t B).1=none->(BX (AR 32) ex v t B).2.length<=B.length+a*(n+396)):=by
   rw[BX];cases hoc:C6 v true t with
   | true=>
    simp only[AE];exact⟨fun r h=>by cases h; simp,fun h=>by cases h⟩
   | false=>
    simp only[AB];obtain⟨f1,f2⟩:=WQ hx hc _ t B rfl hoc t1 hB;refine⟨fun r h=>?_,fun h=>?_⟩
    ·obtain⟨g1,g2,g3⟩:=f1 r h
     rw[<-g1] at g3;exact⟨by omega,by omega⟩
    ·have:=f2 h
     have e:a*qF (BF (·==(v:Int)) t)<=a*(n+396):=EO _ (by unfold qF; omega);omega
  rw[J3] at key ⊢;rw[CN];rcases hr:BX (AR 32) ex v t B with ⟨_|r,B1⟩
  ·rw[hr] at key
   refine⟨fun r h=>(by cases h),fun _=>?_⟩;have:=key.2 rfl;simp only at this ⊢;omega
  ·rw[hr] at key hp
   obtain⟨k1,k2⟩:=key.1 r rfl;simp only at k2 hp ⊢;have h34:a*r.length<=a*33:=EO _ k1;cases hb:AR 32 (out++r).length with
   | true=>
    refine⟨fun r h=>(by cases h),fun _=>?_⟩;simp only[AE];omega
   | false=>
    simp only[AB];obtain⟨i1,i2⟩:=WR hx hc l (out++r) B1 (fun y hy=>hl y (by simp[hy])) (hB.trans hp) (by simpa[AR] using hb);rw[Ab,J3] at i1 i2;rw[J3] at i2;refine⟨fun s hs=>?_,fun hs=>?_⟩
    ·obtain⟨j1,j2⟩:=i1 s hs
     exact⟨by omega,j2⟩
    ·have:=i2 hs
     omega
theorem bS {ex:List Ty->GF} {v a n:Nat} (ha:∀ B,(ex B).2.length<=B.length+a) (hc:∀ B r,(ex B).1=some r->r.length<=1):∀ (l out B:List Ty),(∀ t∈l,BF (·==(v:Int)) t<=n) ->
  (CN (AR 32) (BX (AR 32) ex v) l out B).2.length<=B.length+a*n*l.length
 | [],out,B,_=>by rw[CN]; exact DT _ _
 | t::l,out,B,hl=>by
  have ht:=hl t (by simp)
  have key:(BX (AR 32) ex v t B).2.length<=B.length+a*n:=by
   rw[BX];cases C6 v true t with
   | true=>exact DT _ _
   | false=>
    have:=bR (Ai:=AR 32) (v:=v) ha hc (BF (·==(v:Int)) t) t B;have e:a*BF (·==(v:Int)) t<=a*n:=EO _ ht;simp only[AB];omega
  rw[CN,A3,Mr];rcases hr:BX (AR 32) ex v t B with ⟨_|r,B1⟩
  ·rw[hr] at key
   simp only at key ⊢;omega
  ·rw[hr] at key
   simp only at key ⊢;cases AR 32 (out++r).length with
   | true=>simp only[AE]; omega
   | false=>
    have:=bS ha hc l (out++r) B1 (fun y hy=>hl y (by simp[hy]));simp only[AB];omega
theorem ri {ex:List Ty->GF} {v a:Nat} (ha:∀ B,(ex B).2.length<=B.length+a) {l:List Ty} (hl:l.length<=1) (hc:∀ t∈l,BF (·==(v:Int)) t<=1) (B:List Ty):(CN (AR 32) (BX (AR 32) ex v) l [] B).2.length<=B.length+a:=by
 rcases l with _|⟨t,_|⟨u,l⟩⟩
 ·rw[CN]
  exact DT _ _
 ·have ht:=hc t (by simp)
  have key:(BX (AR 32) ex v t B).2.length<=B.length+a:=by
   rw[BX];cases C6 v true t with
   | true=>exact DT _ _
   | false=>exact rZ ha _ ht t B
  rw[CN];rcases hr:BX (AR 32) ex v t B with ⟨_|r,B1⟩
  ·rw[hr] at key
   exact key
  ·rw[hr] at key
   simp only at key ⊢;cases AR 32 ([]++r).length with
   | true=>exact key
   | false=>rw[CN]; exact key
 ·simp at hl
theorem mK {b:Ty} {f:Nat} (hv:valid b=true) (hc:Dg 0 b=true) (hs:C7 (bw b)):(∀ B,(Aj (AR 32) f b B).1=none)\/∃ c,∀ B r,(Aj (AR 32) f b B).1=some r->r.length=c:=by
 have h:=ee (Ai:=AR 32) rfl rfl f b [] hv hc HI hs
 have h2:∀ B,Ls (fun B' b p=>∃ φ,Rl false 0 B' B.length B'.length [] b p φ) B (Gi (AR 32) f b) (Aj (AR 32) f b B):=by
  intro B;have:=h B (fun x hx=>by cases hx);rwa [Ek hv hc] at this
 cases hb:Gi (AR 32) f b with
 | none=>
  left
  intro B;have:=h2 B;rw[hb] at this;rcases he:Aj (AR 32) f b B with ⟨_|r,B1⟩
  ·rfl
  ·rw[he] at this
   exact this.elim
 | some l=>
  right
  refine⟨l.length,fun B r hr=>?_⟩;have:=h2 B;rw[hb] at this;rcases he:Aj (AR 32) f b B with ⟨_|r',B1⟩
  ·rw[he] at hr
   cases hr
  ·rw[he] at hr this
   cases hr;exact this.2.length.symm
theorem Yb {ex:Ty->List Ty->GF} {n:Ty->Nat} {lo:Nat}:∀ (l out:List Ty) (ok:Bool) (B:List Ty),(∀ t∈l,∀ B',lo<=B'.length->B'.length<=(ex t B').2.length/\(ex t B').2.length<=B'.length+n t)->lo<=B.length->(FH ex l out ok B).2.length<=B.length+(l.map n).sum
 | [],_,_,B,_,_=>DT _ _
 | t::l,out,ok,B,h,hl=>by
  obtain⟨h0,h1⟩:=h t (by simp) B hl;rw[FH,CI,Gq];rcases hr:ex t B with ⟨_|r,B1⟩
  ·rw[hr] at h1 h0
   simp only at h1 h0 ⊢;have:=Yb l out false B1 (fun a ha=>h a (by simp[ha])) (by omega);omega
  ·rw[hr] at h1 h0
   simp only at h1 h0 ⊢;have:=Yb l (out++r) ok B1 (fun a ha=>h a (by simp[ha])) (by omega);omega
theorem jt {ex:Ty->List Ty->GF} {n:Ty->Nat} {lo:Nat}:∀ (l:List Ty) (out:List (List Ty)) (B:List Ty),(∀ t∈l,∀ B',lo<=B'.length->B'.length<=(ex t B').2.length/\(ex t B').2.length<=B'.length+n t)->lo<=B.length->(Er ex l out B).2.length<=B.length+(l.map n).sum
 | [],_,B,_,_=>DT _ _
 | t::l,out,B,h,hl=>by
  obtain⟨h0,h1⟩:=h t (by simp) B hl;rw[Er,CI,Gq];rcases hr:ex t B with ⟨_|r,B1⟩
  ·rw[hr] at h1 h0
   simp only at h1 h0 ⊢;omega
  ·rw[hr] at h1 h0
   simp only at h1 h0 ⊢;have:=jt l (out++[r]) B1 (fun a ha=>h a (by simp[ha])) (by omega);omega
theorem EX {a b:Nat} (h:C7 b) (hl:a<=b):C7 a:=by
 unfold C7 at *;omega
theorem zX (σ:List Nat) (t:Ty) (u:Nat) (hv:valid t=true):nF (inst σ u t)=nF t:=by
 have h:=R5 σ t u hv
 have:PR (inst σ u t)=PR t:=by
  obtain⟨k,n,i,ts⟩:=t;rcases D5 σ u hv with ⟨rfl,rfl,rfl,h0,h1,⟨v,h2,h3⟩|h3⟩|⟨b5,h3⟩ <;> rw[h3] <;> rfl
 rw[nF,nF,h,this]
mutual
theorem Yc (σ:List Nat):∀ (t:Ty) (u:Nat),valid t=true->nb (inst σ u t)=nb t
 | .mk k n i ts,u,hv=>by
  rcases D5 σ u hv with ⟨rfl,rfl,rfl,h0,h1,⟨v,h2,h3⟩|h3⟩|⟨b5,h3⟩
  ·rw[h3]
   rfl
  ·rw[h3]
  ·simp only[valid,AG] at hv
   obtain⟨e1,e2⟩:=bT σ ts u k 0 hv.2;rw[h3,nb,nb,e1,e2]
theorem bT (σ:List Nat):∀ (l:List Ty) (u:Nat) (k:Int) (j:Nat),Bw l=true->fN (C5 σ u k j l)=fN l/\(C5 σ u k j l).map nF=l.map nF
 | [],_,_,_,_=>⟨rfl,rfl⟩
 | t::l,u,k,j,hv=>by
  simp only[Bw,AG] at hv;obtain⟨e1,e2⟩:=bT σ l u k (j+1) hv.2;rw[C5,fN,fN,Yc σ t _ hv.1,e1,CI,CI,zX σ t _ hv.1,e2];exact⟨rfl,rfl⟩
end
theorem zY {f:Nat} {b:Ty} {v:Nat} {B0:List Ty} (hv:valid b=true) (hc:Dg 0 b=true) (hs:C7 (bw b)) (hvB:v<B0.length) (ha:∀ B,(Aj (AR 32) f b B).2.length<=B.length+nb b) {l:List Ty} (hl:l.length<=32) {n:Nat} (hn:∀ t∈l,pat t=true/\BF (·==(v:Int)) t<=n) {B:List Ty} (hB:B0<+:B) :
  (CN (AR 32) (BX (AR 32) (Aj (AR 32) f b) v) l [] B).2.length<=B.length+(33*n+500)*nb b:=by
 have few:(∀ B r,(Aj (AR 32) f b B).1=some r->r.length<=1)->(CN (AR 32) (BX (AR 32) (Aj (AR 32) f b) v) l [] B).2.length<=B.length+(33*n+500)*nb b:=by
  intro h;have h1:=bS (v:=v) (n:=n) ha h l [] B (fun t ht=>(hn t ht).2);have h2:nb b*n*l.length<=nb b*n*32:=EO _ hl;have h3:nb b*n*32=32*n*nb b:=by rw[IE (nb b) n,Ra,IE (nb b) 32,<-Ra,IE n 32]
  have h4:32*n*nb b<=(33*n+500)*nb b:=CB _ (by omega);omega
 rcases mK (f:=f) hv hc hs with h|⟨c,h⟩
 ·exact few fun B r hr=>by rw[h B] at hr; cases hr
 ·rcases CU c 2 with h1|h1
  ·exact few fun B r hr=>by have:=h B r hr; omega
  ·have hx:ExC v (nb b) c B0 (Aj (AR 32) f b):=by
    refine⟨fun B=>HQ f b B,ha,fun B r hB hr=>⟨h B r hr,fun x hx=>?_⟩⟩;obtain⟨_,h2⟩:=(rW (Ao:=32) (M:=(Aj (AR 32) f b B).2.length) (f:=f) hv hc hvB).res B r hB hr (AL _);obtain⟨_,h3,h4,_,h5⟩:=h2 x hx;exact⟨h4,h3 true,h5⟩
   obtain⟨i1,i2⟩:=WR hx h1 (n:=n) l [] B hn hB (by simp);simp only[BV,XI,Dq] at i1 i2;rw[IE (33*n+500)];cases ho:(CN (AR 32) (BX (AR 32) (Aj (AR 32) f b) v) l [] B).1 with
   | none=>
    have:=i2 ho;have h4:nb b*(n+461)<=nb b*(33*n+500):=EO _ (by omega);exact Bh this (Nat.add_le_add_left h4 _)
   | some r=>
    obtain⟨j1,j2⟩:=i1 r ho;have h4:nb b*r.length<=nb b*(33*n+500):=EO _ (by omega);exact Bh j1 (Nat.add_le_add_left h4 _)
theorem zZ:∀ (f:Nat) (t:Ty) (σ:List Nat) (B:List Ty),valid t=true->Dg σ.length t=true->C7 (bw t)->(∀ x∈σ,x<B.length)->(Aj (AR 32) f (inst σ 0 t) B).2.length<=B.length+nb t:=by
 intro f
 induction f with
 | zero=>
  intro t σ B _ _ _ _;rw[Aj];exact DT _ _
 | succ f ih=>
  intro t σ B hv hc hs hσ;obtain⟨k,n,i,ts⟩:=t;have hf:=fun t B=>Jg (Ai:=AR 32) f t B
  have P5:=hv;simp only[valid,AG] at hv
  have part:∀ (hk:k≠6) (bF:k≠5),(∀ t∈ts,C7 (bw t))->∀ t∈ts.map (inst σ 0),∀ B':List Ty,B.length<=B'.length->B'.length<=(Aj (AR 32) f t B').2.length/\(Aj (AR 32) f t B').2.length<=B'.length+nb t:=by
   intro hk bF nV t ht B' hl;obtain⟨t0,Y6,rfl⟩:=Bb.1 ht;rw[Yc σ t0 0 (Cv hv.2 Y6)];exact⟨hf _ B',ih t0 σ B' (Cv hv.2 Y6) (Hz hk (EK hc bF) Y6) (nV t0 Y6) (fun x hx=>GN (hσ x hx) hl)⟩
  have emap:(ts.map (inst σ 0)).map nb=ts.map nb:=by
   rw[OL];exact IG fun t ht=>Yc σ t 0 (Cv hv.2 ht)
  rcases D5 σ 0 P5 with ⟨rfl,rfl,rfl,_,_,⟨x,h2,h3⟩|h3⟩|⟨b5,h3⟩
  ·rw[h3,Aj]
   exact DT _ _
  ·rw[h3,Aj]
   exact DT _ _
  ·rw[h3,Aj]
   cases h0:k==0||k==2||k==7 with
   | true=>exact DT _ _
   | false=>
    simp only[AB];cases h4:k==4 with
    | true=>
     have hk:k=4:=by simpa using h4
     subst hk
     have nV:∀ t∈ts,C7 (bw t):=fun t ht=>EX hs (by
      rw[bw,Hy];exact FX (Ed (f:=bw) ht))
     have:=Yb (ex:=Aj (AR 32) f) (n:=nb) (lo:=B.length) (ts.map (inst σ 0)) [] true B (part (by decide) (by decide) nV) (AL _);rw[emap] at this;rw[FB (k:=4) (by decide),nb,QX];simp only[AE];generalize FH (Aj (AR 32) f) (ts.map (inst σ 0)) [] true B=o at this ⊢;obtain⟨⟨out,ok⟩,B1⟩:=o;exact this
    | false=>
     simp only[AB];cases LS:k==3 with
     | true=>
      have hk:k=3:=by simpa using LS
      subst hk
      have nV:∀ t∈ts,C7 (bw t):=fun t ht=>EX hs (by
       rw[bw,Hy];exact FX (Ed (f:=bw) ht))
      have:=jt (ex:=Aj (AR 32) f) (n:=nb) (lo:=B.length) (ts.map (inst σ 0)) [] B (part (by decide) (by decide) nV) (AL _);rw[emap] at this;rw[FB (k:=3) (by decide),nb,QX];simp only[AE];generalize Er (Aj (AR 32) f) (ts.map (inst σ 0)) [] B=o at this ⊢;rcases o with ⟨_|ls,B1⟩
      ·exact this
      ·simp only
       cases ls.any List.isEmpty with
       | true=>exact this
       | false=>
        simp only[AB];cases DG (AR 32) ls [[]] with
        | none=>exact this
        | some all=>exact this
     | false=>
      simp only[AB];cases Ux:k==6 with
      | false=>exact DT _ _
      | true=>
       have:k=6:=by simpa using Ux
       subst this;rcases O8 hv.1 with h' | h' | h' | h' | h' | h' | ⟨_,rfl,rfl,b,body,rfl,hcb⟩
       iterate 6 exact absurd h' (by simp)
       simp only[Bw,AG] at hv;obtain⟨_,RB,cy,_⟩:=hv;have eb:inst σ (0+HF 6 0) b=b:=JF σ b 0 RB hcb
       have rH:Dg (1+σ.length) body=true:=by
        have:=EK hc (by decide);simp only[Eg,AG] at this;have h2:=this.2.1;rw[Eb];exact h2
       have Uz:sub B.length 0 (inst σ 1 body)=inst (B.length::σ) 0 body:=Kq B.length σ body 0 cy (by simpa[Eb] using rH);have e1:inst σ (0+HF 6 (0+1)) body=inst σ 1 body:=rfl;simp only[AE,C5,eb,Zn];rw[e1,Uz];have hbw:bw (.mk 6 [] 0 [b,body])=bw body+1+(cv body+1)*bw b:=rfl
       have pG:C7 (bw b):=EX hs (by
        have:1*bw b<=(cv body+1)*bw b:=CB _ (by omega);omega)
       have hsy:C7 (bw body):=EX hs (by omega)
       have hab:∀ B',(Aj (AR 32) f b B').2.length<=B'.length+nb b:=fun B'=>by
        have:=ih b [] B' RB hcb pG (fun x hx=>by cases hx);rwa [Ek RB hcb] at this
       have hσ':∀ x∈B.length::σ,x<(B++[b]).length:=fun x hx=>by
        rw[Ab,A3,BV];rcases Av.1 hx with rfl|hx
        ·omega
        ·have:=hσ x hx
         omega
       have AJf:Dg (B.length::σ).length body=true:=by rw[A3,Eb]; exact rH
       have hay:=ih body (B.length::σ) (B++[b]) cy AJf hsy hσ';rw[Ab,A3,BV] at hay;have enb:nb (.mk 6 [] 0 [b,body])=1+nb body+nF body*nb b:=rfl;rw[enb];have hpy:=HQ (Ai:=AR 32) f (inst (B.length::σ) 0 body) (B++[b]);have hcn:=fun M l=>bQ (Ai:=AR 32) f body (B.length::σ) (B++[b]) M B.length l cy AJf (by simp) hσ'
       have hpt:=fun l=>PK (Ai:=AR 32) f (inst (B.length::σ) 0 body) (B++[b]) l (Ky (B.length::σ) body 0 cy).2.2.2
       have hbg:=fun l=>Kv (Ai:=AR 32) (by simp[AR]) f (inst (B.length::σ) 0 body) (B++[b]) l
       have hlf:PR body=true->∀ l,(Aj (AR 32) f (inst (B.length::σ) 0 body) (B++[b])).1=some l->l.length<=1/\lv body<=1:=by
        intro hl l hr;obtain⟨k',n',i',ts'⟩:=body;simp only[PR,Fq,FM] at hl;obtain⟨⟨l3,l4⟩,l6⟩:=hl;refine⟨?_,?_⟩
        ·cases f with
         | zero=>cases hr
         | succ f=>
          obtain⟨k2,n2,i2,N2,e2,m3,m4,m6⟩:∃ k2 n2 i2 N2,inst (B.length::σ) 0 (.mk k' n' i' ts')=.mk k2 n2 i2 N2/\(k2==3)=false/\(k2==4)=false/\(k2==6)=false:=by
           rcases D5 (B.length::σ) 0 cy with ⟨rfl,rfl,rfl,_,_,⟨x,_,h3⟩|h3⟩|⟨_,h3⟩
           ·exact⟨_,_,_,_,h3,rfl,rfl,rfl⟩
           ·exact⟨_,_,_,_,h3,rfl,rfl,rfl⟩
           ·exact⟨_,_,_,_,h3,l3,l4,l6⟩
          rw[e2,Aj,m3,m4,m6] at hr;simp only[AB] at hr;cases hq:k2==0||k2==2||k2==7 with
          | true=>
           rw[hq] at hr;have hr:(bif AR 32 1 then none else some [Ty.mk k2 n2 i2 N2])=some l:=hr;cases hb:AR 32 1 with
           | true=>rw[hb] at hr; cases hr
           | false=>rw[hb] at hr; cases hr; simp
          | false=>
           rw[hq] at hr;have hr:(bif AR 32 0 then none else some ([]:List Ty))=some l:=hr;cases hb:AR 32 0 with
           | true=>rw[hb] at hr; cases hr
           | false=>rw[hb] at hr; cases hr; simp
        ·rw[lv,l3,l4,l6]
         cases k'==7||k'==5 <;> simp
       generalize Aj (AR 32) f (inst (B.length::σ) 0 body) (B++[b])=o at hay hpy hcn hpt hbg hlf ⊢;rcases o with ⟨_|l,B1⟩
       ·simp only at hay ⊢
        omega
       ·simp only at hay hpy hcn hpt hbg hlf ⊢
        have APB:l.length<=32:=by simpa[AR] using hbg l rfl
        have ZQ:(CN (AR 32) (BX (AR 32) (Aj (AR 32) f b) B.length) l [] B1).2.length<=B1.length+nF body*nb b:=by
         cases hlb:PR body with
         | true=>
          obtain⟨q1,q2⟩:=hlf hlb l rfl;rw[nF,hlb];have:=ri (v:=B.length) hab q1 (fun t ht=>Bh (hcn B1.length l rfl (AL _) t ht) q2) B1;simpa using this
         | false=>
          rw[nF,hlb];exact zY RB hcb pG (B0:=B++[b]) (by simp) hab APB (fun t ht=>⟨hpt l rfl t ht,hcn B1.length l rfl (AL _) t ht⟩) hpy
        generalize CN (AR 32) (BX (AR 32) (Aj (AR 32) f b) B.length) l [] B1=o2 at ZQ ⊢;rcases o2 with ⟨_|out,B2⟩
        ·simp only at ZQ ⊢
         omega
        ·simp only at ZQ ⊢
         omega
theorem IA:∀ {l:List Ty} {a:Ty},a∈l->depth a<=EJ l
 | b::l,a,h=>by
  simp only[EJ];rcases Av.1 h with rfl|h
  ·omega
  ·have:=IA h
   omega
section
variable {R:RT}
theorem rj {e Ao M f:Nat} (JI:Ao<2 ^ 20) {n:List UInt8} {i:Int} {ts:List Ty} (hl:ts.length<2 ^ 36) {B:List Ty}
  (ih:∀ t∈ts,∀ B',B<+:B'->(Aj (AR Ao) f t B').2.length<=M->∀ x,Ba (ren t) x->∀ s,B9 s->WA R e Ao 44 [x] (Aj (AR Ao) f t B') B' s)
  (hM:(L1 Ao (Aj (AR Ao) f) ts B).2.length<=M) {x:AV} (hx:Ba (ren (.mk 3 n i ts)) x) {s:AK} (hs:B9 s):WA R e Ao 44 [x] ((match (L1 Ao (Aj (AR Ao) f) ts B).1 with
   | none=>none
   | some l=>bif AR Ao l.length then none else some l),(L1 Ao (Aj (AR Ao) f) ts B).2) B s:=by
 intro L d hro Fz hE hd;have le:=(Ae.1 hE).1;have same:s.bs.set e [d,AD Ao]=s.bs:=by rw[<-(Ae.1 hE).2]; exact HJ _
 have zU:=hx;rw[Gt _ _ _ _ (by decide)] at hx;obtain⟨a,rfl,ha⟩:=hx;obtain⟨_,_,hxi⟩:=zU.cells;refine m44 (by simp[BN,Dl]) ?_;rw[hro,Fz];have g0:=Ay s.bs [AD 3,SS n,AD i,a];have gE:=A6 hE [AD 3,SS n,AD i,a];have hT:(s.bs++[[AD 3,SS n,AD i,a]]).take s.bs.length=s.bs.set e [d,AD Ao]:=by rw[same]; simp
 have hok:B9 ⟨s.bs++[[AD 3,SS n,AD i,a]],s.ts⟩:=B9.app (s:=s) hs (hxi _);refine Me ha false rfl (bN (BQ (CC (BQ (CC (BZ ?_))))));generalize s.bs++[[AD 3,SS n,AD i,a]]=bs at g0 gE hT hok;obtain⟨w,s',⟨d3,RE,q1,q2,q3,rfl⟩,q4⟩:=zS (R:=R) (e:=e) JI (fun t B=>HQ f t B) (fun t _ B r h=>by simpa[AR] using Kv (Ai:=AR Ao) (by simp[AR]) f t B r h) ha hl ih (CW B) hM hok (Ca (env R) 44 0 0 0) d rfl rfl gE hd;have jh:(bs.set e [d3,AD Ao]).take s.bs.length=s.bs.set e [d3,AD Ao]:=by rw[Gz (c:=[d3,AD Ao]) hT,E3]
 have gE3:(bs.set e [d3,AD Ao])[e]?=some [d3,AD Ao]:=DH gE;refine Aq (A7 g0) (Ax (off:=3) g0 rfl ⟨_,_,q4,?_⟩);generalize L1 Ao (Aj (AR Ao) f) ts B=o at q1 q2;obtain⟨r,B2⟩:=o;cases r with
 | none=>
  cases q1;exact Bq rfl (Bq rfl (R4 (FE hs jh (q2.BG.Aa _) (r:=none) rfl fun w hw=>⟨d3,RE,hw,q2,q3,rfl⟩)))
 | some out=>
  obtain⟨a5,rfl,ha5⟩:=q1;exact Bq rfl (Bq rfl (bL ha5 gE3 fun w hw=>FE hs jh (q2.BG.Aa _) hw fun w hw=>⟨d3,RE,hw,q2,q3,rfl⟩))
theorem rm {e Ao M f:Nat} {n:List UInt8} {i:Int} {ts:List Ty} (hl:ts.length*Ao<2 ^ 38) (Oc:ts.length<2 ^ 38) {B:List Ty}
  (ih:∀ t∈ts,∀ B',B<+:B'->(Aj (AR Ao) f t B').2.length<=M->∀ x,Ba (ren t) x->∀ s,B9 s->WA R e Ao 44 [x] (Aj (AR Ao) f t B') B' s)
  {out:List Ty} {ok:Bool} {B1:List Ty} (ho:FH (Aj (AR Ao) f) ts [] true B=((out,ok),B1)) (hM:B1.length<=M) {x:AV} (hx:Ba (ren (.mk 4 n i ts)) x) {s:AK} (hs:B9 s):WA R e Ao 44 [x] ((bif ok&&!AR Ao out.length then some out else none),B1) B s:=by
 intro L d hro Fz hE hd;have le:=(Ae.1 hE).1;have same:s.bs.set e [d,AD Ao]=s.bs:=by rw[<-(Ae.1 hE).2]; exact HJ _
 have zU:=hx;rw[Gt _ _ _ _ (by decide)] at hx;obtain⟨a,rfl,ha⟩:=hx;obtain⟨_,_,hxi⟩:=zU.cells;refine m44 (by simp[BN,Dl]) ?_;rw[hro,Fz];have g0:=Ay s.bs [AD 4,SS n,AD i,a];have gE:=A6 hE [AD 4,SS n,AD i,a];have hT:(s.bs++[[AD 4,SS n,AD i,a]]).take s.bs.length=s.bs.set e [d,AD Ao]:=by rw[same]; simp
 have hok:B9 ⟨s.bs++[[AD 4,SS n,AD i,a]],s.ts⟩:=B9.app (s:=s) hs (hxi _);refine Me ha false rfl (bN (BQ (CC (BZ ?_))));have OH:s.bs.length<=(s.bs++[[AD 4,SS n,AD i,a]]).length:=by simp
 generalize s.bs++[[AD 4,SS n,AD i,a]]=bs at g0 gE hT hok OH;refine Aq (A7 g0) (Ax (off:=3) g0 rfl (BS (n:=ts.length) (by rw[ha.Bk,Ad,Bf,AZ]) ?_));refine zT (R:=R) (M:=M) (fun t B=>HQ f t B) (fun t _ B r h=>by simpa[AR] using Kv (Ai:=AR Ao) (by simp[AR]) f t B r h) ha hl Oc ih le (o:=((out,ok),B1)) hM ?_ ts.length 0 [] true B bs s.ts d (.AA []) (by omega) (by simpa using ho) (CW B) (by simp) hok hT OH hd (.inl rfl) (Ew.refl _ _) (ES.AA _ _) (RR.AA _ _);intro b2 tk d2 acc hs2 RD Ru hch hacc;have gE2:b2[e]?=some [d2,AD Ao]:=Dh RD (by rw[EA le]);cases ok with
 | false=>exact R4 (FE hs RD (Ru.BG.Aa _) (r:=none) rfl fun w hw=>⟨d2,tk,hw,Ru,hch,rfl⟩)
 | true=>
  refine bL hacc gE2 fun w hw=>FE hs RD (Ru.BG.Aa _) hw fun w hw=>⟨d2,tk,?_,Ru,hch,rfl⟩
  cases hb:AR Ao out.length <;> rw[hb] at hw <;> exact hw
theorem bU (hn:TC R) {e Ao M:Nat} (XS:1<=Ao) (JI:Ao<2 ^ 20) (hM:M<2 ^ 37):∀ (f:Nat) (t:Ty) (σ:List Nat),depth t<=f->valid t=true->Dg σ.length t=true->wt t<2 ^ 37->size t<2 ^ 18->∀ (B:List Ty),(∀ x∈σ,x<B.length) ->
  (Aj (AR Ao) f (inst σ 0 t) B).2.length<=M->∀ x,Ba (ren (inst σ 0 t)) x->∀ s,B9 s->WA R e Ao 44 [x] (Aj (AR Ao) f (inst σ 0 t) B) B s:=by
 intro f
 induction f with
 | zero=>
  intro t σ hd;obtain⟨k,n,i,ts⟩:=t;simp[depth] at hd
 | succ f ih=>
  intro t σ hdp hv hc hw hsz B hσ Tf x hx s hs;obtain⟨k,n,i,ts⟩:=t;have P5:=hv;simp only[valid,AG] at hv;have hb0:AR Ao 0=false:=by simp[AR]
  have NF:AR Ao 1=false:=by simp[AR]; omega
  have hinv:=D5 σ 0 P5;simp only[depth] at hdp;simp only[size] at hsz
  have leaf:∀ (T:Ty) (k' i':Int) (n':List UInt8) (ts':List Ty),ren T=.mk k' n' i' ts'->(k'==0||k'==2)=true->∀ x,Ba (ren T) x->WA R e Ao 44 [x] (some [T],B) B s:=by
   intro T k' i' n' ts' hT hk x hx L d hro Fz hE hd;have same:s.bs.set e [d,AD Ao]=s.bs:=by rw[<-(Ae.1 hE).2]; exact HJ _
   rw[hT] at hx;obtain⟨a,rfl,ha⟩:=hx;refine m44 (by simp[BN,Dl]) ?_;rw[hro,Fz];refine zV hT hk ha hE fun w hw=>?_
   rw[NF] at hw;exact FE hs (by rw[same]; simp) (hd.BG.Aa _) hw fun w hw=>⟨d,s.ts,hw,hd,Ew.refl _ _,rfl⟩
  have rest:∀ (k' i':Int) (n':List UInt8) (ts':List Ty),k'≠0->k'≠2->k'≠3->k'≠4->k'≠6->∀ x,Ba (.mk k' n' i' ts') x->WA R e Ao 44 [x] (some [],B) B s:=by
   intro k' i' n' ts' h0 h2 h3 h4 h6 x hx L d hro Fz hE hd;have same:s.bs.set e [d,AD Ao]=s.bs:=by rw[<-(Ae.1 hE).2]; exact HJ _
   obtain⟨a,rfl,ha⟩:=hx;refine m44 (by simp[BN,Dl]) ?_;rw[hro,Fz];refine zW ha h0 h2 h3 h4 h6 hE fun w hw=>?_
   exact FE hs (by rw[same]; simp) (hd.BG.Aa _) hw fun w hw=>⟨d,s.ts,hw,hd,Ew.refl _ _,rfl⟩
  have mem:∀ (hk:k≠6) (bF:k≠5),(∀ t∈ts,wt t<2 ^ 37)->∀ t∈ts.map (inst σ 0),∀ B',B<+:B'->(Aj (AR Ao) f t B').2.length<=M->∀ x,Ba (ren t) x->∀ s,B9 s->WA R e Ao 44 [x] (Aj (AR Ao) f t B') B' s:=by
   intro hk bF hwt t ht B' hB' Y3 x hx s hs;obtain⟨t0,Y6,rfl⟩:=Bb.1 ht;have:=IA Y6;have:=Ig Y6;exact ih t0 σ (by omega) (Cv hv.2 Y6) (Hz hk (EK hc bF) Y6) (hwt t0 Y6) (by omega) B' (fun y hy=>GN (hσ y hy) hB'.length_le) Y3 x hx s hs
  have hts:=Cq ts;have rq:∀ {l:List Nat} {a:Nat},a∈l->a<=l.sum:=fun h=>FX h
  rcases O8 hv.1 with ⟨rfl,rfl,rfl,rfl⟩|⟨rfl,rfl,rfl,rfl⟩|rfl|⟨rfl,rfl,rfl⟩|⟨rfl,rfl,rfl,hne⟩|⟨rfl,rfl,rfl,h0⟩|⟨rfl,rfl,rfl,b,body,rfl,hcb⟩
  ·have eo:Aj (AR Ao) (f+1) (inst σ 0 (.mk 0 [] 0 [])) B=(some [inst σ 0 (.mk 0 [] 0 [])],B):=by
    rw[inst,C5];simp only[show((0:Int)==5)=false from rfl,AB];rw[Aj];simp[NF]
   rw[eo];exact leaf _ 0 0 [] [] rfl rfl x hx
  ·have eo:Aj (AR Ao) (f+1) (inst σ 0 (.mk 1 [] 0 [])) B=(some [],B):=by
    rw[inst,C5];simp only[show((1:Int)==5)=false from rfl,AB];rw[Aj];simp[hb0]
   rw[eo];exact rest 1 0 [] [] (by decide) (by decide) (by decide) (by decide) (by decide) x hx
  ·have e1:inst σ 0 (.mk 2 n i ts)=.mk 2 n i (C5 σ 0 2 0 ts):=by rw[inst]; rfl
   have eo:Aj (AR Ao) (f+1) (inst σ 0 (.mk 2 n i ts)) B=(some [inst σ 0 (.mk 2 n i ts)],B):=by
    rw[e1,Aj];simp[NF]
   rw[eo];exact leaf _ 2 i n _ (by rw[e1,Gt _ _ _ _ (by decide)]) rfl x hx
  ·have e1:inst σ 0 (.mk 3 [] 0 ts)=.mk 3 [] 0 (ts.map (inst σ 0)):=by rw[inst,<-FB (k:=3) (by decide) σ ts 0]; rfl
   rw[e1] at hx Tf ⊢
   have et:Aj (AR Ao) (f+1) (.mk 3 [] 0 (ts.map (inst σ 0))) B=((match (L1 Ao (Aj (AR Ao) f) (ts.map (inst σ 0)) B).1 with
     | none=>none
     | some l=>bif AR Ao l.length then none else some l),(L1 Ao (Aj (AR Ao) f) (ts.map (inst σ 0)) B).2):=by
    rw[Aj,L1];simp only[show((3:Int)==0)=false from rfl,show((3:Int)==2)=false from rfl,show((3:Int)==7)=false from rfl,show((3:Int)==4)=false from rfl,Fu,AB,BH,AE];rcases Er (Aj (AR Ao) f) (ts.map (inst σ 0)) [] B with ⟨_|ls,B1⟩
    ·rfl
    ·simp only
     cases ls.any List.isEmpty with
     | true=>simp[hb0]
     | false=>
      simp only[AB];cases DG (AR Ao) ls [[]] with
      | none=>rfl
      | some all=>simp
   rw[et] at Tf ⊢;refine rj JI (by rw[AZ]; omega) (mem (by decide) (by decide) fun t ht=>?_) Tf hx hs;rw[wt] at hw;simp only[show((3:Int)==6)=false from rfl,AB,BH,D0,AE,Lf] at hw;have:=rq (Ed (f:=wt) ht);omega
  ·have e1:inst σ 0 (.mk 4 [] 0 ts)=.mk 4 [] 0 (ts.map (inst σ 0)):=by rw[inst,<-FB (k:=4) (by decide) σ ts 0]; rfl
   rw[e1] at hx Tf ⊢;rcases hu:FH (Aj (AR Ao) f) (ts.map (inst σ 0)) [] true B with ⟨⟨out,ok⟩,B1⟩
   have et:Aj (AR Ao) (f+1) (.mk 4 [] 0 (ts.map (inst σ 0))) B=((bif ok&&!AR Ao out.length then some out else none),B1):=by
    rw[Aj];simp only[show((4:Int)==0)=false from rfl,show((4:Int)==2)=false from rfl,show((4:Int)==7)=false from rfl,Fu,AB,BH,AE,hu]
   rw[et] at Tf ⊢;have hmul:ts.length*Ao<=ts.length*2 ^ 20:=EO _ (by omega);refine rm (by rw[AZ]; omega) (by rw[AZ]; omega) (mem (by decide) (by decide) fun t ht=>?_) hu Tf hx hs;rw[wt] at hw;simp only[show((4:Int)==6)=false from rfl,AB,BH,EN,AE,Lf] at hw;have:=rq (Ed (f:=wt) ht);omega
  ·rcases hinv with ⟨_,_,_,_,_,⟨v,h2,h3⟩|h3⟩|⟨h3,_⟩
   ·have eo:Aj (AR Ao) (f+1) (inst σ 0 (.mk 5 [] i [])) B=(some [inst σ 0 (.mk 5 [] i [])],B):=by
     rw[h3,Aj];simp[NF]
    rw[eo];exact leaf _ 2 0 (36::GH v) [] (by rw[h3,ren]; rfl) rfl x hx
   ·have eo:Aj (AR Ao) (f+1) (inst σ 0 (.mk 5 [] i [])) B=(some [],B):=by
     rw[h3,Aj];simp[hb0]
    rw[eo];rw[h3,Gt _ _ _ _ (by decide)] at hx;exact rest 5 i [] _ (by decide) (by decide) (by decide) (by decide) (by decide) x hx
   ·cases h3
  ·simp only[Bw,AG] at hv
   obtain⟨_,RB,cy,_⟩:=hv
   have e1:inst σ 0 (.mk 6 [] 0 [b,body])=.mk 6 [] 0 [b,inst σ 1 body]:=by
    rw[inst];simp only[show((6:Int)==5)=false from rfl,AB,C5];have:inst σ (0+HF 6 0) b=b:=JF σ b 0 RB hcb;rw[this];rfl
   have rH:Dg (1+σ.length) body=true:=by
    have:=EK hc (by decide);simp only[Eg,AG] at this;have h2:=this.2.1;rw[Eb];exact h2
   rw[e1] at hx Tf ⊢
   have et:Aj (AR Ao) (f+1) (.mk 6 [] 0 [b,inst σ 1 body]) B=mI Ao (Aj (AR Ao) f) b (inst σ 1 body) B:=by
    rw[Aj,mI];simp only[show((6:Int)==0)=false from rfl,show((6:Int)==2)=false from rfl,show((6:Int)==7)=false from rfl,show((6:Int)==4)=false from rfl,show((6:Int)==3)=false from rfl,Fu,AB,BH,AE,Zn];rcases Aj (AR Ao) f (sub B.length 0 (inst σ 1 body)) (B++[b]) with ⟨_|l,B1⟩
    ·rfl
    ·simp only
     rcases CN (AR Ao) (BX (AR Ao) (Aj (AR Ao) f b) B.length) l [] B1 with ⟨_|out,B2⟩ <;> rfl
   rw[et] at Tf ⊢;simp only[EJ] at hdp;simp only[Ac] at hsz;rw[wt] at hw;simp only[BH,AE,Vv,Lt,wx] at hw
   have hwb:wt b<2 ^ 37/\wt body<2 ^ 37:=by
    have p3:1*wt b<=max 1 (cv body)*wt b:=CB _ (by omega);omega
   refine mJ hn JI hM RB hcb cy rH (by omega) hw hσ ?_ ?_ Tf hx hs
   ·intro B' Y3 x hx s hs
    have:=ih b [] (by omega) RB hcb hwb.1 (by omega) B' (fun y hy=>by cases hy);rw[Ek RB hcb] at this;exact this Y3 x hx s hs
   ·intro Y3 x hx s hs
    exact ih body (B.length::σ) (by omega) cy (by rw[A3,Eb]; exact rH) hwb.2 (by omega) (B++[b]) (fun y hy=>by
     rw[Ab,A3,BV];rcases Av.1 hy with rfl|hy
     ·omega
     ·have:=hσ y hy
      omega) Y3 x hx s hs
end
theorem ru:∀ (n:Nat) (l:List Int),l.Nodup->(∀ i∈l,0<=i/\i<(n:Int))->l.length<=n:=by
 intro n
 induction n with
 | zero=>
  intro l _ h;cases l with
  | nil=>simp
  | cons a l=>
   have:=h a (by simp);omega
 | succ n ih=>
  intro l hn h
  by_cases hm:(n:Int)∈l
  ·have h1:=ih (l.erase (n:Int)) (hn.erase _) (fun i hi=>by
    have h2:=(hn.mem_erase_iff).1 hi;have h3:=h i h2.2;have h4:=h2.1;omega)
   have h2:=List.length_erase_of_mem hm;omega
  ·have:=ih l hn (fun i hi=>by
    have h3:=h i hi;have:i≠n:=fun e=>hm (e ▸ hi)
    omega)
   omega
theorem Rl.ju {B:List Ty} {lo hi:Nat} {b:Br} {p:Ty} {φ:List Nat} (H:Rl false 0 B lo hi [] b p φ):(occs b.body []).length<=φ.length:=by
 refine ru _ _ (Lc b.body [] HI) fun i hi=>?_
 rcases MY b.body [] i hi with h|h
 ·cases h
 ·rcases H.vis i h with h|h|h
  ·exact h
  ·simp at h; omega
  ·cases h.1
structure Yd (t b:Ty):Prop where
 val:valid b=true
 cl:Dg 0 b=true
 dep:depth b<depth t
 nX:size b<size t
 wts:wt b<=wt t
 bws:bw b<=bw t
 nbs:nb b<=nb t
theorem AFf (t:Ty):1<=nF t:=by
 unfold nF;cases PR t <;> simp <;> omega
theorem Th {P:Ty->Prop}:∀ {l:List Ty},(∀ t∈l,EG P t)->Mc P l
 | [],_=>trivial
 | t::l,h=>by
  rw[Mc];exact⟨h t (by simp),Th fun a ha=>h a (by simp[ha])⟩
theorem rz:∀ (m:Nat) (t:Ty),depth t<=m->valid t=true->EG (Yd t) t:=by
 intro m
 induction m with
 | zero=>
  intro t hd;obtain⟨k,n,i,ts⟩:=t;simp[depth] at hd
 | succ m ih=>
  intro t hd hv;obtain⟨k,n,i,ts⟩:=t;have P5:=hv;simp only[valid,AG] at hv;simp only[depth] at hd
  have up:∀ t0∈ts,(wt t0<=wt (.mk k n i ts)/\bw t0<=bw (.mk k n i ts)/\nb t0<=nb (.mk k n i ts))->EG (Yd (.mk k n i ts)) t0:=by
   intro t0 h0 h1;have jv:=IA h0;have hs0:=Ig h0;refine WD (fun b hb=>?_) t0 (ih t0 (by omega) (Cv hv.2 h0));exact⟨hb.val,hb.cl,by have:=hb.dep; simp only[depth]; omega,by have:=hb.nX; simp only[size]; omega,Bh hb.wts h1.1,Bh hb.bws h1.2.1,Bh hb.nbs h1.2.2⟩
  have APC:∀ (hk:(k==6)=false) (hk2:(k==3||k==4)=true),∀ t0∈ts,wt t0<=wt (.mk k n i ts)/\bw t0<=bw (.mk k n i ts)/\nb t0<=nb (.mk k n i ts):=by
   intro hk hk2 t0 h0;rw[wt,bw,nb,hk,hk2];simp only[AB,AE,Lf,Hy,QX];have h1:=FX (Ed (f:=wt) h0);have h2:=FX (Ed (f:=bw) h0);have h3:=FX (Ed (f:=nb) h0);omega
  have hty:∀ l:List Ty,(∀ t∈l,t∈ts)->True:=fun _ _=>trivial
  rw[EG]
  by_cases h6:k=6
  ·subst h6
   rcases O8 hv.1 with h' | h' | h' | h' | h' | h' | ⟨_,rfl,rfl,b,body,rfl,hcb⟩
   iterate 6 exact absurd h' (by simp)
   simp only[Bw,AG] at hv;have e1:wt (.mk 6 [] 0 [b,body])=wt body+max 1 (cv body)*wt b:=rfl;have e2:bw (.mk 6 [] 0 [b,body])=bw body+1+(cv body+1)*bw b:=rfl;have e3:nb (.mk 6 [] 0 [b,body])=1+nb body+nF body*nb b:=rfl;have w1:1*wt b<=max 1 (cv body)*wt b:=CB _ (by omega);have w3:1*bw b<=(cv body+1)*bw b:=CB _ (by omega);have w4:1*nb b<=nF body*nb b:=CB _ (AFf body);refine⟨fun _ b' body' he=>?_,fun _=>Th fun t0 h0=>up t0 h0 ?_⟩
   ·cases he
    exact⟨hv.2.1,hcb,by simp only[depth,EJ]; omega,by simp only[size,Ac]; have:=size_pos body; omega,by omega,by omega,by omega⟩
   ·simp only[Av,Fs,FL] at h0
    rcases h0 with rfl|rfl
    ·exact⟨by omega,by omega,by omega⟩
    ·exact⟨by omega,by omega,by omega⟩
  ·refine⟨fun h=>absurd h h6,fun hk=>Th fun t0 h0=>up t0 h0 ?_⟩
   refine APC (by simpa using h6) ?_ t0 h0;rcases hk with rfl|rfl|rfl
   ·rfl
   ·rfl
   ·exact absurd rfl h6
theorem bV {α β:Type} (p:α->Bool) (g:α->List β) (q:β->Bool):∀ l:List α,(l.all p&&(l.flatMap g).all q)=l.all fun b=>p b&&(g b).all q
 | []=>rfl
 | a::l=>by
  have:=bV p g q l;simp only[Ft,OV,OI];rw[<-this];cases p a <;> cases (g a).all q <;> simp
theorem all_congr {α:Type} {p q:α->Bool}:∀ {l:List α},(∀ a∈l,p a=q a)->l.all p=l.all q
 | [],_=>rfl
 | a::l,h=>by
  rw[Ft,Ft,h a (by simp),all_congr fun b hb=>h b (by simp[hb])]
theorem CY.map_eq {α β γ:Type} {R:α->β->Prop} {f:α->γ} {g:β->γ} (h:∀ a b,R a b->f a=g b):∀ {l:List α} {m:List β},CY R l m->l.map f=m.map g
 | [],[],_=>rfl
 | a::l,b::m,⟨h1,h2⟩=>by rw[CI,CI,h a b h1,h2.map_eq h]
 | [],_::_,h=>h.elim
 | _::_,[],h=>h.elim
theorem N6 {t:Ty} {f:Nat} (hv:valid t=true) (hc:Dg 0 t=true):∀ b∈(Aj (AR 32) f t []).2,Yd t b:=by
 have:=WG (Ai:=AR 32) (P:=Yd t) f t [] hv hc (rz _ t (AL _) hv) [] (fun b hb=>by cases hb);rwa [Ek hv hc] at this
theorem APD:∀ (f:Nat) (t:Ty),(verdict t=0->C7 (bw t))->xP f t=xR f t:=by
 intro f
 induction f with
 | zero=>intro t _; rfl
 | succ f ih=>
  intro t hs;rw[xP,xR];cases hg:!(verdict t==0)||!(Dg 0 t) with
  | true=>rfl
  | false=>
   simp only[FM,Bool.not_eq_false',Dv] at hg;obtain⟨hv,hc⟩:=hg;have hs:=hs hv;obtain⟨hv,_,_⟩:=Jm hv;simp only[AB];have h:=ee (Ai:=AR 32) rfl rfl (depth t) t [] hv hc HI hs [] (fun x hx=>by cases hx);rw[Ek hv hc] at h;have hb:=N6 (f:=depth t) hv hc;have hsz:=Ej (Ai:=AR 32) (depth t) t;generalize Gi (AR 32) (depth t) t=o at h hsz;generalize Aj (AR 32) (depth t) t []=o2 at h hb;rcases o with _|l <;> rcases o2 with ⟨_|ps,B⟩
   ·rfl
   ·exact h.elim
   ·exact h.elim
   ·obtain⟨_,h2⟩:=h
    simp only at hb ⊢
    have e:l.map N1=ps.map (KH B):=by
     have h3:CY (fun b p=>b∈l/\∃ φ,Rl false 0 B ([]:List Ty).length B.length [] b p φ) l ps:=by
      have gen:∀ (l':List Br) (ps':List Ty),(∀ b∈l',b∈l)->CY (fun b p=>∃ φ,Rl false 0 B ([]:List Ty).length B.length [] b p φ) l' ps'->CY (fun b p=>b∈l/\∃ φ,Rl false 0 B ([]:List Ty).length B.length [] b p φ) l' ps':=by
       intro l'
       induction l' with
       | nil=>intro ps' _ h; cases ps' with
        | nil=>trivial
        | cons _ _=>exact h.elim
       | cons a l' ihl=>
        intro ps' hm h;cases ps' with
        | nil=>exact h.elim
        | cons p ps'=>exact⟨⟨hm a (by simp),h.1⟩,ihl ps' (fun b hb=>hm b (by simp[hb])) h.2⟩
      exact gen l ps (fun b hb=>hb) h2
     refine h3.map_eq fun b p ⟨Ow,φ,H⟩=>(qY H (AL _) (EX hs ?_)).symm
     have:=H.ju;have:=H.len;have:=(hsz l rfl b Ow).1;omega
    rw[e,bV]
    have hall:(ps.map (KH B)).all (fun b=>jg b&&b.bounds.all fun b=>HS (xP f b))=(ps.map (KH B)).all (fun b=>jg b&&b.bounds.all fun b=>HS (xR f b)):=by
     refine all_congr fun b hbm=>?_
     obtain⟨p,_,rfl⟩:=Bb.1 hbm;congr 1;refine all_congr fun c Pv=>?_
     rw[ih c];intro hvc;have Pv:c∈(Lb B.length p []).2.map fun x=>B.getD x nW:=Pv
     obtain⟨x,_,rfl⟩:=Bb.1 Pv;rw[J4];cases hx:B[x]? with
     | none=>exact EX hs (AM _)
     | some c=>exact EX hs (hb c (BK hx)).bws
    rw[hall]
theorem bW {Ai:Nat->Bool}:∀ (m f g:Nat) (t:Ty),depth t<=m->m<=f->m<=g->Gi Ai f t=Gi Ai g t:=by
 intro m
 induction m with
 | zero=>
  intro f g t hd;obtain⟨k,n,i,ts⟩:=t;simp[depth] at hd
 | succ m ih=>
  intro f g t hd hf hg;obtain⟨k,n,i,ts⟩:=t;obtain⟨f,rfl⟩:∃ j,f=j+1:=⟨f-1,by omega⟩;obtain⟨g,rfl⟩:∃ j,g=j+1:=⟨g-1,by omega⟩;simp only[depth] at hd;have ht:∀ t∈ts,Gi Ai f t=Gi Ai g t:=fun t h=>ih f g t (by have:=IA h; omega) (by omega) (by omega)
  have e:ts.map (Gi Ai f)=ts.map (Gi Ai g):=IG ht;rw[Gi,Gi,e]
  match ts,ht with
  | [],_=>rfl
  | [_],_=>rfl
  | [b,body],ht=>
   simp only[Zn];rw[ht b (by simp),ht body (by simp)]
  | _::_::_::_,_=>rfl
theorem WS {f:Nat} {t:Ty} (h:(xR f t).2=0):∃ l,Gi (AR 32) (depth t) t=some l/\(xR f t).1=l.map N1:=by
 cases f with
 | zero=>cases h
 | succ f=>
  rw[xR] at h ⊢;cases hg:!(verdict t==0)||!(Dg 0 t) with
  | true=>rw[hg] at h; cases h
  | false=>
   rw[hg] at h;simp only[AB] at h ⊢;cases hb:Gi (AR 32) (depth t) t with
   | none=>rw[hb] at h; cases h
   | some l=>
    rw[hb] at h;simp only at h ⊢;cases ha:(l.map N1).all fun b=>jg b&&b.bounds.all fun b=>HS (xR f b) with
    | false=>rw[ha] at h; cases h
    | true=>exact⟨l,rfl,rfl⟩
theorem jx {s t:Ty} {l m:List Br} (hl:Gi (AR 32) (depth s) s=some l) (hm:Gi (AR 32) (depth t) t=some m):Hw ([s,t].map (Gi (AR 32) (EJ [s,t])))=some [l,m]:=by
 have e1:=bW (Ai:=AR 32) (depth s) (EJ [s,t]) (depth s) s (AL _) (IA (by simp)) (AL _);have e2:=bW (Ai:=AR 32) (depth t) (EJ [s,t]) (depth t) t (AL _) (IA (by simp)) (AL _);simp only[CI,EM,e1,e2,hl,hm];rfl
theorem sA {s t:Ty} {a b c:Nat} (hs:(xR a s).2=0) (ht:(xR b t).2=0) (hu:(xR c (.mk 4 [] 0 [s,t])).2=0):(xR c (.mk 4 [] 0 [s,t])).1=(xR a s).1++(xR b t).1:=by
 obtain⟨l,h1,h2⟩:=WS hs;obtain⟨m,k1,k2⟩:=WS ht;obtain⟨r,u1,u2⟩:=WS hu;have hd:depth (.mk 4 [] 0 [s,t])=EJ [s,t]+1:=by rw[depth]
 rw[hd,Gi] at u1;simp only[show((4:Int)==0)=false from rfl,show((4:Int)==2||(4:Int)==5)=false from rfl,show((4:Int)==3)=false from rfl,AB,BH,AE,jx h1 k1] at u1;cases hb:AR 32 [l,m].flatten.length with
 | true=>rw[hb] at u1; cases u1
 | false=>
  rw[hb] at u1;cases u1;rw[u2,h2,k2];simp
theorem WT (out l:List Br):(Ja out l).length=out.length*l.length:=by
 rw[Ja,List.length_flatMap]
 induction out with
 | nil=>simp
 | cons x out ih=>
  simp only[CI,Gq,AZ,A3] at ih ⊢;rw[ih,FO,Eb]
theorem sB {s t:Ty} {a b c:Nat} (hs:(xR a s).2=0) (ht:(xR b t).2=0) (hu:(xR c (.mk 3 [] 0 [s,t])).2=0):(xR c (.mk 3 [] 0 [s,t])).1.length=(xR a s).1.length*(xR b t).1.length:=by
 obtain⟨l,h1,h2⟩:=WS hs;obtain⟨m,k1,k2⟩:=WS ht;obtain⟨r,u1,u2⟩:=WS hu;have hd:depth (.mk 3 [] 0 [s,t])=EJ [s,t]+1:=by rw[depth]
 rw[hd,Gi] at u1;simp only[show((3:Int)==0)=false from rfl,show((3:Int)==2||(3:Int)==5)=false from rfl,AB,BH,AE,jx h1 k1] at u1;rw[u2,h2,k2];simp only[AZ];cases he:[l,m].any List.isEmpty with
 | true=>
  rw[he] at u1;cases u1;simp only[J0,List.any_nil,Bool.or_false,DJ,IM] at he;rcases he with rfl|rfl <;> simp
 | false=>
  rw[he] at u1;simp only[AB,NI] at u1;cases hb:AR 32 (Ja [⟨[],.mk 3 [] 0 []⟩] l).length with
  | true=>rw[hb] at u1; cases u1
  | false=>
   rw[hb] at u1;simp only[AB] at u1;cases MA:AR 32 (Ja (Ja [⟨[],.mk 3 [] 0 []⟩] l) m).length with
   | true=>rw[MA] at u1; cases u1
   | false=>
    rw[MA] at u1;cases u1;rw[WT,WT];simp
mutual
def vP (p:Int->Bool):Ty->Bool
 | .mk k n i ts=>bif k==5 then n==[]&&(ts.isEmpty&&p i) else bif k==2||k==3 then RF p ts else true
def RF (p:Int->Bool):List Ty->Bool
 | []=>true
 | t::l=>vP p t&&RF p l
end
mutual
theorem Ye {p q:Int->Bool} (h:∀ i,p i=true->q i=true):∀ t:Ty,vP p t=true->vP q t=true
 | .mk k n i ts,ht=>by
  rw[vP] at ht ⊢;cases h5:k==5 with
  | true=>
   rw[h5] at ht;simp only[AE,AG] at ht ⊢;exact⟨ht.1,ht.2.1,h i ht.2.2⟩
  | false=>
   rw[h5] at ht;cases h2:k==2||k==3 with
   | true=>
    rw[h2] at ht;exact Ti h ts ht
   | false=>rfl
theorem Ti {p q:Int->Bool} (h:∀ i,p i=true->q i=true):∀ l:List Ty,RF p l=true->RF q l=true
 | [],_=>rfl
 | t::l,hl=>by
  simp only[RF,AG] at hl ⊢;exact⟨Ye h t hl.1,Ti h l hl.2⟩
end
theorem Tj (p:Int->Bool):∀ (l m:List Ty),RF p (l++m)=(RF p l&&RF p m)
 | [],m=>by simp[RF]
 | t::l,m=>by simp[RF,Tj p l m,OU]
theorem PS:∀ (l m:List Ty),Ac (l++m)=Ac l+Ac m
 | [],m=>by simp[Ac]
 | t::l,m=>by simp only[EZ,Ac,PS l m]; omega
mutual
theorem N7 {p q:Int->Bool} {g:Int->Int} (h:∀ i,p i=true->q (g i)=true):∀ t:Ty,vP p t=true->vP q (CD (fun i=>var (g i)) t)=true/\size (CD (fun i=>var (g i)) t)=size t
 | .mk k n i ts,ht=>by
  rw[vP] at ht;rw[CD];cases h5:k==5 with
  | true=>
   rw[h5] at ht;simp only[AE,AG,IM] at ht ⊢;obtain⟨_,rfl,h1⟩:=ht;refine⟨?_,by simp[size,Ac]⟩;rw[vP];simpa using h i h1
  | false=>
   rw[h5] at ht;simp only[AB] at ht ⊢;cases h2:k==2||k==3 with
   | true=>
    rw[h2] at ht;obtain⟨i1,i2⟩:=jy h ts ht;simp only[AE];refine⟨?_,by rw[size,size,i2]⟩;rw[vP,h5,h2];exact i1
   | false=>
    simp only[AB];refine⟨?_,Al⟩;rw[vP,h5,h2];rfl
theorem jy {p q:Int->Bool} {g:Int->Int} (h:∀ i,p i=true->q (g i)=true):∀ l:List Ty,RF p l=true->RF q (Cl (fun i=>var (g i)) l)=true/\Ac (Cl (fun i=>var (g i)) l)=Ac l
 | [],_=>⟨rfl,rfl⟩
 | t::l,hl=>by
  simp only[RF,AG] at hl;obtain⟨i1,i2⟩:=N7 h t hl.1;obtain⟨j1,j2⟩:=jy h l hl.2;exact⟨by rw[Cl,RF,i1,j1]; rfl,by rw[Cl,Ac,Ac,i2,j2]⟩
end
mutual
theorem ABJ {p:Int->Bool} {c:Ty} (hc:vP p c=true):∀ (b:Ty) (k:Nat),vP p b=true->vP p (Qz c b k)=true/\size (Qz c b k)<=size b+size c
 | .mk d n i ts,k,hb=>by
  have hb':=hb;rw[vP] at hb;rw[Qz];cases h5:d==5 with
  | true=>
   simp only[AE];cases k==0 with
   | true=>exact⟨hc,Nat.le_add_left _ _⟩
   | false=>exact⟨hb',DT _ _⟩
  | false=>
   rw[h5] at hb;simp only[AB] at hb ⊢;cases h3:d==3 with
   | true=>
    have h23:(d==2||d==3)=true:=by rw[h3]; simp
    rw[h23] at hb;obtain⟨i1,i2⟩:=sC hc ts k hb;simp only[AE];refine⟨?_,by rw[size,size]; omega⟩;rw[vP,h5,h23];exact i1
   | false=>exact⟨hb',DT _ _⟩
theorem sC {p:Int->Bool} {c:Ty} (hc:vP p c=true):∀ (l:List Ty) (k:Nat),RF p l=true->RF p (Lv c l k)=true/\Ac (Lv c l k)<=Ac l+size c
 | [],_,_=>⟨rfl,AM _⟩
 | t::l,k,hl=>by
  simp only[RF,AG] at hl;rw[Lv];cases decide (k<(Ap t).length) with
  | true=>
   obtain⟨i1,i2⟩:=ABJ hc t k hl.1;simp only[AE];exact⟨by rw[RF,i1,hl.2]; rfl,by simp only[Ac]; omega⟩
  | false=>
   obtain⟨i1,i2⟩:=sC hc l (k-(Ap t).length) hl.2;simp only[AB];exact⟨by rw[RF,i1,hl.1]; rfl,by simp only[Ac]; omega⟩
end
mutual
theorem Yf {p:Int->Bool}:∀ t:Ty,vP p t=true->∀ i∈Ap t,p i=true
 | .mk k n i ts,ht,j,hj=>by
  rw[vP] at ht;rw[Ap] at hj;cases h5:k==5 with
  | true=>
   rw[h5] at ht hj;simp only[AE,AG,Bj] at ht hj;rw[hj];exact ht.2.2
  | false=>
   rw[h5] at ht hj;cases h3:k==3 with
   | true=>
    have h23:(k==2||k==3)=true:=by rw[h3]; simp
    rw[h3] at hj;rw[h23] at ht;exact bX ts ht j hj
   | false=>rw[h3] at hj; cases hj
theorem bX {p:Int->Bool}:∀ l:List Ty,RF p l=true->∀ i∈CQ l,p i=true
 | [],_,_,hj=>by cases hj
 | t::l,hl,j,hj=>by
  simp only[RF,AG] at hl;rw[CQ] at hj;rcases BL.1 hj with hj|hj
  ·exact Yf t hl.1 j hj
  ·exact bX l hl.2 j hj
end
mutual
theorem Tk:∀ t:Ty,valid t=true->vP (fun i=>decide (0<=i)&&decide (i<=200)) t=true
 | .mk k n i ts,h=>by
  have h':=h;simp only[valid,AG] at h;rw[vP];cases h5:k==5 with
  | true=>
   have:k=5:=by simpa using h5
   subst this;obtain⟨rfl,rfl,h1⟩:=JN h';have h2:=QK h';simp[h1,h2]
  | false=>
   simp only[AB];rw[WU ts h.2];cases k==2||k==3 <;> rfl
theorem WU:∀ l:List Ty,Bw l=true->RF (fun i=>decide (0<=i)&&decide (i<=200)) l=true
 | [],_=>rfl
 | t::l,h=>by
  simp only[Bw,AG] at h;rw[RF,Tk t h.1,WU l h.2];rfl
end
abbrev UX (N:Nat):Int->Bool:=fun i=>decide (-201<=i)&&(decide (i<N)||i==hole)
theorem Gv {N:Nat} {i:Int}:UX N i=true<->-201<=i/\(i<N\/i=hole):=by
 simp[UX]
theorem sD {N M:Nat} (h:N<=M) (i:Int) (hi:UX N i=true):UX M i=true:=by
 rw[Gv] at hi ⊢;omega
theorem count_map {l:List Int} {g:Int->Int} (h:∀ i∈l,g i=hole->i=hole) (h0:l.count hole=0):(l.map g).count hole=0:=by
 rw[J1] at h0 ⊢;intro hm;obtain⟨i,hi,he⟩:=Bb.1 hm;exact h0 (h i hi he ▸ hi)
theorem AFg (n:Nat):Jt n=CD fun i=>var (bif decide (0<=i)&&!(i==hole) then i+n else i):=by
 unfold Jt;congr 1
 funext i
 cases decide (0<=i)&&!(i==hole) <;> rfl
theorem AJg {N n:Nat} {i:Int} (hi:UX N i=true):UX (n+N) (bif decide (0<=i)&&!(i==hole) then i+n else i)=true:=by
 rw[Gv] at hi
 by_cases h0:0<=i
 ·by_cases hh:i=hole
  ·have e:(decide (0<=i)&&!(i==hole))=false:=by simp[hh]
   rw[e,Gv];simp only[AB];omega
  ·have e:(decide (0<=i)&&!(i==hole))=true:=by simp[h0,hh]
   rw[e,Gv];simp only[AE];omega
 ·have e:(decide (0<=i)&&!(i==hole))=false:=by simp[h0]
  rw[e,Gv];simp only[AB];omega
theorem za {N n:Nat} (h:((n+N:Nat):Int)<hole) {i:Int} (hi:UX N i=true) (he:(bif decide (0<=i)&&!(i==hole) then i+n else i)=hole):i=hole:=by
 rw[Gv] at hi
 by_cases h0:0<=i
 ·by_cases hh:i=hole
  ·exact hh
  ·have e:(decide (0<=i)&&!(i==hole))=true:=by simp[h0,hh]
   rw[e] at he;simp only[AE] at he;omega
 ·have e:(decide (0<=i)&&!(i==hole))=false:=by simp[h0]
  rw[e] at he;exact he
structure UY (W:Nat) (b:Br):Prop where
 ok:vP (UX b.bounds.length) b.body=true
 nX:size b.body<=W
 nh:(Ap b.body).count hole=0
theorem UY.le {W V:Nat} {b:Br} (h:UY W b) (hl:W<=V):UY V b:=⟨h.ok,Bh h.nX hl,h.nh⟩
theorem UY.shift {W:Nat} {c:Br} (h:UY W c) {n:Nat} (hs:((n+c.bounds.length:Nat):Int)<hole):vP (UX (n+c.bounds.length)) (Jt n c.body)=true/\size (Jt n c.body)<=W/\(Ap (Jt n c.body)).count hole=0:=by
 rw[AFg];obtain⟨i1,i2⟩:=N7 (q:=UX (n+c.bounds.length)) (g:=fun i=>bif decide (0<=i)&&!(i==hole) then i+n else i) (fun i hi=>AJg hi) c.body h.ok;refine⟨i1,by rw[i2]; exact h.nX,?_⟩;rw[Ei];exact count_map (fun i hi he=>za hs (Yf _ h.ok i hi) he) h.nh
section
variable {Ai:Nat->Bool}
theorem zb {W:Nat} {b c:Br} {k:Nat} (hb:vP (UX b.bounds.length) b.body=true) (hk:KG b.body=some k) (hc:UY W c) (hs:((b.bounds.length+c.bounds.length:Nat):Int)<hole) :
  vP (UX (F0 b k c).bounds.length) (F0 b k c).body=true/\size (F0 b k c).body<=size b.body+W/\(Ap (F0 b k c).body).count hole+1=(Ap b.body).count hole/\k<(Ap b.body).length:=by
 obtain⟨s1,s2,s3⟩:=hc.shift hs;have el:(F0 b k c).bounds.length=b.bounds.length+c.bounds.length:=by simp[F0]
 obtain⟨f1,f2⟩:=HP hk;have hkl:k<(Ap b.body).length:=(Ae.1 f1).1;obtain⟨t1,t2⟩:=Nz f1 f2;have e:(F0 b k c).body=Qz (Jt b.bounds.length c.body) b.body k:=rfl;obtain⟨r1,r2⟩:=ABJ s1 b.body k (Ye (fun i hi=>sD (DT _ _) i hi) _ hb);refine⟨by rw[el,e]; exact r1,by rw[e]; omega,?_,hkl⟩;rw[e,O5 _ _ _ hkl,J2,J2,s3,t2];omega
theorem jz {l:List Br} {W w S T:Nat} (hl:∀ c∈l,UY W c/\c.bounds.length<=w) (hT:(T:Int)<hole):∀ (f:Nat) (b:Br) (r:List Br),vP (UX b.bounds.length) b.body=true->(Ap b.body).count hole<=f->size b.body+(Ap b.body).count hole*W<=S->b.bounds.length+(Ap b.body).count hole*w<=T ->
  Iz Ai l f b=some r->∀ d∈r,UY S d
 | 0,b,r,hb,hf,hS,_,h,d,hd=>by
  rw[Iz] at h;cases h;rw[Bj.1 hd];exact⟨hb,by omega,by omega⟩
 | f+1,b,r,hb,hf,hS,hTb,h,d,hd=>by
  rw[Iz] at h;cases hk:KG b.body with
  | none=>
   rw[hk] at h;cases h;rw[Bj.1 hd];refine⟨hb,by omega,?_⟩;rw[J1];intro hm;have h2:(Ap b.body).findIdx? (·==hole)=none:=hk;rw[LA] at h2;have:=h2 hole hm;simp at this
  | some k=>
   rw[hk] at h;rcases MU h d hd with h' | ⟨c,h1,s,h2,h3⟩
   ·cases h'
   ·obtain⟨hc,hcw⟩:=hl c h1
    have hpos:0<(Ap b.body).count hole:=by
     have hfs:=HP hk;have:=Nz hfs.1 hfs.2;omega
    have m0:1*w<=(Ap b.body).count hole*w:=CB _ hpos;obtain⟨g1,g2,g3,_⟩:=zb hb hk hc (by omega);have el:(F0 b k c).bounds.length=b.bounds.length+c.bounds.length:=by simp[F0]
    have m1:(Ap b.body).count hole*W=(Ap (F0 b k c).body).count hole*W+W:=by rw[<-g3,FO]
    have m2:(Ap b.body).count hole*w=(Ap (F0 b k c).body).count hole*w+w:=by rw[<-g3,FO]
    exact jz hl hT f _ s g1 (by omega) (by omega) (by omega) h2 d h3
theorem zc (n:Nat) (t:Ty):Rv n t=CD (fun i=>var (bif i==-1 then(n:Int) else bif decide (i<0) then i+1 else i)) t:=by rw[X4]
theorem APE {W:Nat} {b:Br} (h:UY W b) (hs:((b.bounds.length:Nat):Int)<hole):vP (UX (b.bounds.length+1)) (Rv b.bounds.length b.body)=true/\size (Rv b.bounds.length b.body)=size b.body/\(Ap (Rv b.bounds.length b.body)).count hole=0:=by
 rw[zc]
 obtain⟨i1,i2⟩:=N7 (q:=UX (b.bounds.length+1)) (g:=fun i=>bif i==-1 then(b.bounds.length:Int) else bif decide (i<0) then i+1 else i) (fun i hi=>by
  rw[Gv] at hi ⊢
  by_cases h1:i=-1
  ·have e:(i==-1)=true:=by simp[h1]
   rw[e];simp only[AE];omega
  ·have e:(i==-1)=false:=by simp[h1]
   rw[e]
   by_cases h0:i<0
   ·rw[Au h0]
    simp only[AB,AE];omega
   ·rw[A9 h0]
    simp only[AB];omega) b.body h.ok
 refine⟨i1,i2,?_⟩;rw[Ei];refine count_map (fun i hi he=>?_) h.nh;have hi:=Gv.1 (Yf _ h.ok i hi)
 by_cases h1:i=-1
 ·have e:(i==-1)=true:=by simp[h1]
  rw[e] at he;simp only[AE] at he;omega
 ·have e:(i==-1)=false:=by simp[h1]
  rw[e] at he
  by_cases h0:i<0
  ·rw[Au h0] at he
   simp only[AB,AE] at he;have:(hole:Int)=1073741824:=rfl;omega
  ·rw[A9 h0] at he
   exact he
theorem APF {N:Nat} {t:Ty} (h:vP (UX (N+1)) t=true) (hs:(N:Int)<hole):vP (UX N) (UU N hole t)=true/\size (UU N hole t)=size t:=by
 rw[QB];refine N7 (q:=UX N) (g:=fun i=>bif i==(N:Int) then hole else i) (fun i hi=>?_) t h;rw[Gv] at hi ⊢;have:(hole:Int)=1073741824:=rfl
 by_cases h1:i=N
 ·have e:(i==(N:Int))=true:=by simp[h1]
  rw[e];simp only[AE];exact⟨by rw[this]; decide,.inr Al⟩
 ·have e:(i==(N:Int))=false:=by simp[h1]
  rw[e];simp only[AB];omega
theorem sF {W Wb w C:Nat} {cr:Option (List Br)} {bound:Ty} {b:Br} (hb:UY W b) (hC:(Ap b.body).length<=C) (hl:∀ l,cr=some l->∀ c∈l,UY Wb c/\c.bounds.length<=w) {T:Nat} (hT:(T:Int)<hole) (hbT:b.bounds.length+(Ap b.body).length*w<=T) {r:List Br} (h:LY Ai cr bound b=some r):∀ d∈r,UY (W+C*Wb) d:=by
 have hs:((b.bounds.length:Nat):Int)<hole:=by omega
 obtain⟨b1,b2,b3⟩:=APE hb hs;obtain⟨r1,r2⟩:=APF b1 hs;have Xq:=hb.nX;intro d hd;unfold LY at h;cases ho:oI (·==(b.bounds.length:Int)) (Rv b.bounds.length b.body) with
 | true=>
  rw[ho] at h;cases h;rw[Bj.1 hd];exact⟨by simpa using b1,by simp only; omega,b3⟩
 | false=>
  rw[ho] at h;simp only[AB] at h;cases hk:KG (UU b.bounds.length hole (Rv b.bounds.length b.body)) with
  | none=>
   rw[hk] at h;cases h;rw[Bj.1 hd];refine⟨r1,by simp only; omega,?_⟩;rw[J1];intro hm;have h2:(Ap (UU b.bounds.length hole (Rv b.bounds.length b.body))).findIdx? (·==hole)=none:=hk;rw[LA] at h2;have:=h2 hole hm;simp at this
  | some k=>
   rw[hk] at h;cases hb':cr with
   | none=>rw[hb'] at h; cases h
   | some l=>
    rw[hb'] at h;simp only at h;have Bu:(Ap (UU b.bounds.length hole (Rv b.bounds.length b.body))).length=(Ap b.body).length:=by rw[QB,Ei,AZ,X4,Ei,AZ]
    have X5:(Ap (UU b.bounds.length hole (Rv b.bounds.length b.body))).count hole<=(Ap b.body).length:=by rw[<-Bu]; exact List.count_le_length
    have hcs:=QU b.body;refine jz (S:=W+C*Wb) (T:=T) (fun c hc=>hl l hb' c hc) hT _ ⟨b.bounds,UU b.bounds.length hole (Rv b.bounds.length b.body)⟩ r r1 X5 ?_ ?_ h d hd
    ·have m1:(Ap (UU b.bounds.length hole (Rv b.bounds.length b.body))).count hole*Wb<=C*Wb:=CB _ (by omega)
     simp only;omega
    ·have m1:(Ap (UU b.bounds.length hole (Rv b.bounds.length b.body))).count hole*w<=(Ap b.body).length*w:=CB _ X5
     simp only;omega
end
section
variable {Ai:Nat->Bool}
theorem AFh {W S:Nat} {b c:Br} {args:List Ty} (hb:UY S b) (he:b.body=.mk 3 [] 0 args) (hc:UY W c) (hs:((b.bounds.length+c.bounds.length:Nat):Int)<hole):UY (S+W) ⟨b.bounds++c.bounds,.mk 3 [] 0 (args++[Jt b.bounds.length c.body])⟩:=by
 obtain⟨s1,s2,s3⟩:=hc.shift hs;have hok:=hb.ok;have hsz:=hb.nX;have hnh:=hb.nh;rw[he] at hok hsz hnh;have hok:RF (UX b.bounds.length) args=true:=by rw[vP] at hok; exact hok
 have hsz:Ac args+1<=S:=by rw[size] at hsz; exact hsz
 have hnh:(CQ args).count hole=0:=by rw[Ap] at hnh; exact hnh
 refine⟨?_,?_,?_⟩
 ·show vP (UX (b.bounds++c.bounds).length) _=true
  rw[Ab,vP]
  show RF _ (args++_)=true
  rw[Tj,Ti (fun i hi=>sD (DT _ _) i hi) args hok];simp[RF,s1]
 ·show size (Ty.mk 3 [] 0 (args++[Jt b.bounds.length c.body]))<=_
  rw[size,PS];simp only[Ac];omega
 ·show(Ap (Ty.mk 3 [] 0 (args++[Jt b.bounds.length c.body]))).count hole=0
  rw[Ap]
  show(CQ (args++_)).count hole=0
  rw[Vg,J2,hnh,s3]
theorem sG {T:Nat} (hT:(T:Int)<hole):∀ {ls:List (List Br)} {ws vs:List Nat} {out r:List Br} {N S:Nat},(CY (fun l w=>∀ c∈l,UY w c) ls ws)->(CY (fun l w=>∀ c∈l,c.bounds.length<=w) ls vs) ->
  (∀ b∈out,UY S b/\b.bounds.length<=N/\∃ args,b.body=.mk 3 [] 0 args)->N+vs.sum<=T->NI Ai ls out=some r->∀ d∈r,UY (S+ws.sum) d
 | [],[],[],out,r,N,S,_,_,ho,_,h,d,hd=>by
  rw[NI] at h;cases h;simpa using(ho d hd).1
 | [],_::_,_,_,_,_,_,h,_,_,_,_,_,_=>h.elim
 | [],[],_::_,_,_,_,_,_,h,_,_,_,_,_=>h.elim
 | _::_,[],_,_,_,_,_,h,_,_,_,_,_,_=>h.elim
 | _::_,_::_,[],_,_,_,_,_,h,_,_,_,_,_=>h.elim
 | l::ls,w::ws,v::vs,out,r,N,S,⟨hw,hws⟩,⟨hv,hvs⟩,ho,hN,h,d,hd=>by
  rw[NI] at h;rw[Gq] at hN;cases hb:Ai (Ja out l).length with
  | true=>rw[hb] at h; cases h
  | false=>
   rw[hb] at h;have:=sG hT (N:=N+v) (S:=S+w) hws hvs ?_ (by omega) h d hd
   ·rw[Gq,<-K6]
    exact this
   ·intro b hb'
    unfold Ja at hb';obtain⟨b0,h0,h1⟩:=LB.1 hb';obtain⟨c,h2,rfl⟩:=Bb.1 h1;obtain⟨q1,q2,args,q3⟩:=ho b0 h0;have hcw:=hv c h2;have:=AFh q1 q3 (hw c h2) (by omega);simp only[q3];exact⟨this,by simp only[Ab]; omega,_,rfl⟩
theorem AJi:∀ (f:Nat) (t:Ty) (l:List Br),valid t=true->C7 (bw t)->Gi Ai f t=some l->∀ b∈l,UY (wt t) b:=by
 intro f
 induction f with
 | zero=>
  intro t l _ _ h;rw[Gi] at h;cases h
 | succ f ih=>
  intro t l hv hs h d hd;obtain⟨k,n,i,ts⟩:=t;have P5:=hv;simp only[valid,AG] at hv;rw[Gi] at h
  have rq:∀ (hk:(k==6)=false) (hk2:(k==3||k==4)=true),∀ t0∈ts,C7 (bw t0):=by
   intro hk hk2 t0 h0;refine EX hs ?_;rw[bw,hk,hk2,Hy];exact FX (Ed (f:=bw) h0)
  rcases O8 hv.1 with ⟨rfl,rfl,rfl,rfl⟩|⟨rfl,rfl,rfl,rfl⟩|rfl|⟨rfl,rfl,rfl⟩|⟨rfl,rfl,rfl,hne⟩|⟨rfl,rfl,rfl,h0⟩|⟨rfl,rfl,rfl,b,body,rfl,hcb⟩
  ·cases h
   rw[Bj.1 hd];exact⟨rfl,by simp[size,Ac,wt],rfl⟩
  ·cases h
   cases hd
  ·have hm:∀ i,(decide (0<=i)&&decide (i<=200))=true->UX 0 (-1-i)=true:=fun i hi=>by
    simp only[AG,BT] at hi;rw[Gv];omega
   obtain⟨m1,m2⟩:=N7 hm _ (Tk _ P5);cases h;rw[Bj.1 hd];refine⟨m1,?_,?_⟩
   ·show size (yj _)<=_
    rw[MV,m2];simp[size,wt,Eb]
   ·show(Ap (yj _)).count hole=0
    rw[MV,Ei];rfl
  ·simp only[show((3:Int)==0)=false from rfl,show((3:Int)==2||(3:Int)==5)=false from rfl,AB,BH,AE] at h
   cases hsn:Hw (ts.map (Gi Ai f)) with
   | none=>rw[hsn] at h; cases h
   | some ls=>
    rw[hsn] at h;simp only at h;have ha:=MW hsn;cases he:ls.any List.isEmpty with
    | true=>rw[he] at h; cases h; cases hd
    | false=>
     rw[he] at h;have nV:=rq rfl rfl;have q1:CY (fun l w=>∀ c∈l,UY w c) ls (ts.map wt):=ha.MX fun t l hm hg c hc=>ih t l (Cv hv.2 hm) (nV t hm) hg c hc
     have q2:CY (fun l w=>∀ c∈l,c.bounds.length<=w) ls (ts.map bw):=ha.MX fun t l _ hg c hc=>(Ej f t l hg c hc).1
     have:=sG (T:=bw (.mk 3 [] 0 ts)) hs (N:=0) (S:=1) q1 q2 (fun b hb=>by
      rw[Bj.1 hb];exact⟨⟨rfl,by simp[size,Ac],rfl⟩,by simp,_,rfl⟩) (by rw[bw,Hy]; simp) h d hd
     have e:wt (.mk 3 [] 0 ts)=1+(ts.map wt).sum:=by rw[wt,Lf]; rfl
     rw[e];exact this
  ·simp only[show((4:Int)==0)=false from rfl,show((4:Int)==2||(4:Int)==5)=false from rfl,show((4:Int)==3)=false from rfl,AB,BH,AE] at h
   cases hsn:Hw (ts.map (Gi Ai f)) with
   | none=>rw[hsn] at h; cases h
   | some ls=>
    rw[hsn] at h;simp only at h;have ha:=MW hsn;cases hb:Ai ls.flatten.length with
    | true=>rw[hb] at h; cases h
    | false=>
     rw[hb] at h;cases h;obtain⟨l',h1,h2⟩:=XD.1 hd;obtain⟨t,h3,h4⟩:=ha.QD l' h1;refine(ih t l' (Cv hv.2 h3) (rq rfl rfl t h3) h4 d h2).le ?_;have e:wt (.mk 4 [] 0 ts)=1+(ts.map wt).sum:=by rw[wt,Lf]; rfl
     have:=FX (Ed (f:=wt) h3);omega
  ·have hm:∀ i,(decide (0<=i)&&decide (i<=200))=true->UX 0 (-1-i)=true:=fun i hi=>by
    simp only[AG,BT] at hi;rw[Gv];omega
   obtain⟨m1,m2⟩:=N7 hm _ (Tk _ P5);cases h;rw[Bj.1 hd];refine⟨m1,?_,?_⟩
   ·show size (yj _)<=_
    rw[MV,m2];simp[size,wt,Eb]
   ·show(Ap (yj _)).count hole=0
    rw[MV,Ei,Ap];rw[J1];intro hmm;simp only[BH,AE,CI,EM,Bj] at hmm;have:(hole:Int)=1073741824:=rfl;omega
  ·simp only[show((6:Int)==0)=false from rfl,show((6:Int)==2||(6:Int)==5)=false from rfl,show((6:Int)==3)=false from rfl,show((6:Int)==4)=false from rfl,AB,BH,AE,Zn] at h
   simp only[Bw,AG] at hv;obtain⟨_,RB,cy,_⟩:=hv;have hbw:bw (.mk 6 [] 0 [b,body])=bw body+1+(cv body+1)*bw b:=rfl
   have pG:C7 (bw b):=EX hs (by
    have:1*bw b<=(cv body+1)*bw b:=CB _ (by omega);omega)
   have hsy:C7 (bw body):=EX hs (by omega);cases hb:Gi Ai f body with
   | none=>rw[hb] at h; cases h
   | some l0=>
    rw[hb] at h;simp only at h;rcases MU h d hd with h' | ⟨a,h1,s,h2,h3⟩
    ·cases h'
    ·obtain⟨z1,z2⟩:=Ej f body l0 hb a h1
     have e:wt (.mk 6 [] 0 [b,body])=wt body+max 1 (cv body)*wt b:=rfl;rw[e];refine sF (T:=bw (.mk 6 [] 0 [b,body])) (w:=bw b) (ih body l0 cy hsy hb a h1) (C:=max 1 (cv body)) (by omega) (fun l hl c hc=>⟨ih b l RB pG hl c hc,(Ej f b l hl c hc).1⟩) hs ?_ h2 d h3;have m1:(Ap a.body).length*bw b<=cv body*bw b:=CB _ z2;have m2:(cv body+1)*bw b=cv body*bw b+bw b:=by rw[FO]
     omega
end
attribute [local simp] CX Cx MP MQ AX Df Ia wO setCells C2 FA DN Ca Bo alive Dx Hv KX nT Bi DF Bz Ib Fj Eo nU pY okB wX pZ wY pg wZ lu we wh wj wk wm wo wq wu wz w6 w7 okF w8 w9 xA xB xD Zh xE Ur Us Ut Uu xH xJ xK xN xO xQ xS xT xU xV Ic xW pn xX xY xZ xd pq xe xg xh xj xk Cn g0 g1 xI xL xM xF xG xC lf Y4 Y5
theorem BC.j0 {E:Env} {L:A0} {f:FuncId} {args:List AV} {s s':AK} {v:AV} {T:A0->List AV->AK->Option (AV×AK)} {fn:Func} (hfn:E.P.funcs[f]?=some fn) (hc:E.clone f=true) (ht:E.told f=some T) (h:T L args s=some (v,s')):BC E L f args s v s':=by
 refine⟨1,fun m hm=>?_⟩;obtain⟨m,rfl⟩:∃ m',m=m'+1:=⟨m-1,by omega⟩;simp only[Cw,hfn,hc,AE,L8,ht,h]
theorem WV {l:List Int} (hs:l.Pairwise (·<·)) {h:Nat} {u:Int} (hu:l[h]?=some u):(∀ x∈l.take (h+1),x<=u)/\(∀ x∈l.drop h,u<=x)/\(∀ x∈l.drop (h+1),u<x):=by
 have e:l=l.take h++u::l.drop (h+1):=by rw[<-drop_cons hu,OT]
 have hp:=hs;rw[e,List.pairwise_append] at hp;obtain⟨h1,h2,h3⟩:=hp;have h4:=(List.pairwise_cons.1 h2).1;refine⟨fun x hx=>?_,fun x hx=>?_,h4⟩
 ·rw[Gr,hu] at hx
  rcases BL.1 hx with hx|hx
  ·have:=h3 x hx u (by simp)
   omega
  ·simp only[Option.toList_some,Bj] at hx
   omega
 ·rw[drop_cons hu] at hx
  rcases Av.1 hx with rfl|hx
  ·exact Int.le_refl _
  ·have:=h4 x hx
   omega
section
variable {R:RT}
theorem QY (w:Int):AW (env R) 152 [AD w] fun r=>r=BB false:=
 APG (u0:=AD w) (by simp) (AFj (Fk ⟨_,Ic,by simp⟩))
theorem mL (w:Int):AW (env R) 163 [AD w] fun r=>r=BB false:=
 APH (u0:=AD w) (by simp) (AFk (Fk ⟨_,Ic,by simp⟩))
theorem mM (a b:Int):AW (env R) 162 [AD a,AD b] fun r=>r=BB (decide (a<b)):=by
 refine API (u0:=AD a) (u1:=AD b) (by simp) (AFl ?_);refine AI (QY a) ?_;rintro v rfl;exact Cy (Cy (Cy (pk (A8 (A8 (A8 (BE (pk ⟨_,Ic,rfl⟩))))))))
def sH (bs:List (List AV)) (l:List Int) (x:AV):Prop:=(x=.AA []/\l=[])\/∃ id,x=.ref id 0 l.length 1/\bs[id]?=some (l.map fun n=>AD n)/\l≠[]
theorem Lj {s:AK} {id:Nat} {l:List Int} (hid:s.bs[id]?=some (l.map fun n=>AD n)) (hne:l≠[]):alive s id=true:=by
 obtain⟨c,r,hc⟩:∃ c r,l=c::r:=by
  cases l with
  | nil=>exact absurd rfl hne
  | cons c r=>exact⟨c,r,rfl⟩
 simp only[alive,hid,hc,CI]
theorem Tl {want:Bool} {s:AK} {W:(AV->AK->Prop)->Prop} {K:AV->AK->Prop} (h:K (.tuple []) s):KX (.tuple []) want s W K:=h
theorem ze {s:AK} {id i:Nat} {l:List Int} {w:Int} (hid:s.bs[id]?=some (l.map fun n=>AD n)) (hne:l≠[]) (hw:l[i]?=some w) {K:AV->Prop} (h:K (AD w)):Dc s 1 (.ref id 0 l.length 1) (AD i) fun a=>FA (env R) s none a K:=by
 have hi:i<l.length:=(Ae.1 hw).1;refine⟨⟨by omega,by omega,rfl,Lj hid hne⟩,?_⟩;simp only[FA,hid,wO,DN,xL,xM,xF,xG];have e:0+((i:Int).toNat)*1=i:=by omega
 rw[e,DR,hw];exact h
def Found (l:List Int) (w:Int) (i:Nat) (b:Bool):Prop:=i<=l.length/\(b=true->l[i]?=some w)/\(b=false->(∀ u∈l.take i,u<w)/\∀ u∈l.drop i,w<u)
theorem Yg {w:Int} {l:List Int} (hs:l.Pairwise (·<·)) {id:Nat} {s:AK} (hid:s.bs[id]?=some (l.map fun n=>AD n)) (hne:l≠[]) (hl:l.length<2 ^ 40) {Post:AV->Prop} (hP:∀ (i:Nat) b,Found l w i b->Post (.tuple [AD i,BB b])) {n0 ro rt n m:Nat} :
  ∀ (d i j:Nat),j-i<=d->i<=j->j<=l.length->(∀ u∈l.take i,u<w)->(∀ u∈l.drop j,w<=u)->Tm R n0 ro rt (.ref id 0 l.length 1) (AD w) (AD l.length) (AD i) (AD j) s (QI n m Post):=by
 have fin:∀ (i:Nat) b,Found l w i b->QI n m Post (.tuple [AD i,BB b]) s:=fun i b h=>⟨_,by simp,hP i b h⟩
 intro d
 induction d with
 | zero=>
  intro i j h1 h2 h3 h4 h5;have e:i=j:=by omega
  subst e;refine fO (BE ?_);simp only[Int.lt_irrefl,XJ];refine BQ (sI (BE ?_))
  by_cases hi:i<l.length
  ·obtain⟨u,hu⟩:∃ u,l[i]?=some u:=⟨_,Ak hi⟩
   have b1:decide ((i:Int)<(l.length:Int))=true:=by simpa using hi
   rw[b1];refine A8 (A8 ?_);refine A8 ?_;have hi':i<l.length:=hi;refine⟨⟨by omega,by omega,rfl,Lj hid hne⟩,?_⟩;have e:0+((i:Int).toNat)*1=i:=by omega
   rw[e];refine A8 ?_;simp only[FA,hid,wO,DN,DR,hu,Jw,xL,xM,xF,xG];refine A8 (A8 (CC ?_));cases hb:(u==w) with
   | true=>
    have huw:u=w:=by simpa using hb
    subst huw;refine A8 ?_;refine Jd (by simp) (Jd (by simp) (Jd (by simp) (Jd (by simp) (Jd (by simp) (Jd (by simp) (Tl (Tl (Jd (by simp) ?_))))))));exact A8 (pk (pk (fin i true ⟨h3,fun _=>hu,by simp⟩)))
   | false=>
    have huw:u≠w:=by simpa using hb
    have hf:Found l w i false:=⟨h3,by simp,fun _=>⟨h4,fun x hx=>by
     have h6:=(WV hs hu).2.1 x hx;have h7:=h5 u (by rw[drop_cons hu]; simp);omega⟩⟩
    refine A8 ?_;refine A8 (A8 (A8 ?_));refine⟨⟨by omega,by omega,rfl,Lj hid hne⟩,?_⟩;rw[e];refine A8 ?_;simp only[FA,hid,wO,DN,DR,hu,Jw,xL,xM,xF,xG];refine A8 ?_;refine AI (mL u) ?_;rintro v rfl;refine A8 ?_;refine Jd (by simp) (Jd (by simp) ?_);exact A8 (pk (A8 (pk (pk (fin i false hf)))))
  ·have b1:decide ((i:Int)<(l.length:Int))=false:=by simpa using hi
   rw[b1];refine Jd (by simp) (Jd (by simp) (Jd (by simp) (Jd (by simp) (Jd (by simp) (Jd (by simp) (Jd (by simp) ?_))))));refine Tl (Tl (Tl (Tl (Tl (Tl (Tl (Tl (Tl ?_))))))));exact Jd (by simp) (pk (fin i false ⟨h3,by simp,fun _=>⟨h4,fun x hx=>by rw[Cf (by omega)] at hx; cases hx⟩⟩))
 | succ d ih=>
  intro i j h1 h2 h3 h4 h5
  by_cases hij:i<j
  ·refine fO (BE ?_)
   have b1:decide ((i:Int)<(j:Int))=true:=by simpa using hij
   rw[b1];refine BZ (AFm (Cr (by omega) (by omega) ?_))
   have hw1:IntKind.u64.wrap ((i:Int)+j)=(i:Int)+j:=by
    unfold IntKind.wrap;simp[IntKind.bits,IntKind.signed];omega
   have AJj:∀ (K:AV->Prop),K (.pv (.sc (.int .u64 ((i:Int)+j))))->Mf .u64 (AD ((i:Int)+j)) K:=by
    intro K h;simp only[Mf,hw1];exact h
   refine AJj _ ?_
   have APJ:∀ (K:AV->Prop),K (.pv (.sc (.int .u64 (((i+j) / 2:Nat):Int))))->Dx .u64 .shr (.pv (.sc (.int .u64 ((i:Int)+j)))) (.pv (.sc (.int .u64 1))) K:=by
    intro K h;refine⟨⟨rfl,rfl⟩,by omega,?_⟩
    have e:((i:Int)+j).fdiv (2 ^ (min (1:Int).toNat IntKind.u64.bits))=(((i+j) / 2:Nat):Int):=by
     have:(2:Int) ^ (min (1:Int).toNat IntKind.u64.bits)=2:=by decide
     rw[this,Int.fdiv_eq_ediv_of_nonneg _ (by omega)];omega
    rw[e];exact h
   refine APJ _ ?_
   have hw2:IntKind.i64.wrap ((((i+j) / 2:Nat):Int))=(((i+j) / 2:Nat):Int):=by
    unfold IntKind.wrap;simp[IntKind.bits,IntKind.signed];omega
   have AFn:∀ (K:AV->Prop),K (AD (((i+j) / 2:Nat):Int))->Mf .i64 (.pv (.sc (.int .u64 (((i+j) / 2:Nat):Int)))) K:=by
    intro K h;simp only[Mf,hw2];exact h
   refine AFn _ ?_;generalize hh:(i+j) / 2=h at *;obtain⟨u,hu⟩:∃ u,l[h]?=some u:=⟨_,Ak (by omega)⟩;refine ze hid hne hu ?_;refine AI (mM u w) ?_;rintro v rfl;have hsa:=WV hs hu
   by_cases hlt:u<w
   ·rw[Au hlt]
    refine BZ (Cr (by omega) (by omega) ?_);have:=ih (h+1) j (by omega) (by omega) h3 (fun x hx=>by have:=hsa.1 x hx; omega) h5;simpa using this
   ·rw[A9 hlt]
    exact BQ (ih i h (by omega) (by omega) (by omega) h4 (fun x hx=>by have:=hsa.2.1 x hx; omega))
  ·exact ih i j (by omega) h2 h3 h4 h5
theorem Yh {w:Int} {l:List Int} (hs:l.Pairwise (·<·)) {x:AV} {s:AK} (hx:sH s.bs l x) (hl:l.length<2 ^ 40) :
  ∃ v,(∃ (i:Nat) (b:Bool),v=.tuple [AD i,BB b]/\Found l w i b)/\∀ L,BC (env R) L 142 [x,AD w] s v s:=by
 rcases hx with ⟨rfl,rfl⟩|⟨id,rfl,hid,hne⟩
 ·have:AW (env R) 142 [.AA [],AD w] fun v=>∃ (i:Nat) (b:Bool),v=.tuple [AD i,BB b]/\Found [] w i b:=by
   refine APK (u0:=.AA []) (u1:=AD w) (by simp) (sJ ?_);simp;refine fO ?_;simp;refine sI ?_;simp[QP,QI];exact⟨0,by simp[Found]⟩
  obtain⟨v,h1,h2⟩:=this;exact⟨v,h1,fun L=>h2 L s⟩
 ·have Bu:AN [] 0 0 [.ref id 0 l.length 1,AD w]=none:=by simp[AN,Tel.close,I4]
  refine i142 Bu (sJ ?_);have hal:=Lj hid hne
  have hlen:∀ K:AV->Prop,K (AD l.length)->Bz s (.ref id 0 l.length 1) K:=by
   intro K h;simp only[Bz,Bk,hal,AE,wO];exact h
  refine hlen _ ?_;exact Yg hs hid hne hl (fun i b h=>⟨i,b,rfl,h⟩) _ 0 l.length (AL _) (by omega) (AL _) (fun u hu=>by simp at hu) (fun u hu=>by simp at hu)
end
mutual
def bZ (u:Nat):Ty->List Int
 | .mk k _ i ts=>(bif k==5&&decide ((u:Int)<=i) then [i-u] else [])++PT u k 0 ts
def PT (u:Nat) (k:Int) (j:Nat):List Ty->List Int
 | []=>[]
 | t::l=>bZ (u+HF k j) t++PT u k (j+1) l
end
mutual
theorem Tn:∀ (t:Ty) (u:Nat),bZ u t=[]<->Dg u t=true
 | .mk k n i ts,u=>by
  rw[bZ,Dg];cases k==5&&decide ((u:Int)<=i) with
  | true=>simp
  | false=>simpa using WW ts u k 0
theorem WW:∀ (l:List Ty) (u:Nat) (k:Int) (j:Nat),PT u k j l=[]<->Eg u k j l=true
 | [],_,_,_=>by simp[PT,Eg]
 | t::l,u,k,j=>by
  rw[PT,Eg,hY,Tn t,WW l,AG]
end
mutual
theorem fP:∀ (t:Ty) (u:Nat),(bZ u t).length<=size t
 | .mk k n i ts,u=>by
  have:=j4 ts u k 0;rw[bZ,size,Ab];cases k==5&&decide ((u:Int)<=i) <;> simp <;> omega
theorem j4:∀ (l:List Ty) (u:Nat) (k:Int) (j:Nat),(PT u k j l).length<=Ac l
 | [],_,_,_=>by simp[PT]
 | t::l,u,k,j=>by
  have:=fP t (u+HF k j);have:=j4 l u k (j+1);rw[PT,Ac,Ab];omega
end
mutual
def ixs:Ty->Bool
 | .mk k _ i ts=>(!(k==5)||(decide (-(2 ^ 60)<=i)&&decide (i<2 ^ 60)))&&mN ts
def mN:List Ty->Bool
 | []=>true
 | t::l=>ixs t&&mN l
end
theorem fQ {l:List Int} {w x:Int} {i:Nat}:x∈l.take i++w::l.drop i<->x∈l\/x=w:=by
 rw[BL,Av]
 have:x∈l<->x∈l.take i\/x∈l.drop i:=by
  rw[<-BL,OT]
 rw[this];constructor
 ·rintro(h|h|h)
  ·exact .inl (.inl h)
  ·exact .inr h
  ·exact .inl (.inr h)
 ·rintro((h|h)|h)
  ·exact .inl h
  ·exact .inr (.inr h)
  ·exact .inr (.inl h)
theorem Tp {l:List Int} {w:Int} {i:Nat} (hi:i<=l.length):(l.take i++w::l.drop i).length=l.length+1:=by
 simp;omega
theorem insert_sorted {l:List Int} {w:Int} {i:Nat} (hs:l.Pairwise (·<·)) (h1:∀ u∈l.take i,u<w) (h2:∀ u∈l.drop i,w<u):(l.take i++w::l.drop i).Pairwise (·<·):=by
 rw[List.pairwise_append,List.pairwise_cons];refine⟨hs.sublist (List.take_sublist _ _),⟨h2,hs.sublist (List.drop_sublist _ _)⟩,fun a ha b hb=>?_⟩;rcases Av.1 hb with rfl|hb
 ·exact h1 a ha
 ·have:=h1 a ha
  have:=h2 b hb;omega
def NS (q:Nat) (l:List Int) (bs:List (List AV)):Prop:=∃ x,bs[q]?=some [x]/\sH bs l x
structure cz (q:Nat) (l l':List Int) (new:List Int) (s s':AK):Prop where
 ns:NS q l' s'.bs
 srt:l.Pairwise (·<·)->l'.Pairwise (·<·)
 mem:∀ x,x∈l'<->x∈l\/x∈new
 len:l'.length<=l.length+new.length
 ts:s'.ts=s.ts
 grow:s.bs.length<=s'.bs.length
 keep:∀ (p:Nat) (k n:AV) (r:List AV),(∀ i,n≠AD i)->s.bs[p]?=some (k::n::r)->s'.bs[p]?=some (k::n::r)
section
variable {R:RT}
theorem zf (l:List Int):(l.map fun n=>AD n).all Ar=true:=by
 rw[Bs];intro x hx;obtain⟨w,_,rfl⟩:=Bb.1 hx;rfl
theorem bq {w:Int} {l:List Int} {x:AV} {s:AK} {q i:Nat} (hq:s.bs[q]?=some [x]) (hx:sH s.bs l x) (hl:l.length<2 ^ 20) (hi:i<=l.length) {L:A0} (hro:L.ro=0) :
  ∃ id bs',BC (env R) L 143 [x,AD i,.AA [[.sc (.int .i64 w)]]] s (.ref id 0 (l.length+1) 1) ⟨bs',s.ts⟩/\bs'[id]?=some ((l.take i++w::l.drop i).map fun n=>AD n)/\bs'[q]?=some [x]/\q≠id/\s.bs.length<=bs'.length/\q<bs'.length /\
   (∀ (p:Nat) (k n:AV) (r:List AV),(∀ i,n≠AD i)->s.bs[p]?=some (k::n::r)->bs'[p]?=some (k::n::r)):=by
 have hql:q<s.bs.length:=(Ae.1 hq).1;have ei:(AD i)=.pv (.sc (.int .i64 (.ofNat i))):=rfl;rcases hx with ⟨rfl,rfl⟩|⟨id,rfl,hid,hne⟩
 ·have hi0:i=0:=by simpa using hi
  subst hi0;refine⟨s.bs.length,s.bs++[[AD w]],BC.j0 Tryz.func143 (by kernel_rfl) (T:=Xs) (by kernel_rfl) ?_,?_,?_,by omega,by simp,by simp; omega,?_⟩
  ·simp only[Xs]
   simp[Ar]
  ·simp
  ·rw[BA hql,hq]
  ·intro p k n r _ hp
   have:p<s.bs.length:=(Ae.1 hp).1;rw[BA this,hp]
 ·have hil:id<s.bs.length:=(Ae.1 hid).1
  have AEW:id≠q:=by
   intro e;subst e;rw[hq] at hid;cases l with
   | nil=>exact hne rfl
   | cons c r=>simp at hid
  have h1:1<=l.length:=by
   cases l with
   | nil=>exact absurd rfl hne
   | cons c r=>simp
  refine⟨s.bs.length,s.bs.set id []++[(l.take i++w::l.drop i).map fun n=>AD n],BC.j0 Tryz.func143 (by kernel_rfl) (T:=Xs) (by kernel_rfl) ?_,?_,?_,by omega,by simp,by simp; omega,?_⟩
  ·have b1:Nat.beq l.length (l.map fun n=>AD n).length=true:=by simp
   have b2:Nat.ble 1 l.length=true:=by simpa using h1
   have b3:Nat.ble i l.length=true:=by simpa using hi
   have b4:Nat.ble l.length 1000000000=true:=by simp; omega
   have b5:Nat.ble L.ro id=true:=by simp[hro]
   have b6:=zf l;simp only[Xs,hid,Ar,b1,b2,b3,b4,b5,b6,GR,AE];simp[List.map_take,List.map_drop]
  ·rw[CV (by simp)]
   simp
  ·rw[BA (by simpa using hql),Cd AEW,hq]
  ·intro p k n r cq hp
   have JM:p<s.bs.length:=(Ae.1 hp).1
   have:id≠p:=by
    intro e;subst e;rw[hp] at hid;rcases l with _|⟨a,_|⟨b,l⟩⟩
    ·exact hne rfl
    ·simp at hid
    ·simp only[CI,AY,Jz] at hid
     exact cq b hid.2.1
   rw[BA (by simpa using JM),Cd this,hp]
theorem sK {w:Int} {l:List Int} (hsd:l.Pairwise (·<·)) {s:AK} {q:Nat} (hns:NS q l s.bs) (hl:l.length<2 ^ 20) {L:A0} (hro:L.ro=0) (hn0:L.n0=0) :
  ∃ v s',(v=.tuple []/\∃ l',cz q l l' [w] s s')/\BC (env R) L 118 [.ptr q 0,AD w] s v s':=by
 obtain⟨x,hq,hx⟩:=hns;have hql:q<s.bs.length:=(Ae.1 hq).1;refine APL (AFo (GG (A7 hq) (Aq (A7 hq) (Ax (off:=0) hq rfl ?_))));obtain⟨v,⟨i,b,rfl,hf⟩,hc⟩:=Yh (R:=R) (w:=w) hsd hx (by omega);refine⟨_,_,hc _,Bq rfl (Bq rfl (nt ?_))⟩;obtain⟨hi,hb,hfb⟩:=hf;cases b with
 | true=>
  refine BQ ⟨rfl,l,⟨x,hq,hx⟩,fun h=>h,fun y=>⟨.inl,?_⟩,by simp,rfl,AL _,fun _ _ _ _ _ h=>h⟩;rintro(h|h)
  ·exact h
  ·simp only[Av,Fs,FL] at h
   rw[h];exact BK (hb rfl)
 | false=>
  obtain⟨h8,h9⟩:=hfb rfl;obtain⟨id,bs',h1,h2,h3,h4,h5,h6,h7⟩:=bq (R:=R) (w:=w) hq hx hl hi (L:=Ca (env R) 118 L.n0 L.ro L.rt) hro;refine BZ (GG (A7 hq) (Aq (A7 hq) (Ax (off:=0) hq rfl (YL ?_))));refine⟨_,_,h1,GG (A7 h3) (Aq (A7 h3) (Fl h3 (by simp) rfl (by simp[Ca,hro]) rfl (.inl (by simp[Ca,hn0])) ?_))⟩;have AEf:∀ y,(bs'.set q y)[q]?=some y:=fun y=>by simp[h6]
  refine⟨rfl,l.take i++w::l.drop i,⟨_,AEf _,.inr ⟨id,by rw[Tp hi],by simp only; rw[Cd h4]; exact h2,by simp⟩⟩,fun hs=>insert_sorted hs h8 h9,fun y=>?_,by rw[Tp hi]; simp,rfl,by simpa using h5,?_⟩
  ·rw[fQ]
   simp
  ·intro p k n r cq hp
   have:q≠p:=by
    intro e;subst e;rw[hq] at hp;simp at hp
   simp only;rw[Cd this];exact h7 p k n r cq hp
theorem cz.refl {q:Nat} {l:List Int} {s:AK} (h:NS q l s.bs):cz q l l [] s s:=⟨h,fun h=>h,by simp,by simp,rfl,AL _,fun _ _ _ _ _ h=>h⟩
theorem cz.trans {q:Nat} {l l1 l2 n1 n2:List Int} {s s1 s2:AK} (h1:cz q l l1 n1 s s1) (h2:cz q l1 l2 n2 s1 s2):cz q l l2 (n1++n2) s s2:=by
 refine⟨h2.ns,fun h=>h2.srt (h1.srt h),fun x=>?_,?_,by rw[h2.ts,h1.ts],Bh h1.grow h2.grow,fun p k n r hn h=>h2.keep p k n r hn (h1.keep p k n r hn h)⟩
 ·rw[h2.mem,h1.mem,BL]
  constructor
  ·rintro((h|h)|h)
   ·exact .inl h
   ·exact .inr (.inl h)
   ·exact .inr (.inr h)
  ·rintro(h|h|h)
   ·exact .inl (.inl h)
   ·exact .inl (.inr h)
   ·exact .inr h
 ·have:=h1.len
  have:=h2.len;rw[Ab];omega
theorem cz.push {q:Nat} {l:List Int} {s:AK} (h:NS q l s.bs) (b:List AV):cz q l l [] s ⟨s.bs++[b],s.ts⟩:=by
 obtain⟨x,hq,hx⟩:=h;have hql:q<s.bs.length:=(Ae.1 hq).1;refine⟨⟨x,by rw[BA hql,hq],?_⟩,fun h=>h,by simp,by simp,rfl,by simp,fun p k n r _ hp=>?_⟩
 ·rcases hx with ⟨h1,h2⟩|⟨id,h1,h2,h3⟩
  ·exact .inl ⟨h1,h2⟩
  ·exact .inr ⟨id,h1,by rw[BA (Ae.1 h2).1,h2],h3⟩
 ·rw[BA (Ae.1 hp).1,hp]
def sL (R:RT) (t:Ty):Prop:=∀ (x:AV),Bp t x->∀ (u:Nat),u+size t<2 ^ 30->∀ (q:Nat) (l:List Int) (s:AK) (L:A0),l.Pairwise (·<·)->NS q l s.bs->l.length+size t<2 ^ 19->L.ro=0->L.n0=0 ->
 ∃ v s',(v=.tuple []/\∃ l',cz q l l' (bZ u t) s s')/\BC (env R) L 87 [x,AD u,.ptr q 0] s v s'
theorem sM (n:List UInt8) (i:Int):SS n≠AD i:=by simp
theorem mO {k0 i0:Int} {n0':List UInt8} {ts:List Ty} {a:AV} (ha:BP a (AQ ts)) (hl:Ac ts<2 ^ 30) (ih:∀ t∈ts,sL R t) {u q b0:Nat} (hu:u+Ac ts+1<2 ^ 30) {l0:List Int} (hs0:l0.Pairwise (·<·)) {s0:AK} {L:A0} (hro:L.ro=0) (hn0:L.n0=0) {Post:AV->AK->Prop} {pre:List Int}
  (hP:∀ l' s',cz q l0 l' (pre++PT u k0 0 ts) s0 s'->Post (.tuple []) s') (hlen:l0.length+pre.length+Ac ts<2 ^ 19) :
  ∀ (j i:Nat) (l:List Int) (s:AK) (don:List Int),i+j=ts.length->s.bs[b0]?=some [AD k0,SS n0',AD i0,a]->cz q l0 l (pre++don) s0 s->don++PT u k0 i (ts.drop i)=PT u k0 0 ts->don.length+Ac (ts.drop i)<=Ac ts->j5 R L.n0 L.ro L.rt (AD u) (.ptr q 0) (.ptr b0 0) a (AD ts.length) (AD i) s Post:=by
 have l5:=Cq ts;intro j
 induction j with
 | zero=>
  intro i l s don hi hb hs hd _;refine ABK (BE ?_);have h1:¬ ((i:Int)<ts.length):=by omega
  rw[A9 h1];refine BQ ?_;have h2:ts.drop i=[]:=Cf (by omega);rw[h2] at hd;simp only[PT,IC] at hd;rw[hd] at hs;exact hP l s hs
 | succ j Gs=>
  intro i l s don hi hb hs hd hsz;refine ABK (BE ?_);have h1:((i:Int)<ts.length):=by omega
  rw[Au h1];refine BZ (AJk ?_);obtain⟨t,ht⟩:∃ t,ts[i]?=some t:=⟨_,Ak (by omega)⟩;rw[drop_cons ht] at hd hsz;simp only[PT,Ac] at hd hsz;refine CS ha (row:=Ah t) (by omega) (by simpa using CA ht) (Am t) (by omega) (EU ?_);have JJ:=Bp.Ci t;have Ow:=Su k0 i;have nV:=Ig (BK ht);have AJl:=ih t (BK ht) _ JJ (u+HF k0 i) (by omega);have hrl:((Ah t).map AV.pv).length=4:=by rw[AZ,Am]
  have AJm:=DZ t;have HY:=PL t;have hst:=cz.push hs.ns ((Ah t).map AV.pv);have hlb:=hs.len;simp only[Ab] at hlb;have hfl:=fP t (u+HF k0 i);generalize (Ah t).map AV.pv=row at AJl hrl AJm HY hst;obtain⟨bs,tk⟩:=s;refine Cj (Ck (Ay bs Z4) hrl rfl (by decide) (by simp[Ca,hro]) AJm (.inl (by simp[Ca,hn0])) ?_);have e1:(bs++[Z4]).set bs.length row=bs++[row]:=by simp
  simp only at hst hb hs;rw[e1];have gb:=A6 hb row;refine Az (Ay bs row) hrl (Az gb rfl ?_);have Xq:AW (env R) 119 [.agg [AD k0,SS n0',AD i0,a],AD i] fun r=>r=AD (HF k0 i):=LW ha i
  refine AI Xq ?_;rintro _ rfl;refine Cr (by omega) (by omega) ?_;have e2:((u:Int)+(HF k0 i:Nat))=((u+HF k0 i:Nat):Int):=by omega
  rw[e2];obtain⟨v,s1,⟨rfl,l1,h3⟩,hc⟩:=AJl q l ⟨bs++[row],tk⟩ (Ca (env R) 87 L.n0 L.ro L.rt) (hs.srt hs0) hst.ns (by omega) hro hn0;refine⟨_,_,hc,Az (Ay bs row) hrl HY,?_⟩;refine AJn (Cr (by omega) (by omega) ?_);have hall:=(hs.trans hst).trans h3;simp only[IC,DI] at hall
  have:=Gs (i+1) l1 s1 (don++bZ (u+HF k0 i) t) (by omega) (h3.keep _ _ _ _ (sM _) gb) hall (by rw[DI]; exact hd) (by
   rw[Ab];omega)
  simpa using this
mutual
theorem WX:∀ (t:Ty),ixs t=true->sL R t
 | .mk k n i ts,SM=>by
  intro x hx u hu q l s L hsd hns hl hro hn0;obtain⟨a,rfl,ha⟩:=hx;simp only[size] at hl hu;simp only[ixs,AG] at SM;have ih:=Tq ts SM.2
  suffices H:∀ Post:AV->AK->Prop,(∀ l' s',cz q l l' (bZ u (.mk k n i ts)) s s'->Post (.tuple []) s')->sN R L.n0 L.ro L.rt (.agg [AD k,SS n,AD i,a]) (AD u) (.ptr q 0) s Post from
   m87 (H _ fun l' s' h=>⟨rfl,l',h⟩)
  intro Post hP;have hst:=cz.push hns [AD k,SS n,AD i,a];have g0:=Ay s.bs [AD k,SS n,AD i,a];refine AJo (DY (cs:=[AD k,SS n,AD i,a]) rfl (by simp[ha.ok]) (Aq (A7 g0) (Ax (off:=0) g0 rfl (CC ?_))))
  have tail:∀ (pre l1:List Int) (s1:AK),cz q l l1 pre s s1->pre++PT u k 0 ts=bZ u (.mk k n i ts)->pre.length<=1->s1.bs[s.bs.length]?=some [AD k,SS n,AD i,a]->j6 R L.n0 L.ro L.rt (AD u) (.ptr q 0) (.ptr s.bs.length 0) s1 Post:=by
   intro pre l1 s1 h1 h2 h3 h4;refine AJp (Aq (A7 h4) (Ax (off:=3) h4 rfl (BS (n:=ts.length) (by rw[ha.Bk,Ad]) ?_)));exact mO (R:=R) (q:=q) (l0:=l) (s0:=s) (L:=L) (pre:=pre) (Post:=Post) ha (by omega) ih (by omega) hsd hro hn0 (fun l' s' h=>hP l' s' (by rw[<-h2]; exact h)) (by omega) ts.length 0 l1 s1 [] (by omega) h4 (by simpa using h1) (by simp) (by simp)
  cases hk:(k==5) with
  | true=>
   have e2:k=5:=by simpa using hk
   subst e2;have APM:=SM.1;simp at APM;refine A8 (Aq (A7 g0) (A8 (Ax (off:=2) g0 rfl (A8 (A8 (QF (pk ?_)))))))
   by_cases hui:(u:Int)<=i
   ·have:i>=(u:Int):=hui
    rw[Au this];refine BZ (Aq (A7 g0) (Ax (off:=2) g0 rfl (Le (by omega) (by omega) ?_)));refine CR (sK (R:=R) (w:=i-u) (q:=q) (s:=⟨s.bs++[[AD 5,SS n,AD i,a]],s.ts⟩) (l:=l) (L:=Ca (env R) 87 L.n0 L.ro L.rt) hsd hst.ns (by omega) hro hn0) ?_;rintro v s1 ⟨rfl,l1,h1⟩;refine tail [i-u] l1 s1 ?_ ?_ (by simp) (h1.keep _ _ _ _ (sM _) g0)
    ·simpa using hst.trans h1
    ·simp[bZ,hui]
   ·have:¬ i>=(u:Int):=hui
    rw[A9 this];exact BQ (tail [] l _ hst (by simp[bZ,hui]) (by simp) g0)
  | false=>
   refine Cy (Cy (Cy (Cy (pk (BQ ?_)))));exact tail [] l _ hst (by simp[bZ,hk]) (by simp) g0
theorem Tq:∀ (l:List Ty),mN l=true->∀ t∈l,sL R t
 | [],_,_,h=>by cases h
 | e::l,SM,a,h=>by
  simp only[mN,AG] at SM;rcases Av.1 h with h' | h'
  ·rw[h']
   exact WX e SM.1
  ·exact Tq l SM.2 a h'
end
theorem sH.closed {bs:List (List AV)} {l:List Int} {x:AV} (h:sH bs l x):∃ x',close bs 0 0 x=some x'/\BP x' (A4 l):=by
 rcases h with ⟨rfl,rfl⟩|⟨id,rfl,hid,hne⟩
 ·exact⟨.AA [],by simp[close],by simp[A4]; exact .AA _⟩
 ·have hpv:∀ l:List Int,Cn (l.map fun n=>AD n)=some (l.map fun w=>PV.sc (.int .i64 w)):=by
   intro l
   induction l with
   | nil=>rfl
   | cons w l ih=>simp[Cn,I3,ih]
  have hrb:∀ l:List Int,B6 1 l.length (l.map fun w=>PV.sc (.int .i64 w))=A4 l:=by
   intro l
   induction l with
   | nil=>rfl
   | cons w l ih=>simp[B6,A4,ih]
  have sO:(l.map fun n=>AD n).isEmpty=false:=by
   cases l with
   | nil=>exact absurd rfl hne
   | cons c r=>rfl
  refine⟨.pv (.list (A4 l)),?_,.list _⟩
  have ht:((l.map fun n=>AD n).drop 0).take (l.length*1)=l.map fun n=>AD n:=by
   rw[Fv,CL (by simp)]
  simp only[close,I4,hid,sO,ht,hpv,hrb];simp
theorem U3 {t:Ty} (h:size t<2 ^ 18) (SM:ixs t=true) {x:AV} (hx:Bp t x):AW (env R) 43 [x] fun r=>∃ l:List Int,BP r (A4 l)/\l.Pairwise (·<·)/\(∀ w,w∈l<->w∈bZ 0 t):=by
 have hc:=WX (R:=R) t SM x hx 0 (by omega) 1 [];have hle:=fP t 0;generalize hn:bZ 0 t=N at *;generalize size t=z at *;obtain⟨k,n,i,ts⟩:=t;obtain⟨a,rfl,ha⟩:=hx;refine e43 (u0:=.agg [AD k,SS n,AD i,a]) (by simp[ha.close]) (AJq ?_);refine DY (cs:=[AD k,SS n,AD i,a]) rfl (by simp[ha.ok]) (Cj (Az (cs:=[AD k,SS n,AD i,a]) rfl rfl ?_));refine CR (hc ⟨[[AD k,SS n,AD i,a],[.AA []]],[]⟩ (Ca (env R) 43 0 0 0) List.Pairwise.nil ⟨.AA [],rfl,.inl ⟨rfl,rfl⟩⟩ (by simp; omega) rfl rfl) ?_;rintro v s1 ⟨rfl,l',h1⟩;obtain⟨y,hy,hw⟩:=h1.ns;obtain⟨y',Bu,hr⟩:=hw.closed;refine Aq ?_ (Ax (off:=0) hy rfl ?_)
 ·exact A7 hy
 ·exact⟨y',Bu,l',hr,h1.srt List.Pairwise.nil,fun w=>by rw[h1.mem]; simp⟩
end
theorem bt:∀ l:List UInt8,Op.bytesLess l l=false
 | []=>rfl
 | c::l=>by
  rw[Op.bytesLess,bt l];simp
theorem AFp {a b:List UInt8} {K:AV->Prop} (h:K (BB (Op.bytesLess a b))):Hv .lss (SS a) (SS b) K:=h
theorem AFq {a b:List UInt8} {K:AV->Prop} (h:K (BB (!(Op.bytesLess a b||(a==b))))):Hv .gtr (SS a) (SS b) K:=h
theorem AFr {a b:List UInt8} {K:AV->Prop} (h:K (BB (!(a==b)))):Hv .neq (SS a) (SS b) K:=h
def j7:List Int->Int
 | []=>0
 | c::l=>bif c==0 then j7 l else c
theorem b9:∀ l:List Int,j7 l=0<->∀ c∈l,c=0
 | []=>by simp[j7]
 | c::l=>by
  rw[j7];cases h:c==0 with
  | true=>
   have:c=0:=by simpa using h
   simp[b9 l,this]
  | false=>
   have:c≠0:=by simpa using h
   simp[this]
section
variable {R:RT}
theorem Tr (w:List UInt8):AW (env R) 153 [SS w] fun r=>r=BB false:=
 APN (u0:=SS w) (by simp) (AFs (AFr ⟨_,Ic,by simp⟩))
theorem QZ (a b:Int):AW (env R) 132 [AD a,AD b] fun r=>∃ c:Int,r=AD c/\(c=0<->a=b):=by
 refine APO (u0:=AD a) (u1:=AD b) (by simp) (AFt ?_);refine AI (QY a) ?_;rintro v rfl;refine AI (QY b) ?_;rintro v rfl;refine BQ (AFu (BQ (AFv (BE ?_))))
 by_cases h1:a<b
 ·rw[Au h1]
  exact BZ ⟨_,Ic,-1,rfl,by omega⟩
 ·rw[A9 h1]
  refine BQ (AFw (Je ?_))
  by_cases h2:a>b
  ·rw[Au h2]
   exact BZ ⟨_,Ic,1,rfl,by omega⟩
  ·rw[A9 h2]
   exact BQ (AFx ⟨_,Ic,0,rfl,by omega⟩)
theorem mP (a b:List UInt8):AW (env R) 133 [SS a,SS b] fun r=>∃ c:Int,r=AD c/\(c=0<->a=b):=by
 refine APP (u0:=SS a) (u1:=SS b) (by simp) (AFy ?_);refine AI (Tr a) ?_;rintro v rfl;refine AI (Tr b) ?_;rintro v rfl;refine BQ (AFz (BQ (AF0 (AFp ?_))));cases h1:Op.bytesLess a b with
 | true=>
  refine BZ ⟨_,Ic,-1,rfl,?_⟩;constructor
  ·intro h
   omega
  ·rintro rfl
   rw[bt] at h1;cases h1
 | false=>
  refine BQ (AF1 (AFq ?_));rw[h1];cases h2:(a==b) with
  | true=>exact BQ (AF2 ⟨_,Ic,0,rfl,by simpa using h2⟩)
  | false=>exact BZ ⟨_,Ic,1,rfl,by simpa using h2⟩
theorem zg {l:List Int} {y:AV} (hy:BO y (A4 l)) (hl:l.length<2 ^ 40) {Post:AV->Prop} (hP:Post (AD (j7 l))) :
  ∀ (j p:Nat) (s:AK),p+j=l.length->j7 (l.drop p)=j7 l->Yi R 0 0 0 (AD 0) y (AD l.length) (AD p) s (QP Post):=by
 intro j
 induction j with
 | zero=>
  intro p s hi ho;refine sP (BE ?_);rw[A9 (by omega)];rw[Cf (by omega),j7] at ho;exact BQ (AF3 ⟨_,Ic,by rw[ho]; exact hP⟩)
 | succ j Gs=>
  intro p s hi ho;refine sP (BE ?_);rw[Au (by omega)];obtain⟨c,hc⟩:∃ c,l[p]?=some c:=⟨_,Ak (by omega)⟩;rw[drop_cons hc,j7] at ho;refine BZ (AF4 (B7 hy (row:=[.sc (.int .i64 c)]) (by omega) (by simp[A4,hc]) rfl (by omega) (Lh (Fk ?_))));cases h:c==0 with
  | true=>
   have:(c != 0)=false:=by simp[bne,h]
   rw[this];rw[h] at ho;refine BQ (AF5 (Cr (by omega) (by omega) ?_));have:=Gs (p+1) s (by omega) ho;simpa using this
  | false=>
   have:(c != 0)=true:=by simp[bne,h]
   rw[this];rw[h] at ho;exact BZ ⟨_,Ic,by rw[<-ho] at hP; exact hP⟩
theorem zh {l:List Int} {y:AV} (hy:BP y (A4 l)) (hl:l.length<2 ^ 40):AW (env R) 131 [y] fun r=>r=AD (j7 l):=by
 refine APQ (u0:=y) (by simp[AN,hy.close]) (AF6 (BS (n:=l.length) (by rw[hy.Bk,Dy]) ?_));exact zg (Post:=fun r=>r=AD (j7 l)) (.inl hy) hl rfl l.length 0 _ (by omega) rfl
theorem APR {a b c d:Int} {s:AK} {K:AV->AK->Prop} (h:K (.AA (A4 [a,b,c,d])) s):D4 false s 1 [(AD 0)] 4 [(0,1,AD a),(1,1,AD b),(2,1,AD c),(3,1,AD d)] K:=by
 simp[D4,Fh,B6];exact h
theorem mQ {k i k' i':Int} {n n':List UInt8} {ts ts':List Ty} {a a':AV} (ha:BP a (AQ ts)) (Hs:BP a' (AQ ts')) (hl:ts.length<2 ^ 40) (he:ts.length=ts'.length)
  (ih:∀ t∈ts,∀ (t':Ty) (x x':AV),Bp t x->Bp t' x'->AW (env R) 104 [x,x'] fun r=>∃ c:Int,r=AD c/\(c=0<->t=t')) {s:AK} (g0:s.bs[0]?=some [AD k,SS n,AD i,a]) (g1:s.bs[1]?=some [AD k',SS n',AD i',a']) {Post:AV->Prop} (hP:∀ c:Int,(c=0<->ts=ts')->Post (AD c)) :
  ∀ (j p:Nat) (c:Int),p+j=ts.length->(c=0->ts.take p=ts'.take p)->(c≠0->ts≠ts')->Ts R 0 0 0 (.ptr 0 0) (.ptr 1 0) (AD c) (AD p) s (QP Post):=by
 intro j
 have done:∀ (p:Nat) (c:Int),c≠0->(c≠0->ts≠ts')->Ts R 0 0 0 (.ptr 0 0) (.ptr 1 0) (AD c) (AD p) s (QP Post):=by
  intro p c hc h;refine Yj (CC ?_);have:(c==0)=false:=by simpa using hc
  rw[this];exact Cy (Cy (Cy (Cy (Cy (pk (BQ (fS ⟨_,Ic,hP c (by simp only[hc,false_iff]; exact h hc)⟩)))))))
 induction j with
 | zero=>
  intro p c hi h0 h1
  by_cases hc:c=0
  ·subst hc
   refine Yj (CC (A8 (A8 (Aq (A7 g0) (A8 (Ax (off:=3) g0 rfl (A8 (BS (n:=ts.length) (by rw[ha.Bk,Ad]) (A8 (BE (pk ?_)))))))))));rw[A9 (by omega)];have:=h0 rfl;rw[CL (by omega),CL (by omega)] at this;exact BQ (fS ⟨_,Ic,hP 0 (by simp[this])⟩)
  ·exact done p c hc h1
 | succ j Gs=>
  intro p c hi h0 h1
  by_cases hc:c=0
  ·subst hc
   refine Yj (CC (A8 (A8 (Aq (A7 g0) (A8 (Ax (off:=3) g0 rfl (A8 (BS (n:=ts.length) (by rw[ha.Bk,Ad]) (A8 (BE (pk ?_)))))))))));rw[Au (by omega)];obtain⟨t,ht⟩:∃ c,ts[p]?=some c:=⟨_,Ak (by omega)⟩;obtain⟨t',ht'⟩:∃ c,ts'[p]?=some c:=⟨_,Ak (by omega)⟩;have hpre:=h0 rfl;refine BZ (AF7 (Aq (A7 g0) (Ax (off:=3) g0 rfl (CS ha (row:=Ah t) (by omega) (by simpa using CA ht) (Am _) (by omega) (EU (Aq (A7 g1) (Ax (off:=3) g1 rfl (CS Hs (row:=Ah t') (by omega) (by simpa using CA ht') (Am _) (by omega) (EU ?_)))))))));refine AI (ih t (BK ht) t' _ _ (Bp.Ci t) (Bp.Ci t')) ?_;rintro v ⟨c,rfl,Y2⟩;refine AF8 (Cr (by omega) (by omega) ?_)
   have:=Gs (p+1) c (by omega) (fun h=>by
    rw[Gr,Gr,ht,ht',hpre,Y2.1 h]) (fun h e=>by
    subst e;rw[ht] at ht';cases ht';exact h (Y2.2 rfl))
   simpa using this
  ·exact done p c hc h1
mutual
theorem WY:∀ (t:Ty),size t<2 ^ 38->∀ (t':Ty) (x x':AV),Bp t x->Bp t' x'->AW (env R) 104 [x,x'] fun r=>∃ c:Int,r=AD c/\(c=0<->t=t')
 | .mk k n i ts,h,.mk k' n' i' ts',x,x',hx,hx'=>by
  obtain⟨a,rfl,ha⟩:=hx;obtain⟨a',rfl,Hs⟩:=hx';simp only[size] at h;have ih:=Tt ts (by omega);have hts:=Cq ts
  suffices H:∀ Post:AV->Prop,(∀ c:Int,(c=0<->Ty.mk k n i ts=Ty.mk k' n' i' ts')->Post (AD c))->fT R 0 0 0 (.agg [AD k,SS n,AD i,a]) (.agg [AD k',SS n',AD i',a']) ⟨[],[]⟩ (QP Post) from
   APS (u0:=.agg [AD k,SS n,AD i,a]) (u1:=.agg [AD k',SS n',AD i',a']) (by simp[ha.close,Hs.close]) (H _ fun c hc=>⟨c,rfl,hc⟩)
  intro Post hP;simp only[Ty.mk.injEq] at hP;refine AF9 (DY (cs:=[AD k,SS n,AD i,a]) rfl (by simp[ha.ok]) (DY (cs:=[AD k',SS n',AD i',a']) rfl (by simp[Hs.ok]) ?_));simp only[Di,BV,EZ,A3,CJ];have g0:(AK.mk [[AD k,SS n,AD i,a],[AD k',SS n',AD i',a']] []).bs[0]?=some [AD k,SS n,AD i,a]:=rfl;have g1:(AK.mk [[AD k,SS n,AD i,a],[AD k',SS n',AD i',a']] []).bs[1]?=some [AD k',SS n',AD i',a']:=rfl;generalize AK.mk [[AD k,SS n,AD i,a],[AD k',SS n',AD i',a']] []=s at g0 g1;have sa:=BO.Cu (es:=ts) (.inl ha);have sa':=BO.Cu (es:=ts') (.inl Hs);have la:∀ (s:AK) (K:AV->Prop),K (AD ts.length)->Bz s a K:=fun s K h=>BS (n:=ts.length) (by rw[ha.Bk,Ad]) h
  have la':∀ (s:AK) (K:AV->Prop),K (AD ts'.length)->Bz s a' K:=fun s K h=>BS (n:=ts'.length) (by rw[Hs.Bk,Ad]) h
  have eqs:∀ w:List UInt8,Tel.Cu (SS w) (SS w)=true:=fun w=>by simp[Tel.Cu,VF,LV]
  have xq:∀ w:Int,Tel.Cu (AD w) (AD w)=true:=fun w=>by simp[Tel.Cu,VF,JE]
  have fa0:∀ d,Bo s (.ptr 0 0) d fun v=>Tel.Cu v (.ptr 0 (0+d))=true:=fun d=>Aq (A7 g0) (HR _ _)
  have fa1:∀ d,Bo s (.ptr 1 0) d fun v=>Tel.Cu v (.ptr 1 (0+d))=true:=fun d=>Aq (A7 g1) (HR _ _)
  refine Aq (A7 g0) (Ax (off:=0) g0 rfl (Aq (A7 g1) (Ax (off:=0) g1 rfl ?_)));refine AI (QZ k k') ?_;rintro v ⟨c1,rfl,h1⟩;refine Aq (A7 g0) (Ax (off:=1) g0 rfl (Aq (A7 g1) (Ax (off:=1) g1 rfl ?_)));refine AI (mP n n') ?_;rintro v ⟨c2,rfl,h2⟩;refine Aq (A7 g0) (Ax (off:=2) g0 rfl (Aq (A7 g1) (Ax (off:=2) g1 rfl ?_)));refine AI (QZ i i') ?_;rintro v ⟨c3,rfl,h3⟩;refine Aq (A7 g0) (Ax (off:=3) g0 rfl (la _ _ (Aq (A7 g1) (Ax (off:=3) g1 rfl (la' _ _ ?_)))));refine AI (QZ ts.length ts'.length) ?_;rintro v ⟨c4,rfl,h4⟩;refine APR (AI (zh (l:=[c1,c2,c3,c4]) (.AA _) (by simp)) ?_);rintro v rfl;refine⟨fa0 1,Ax (off:=1) g0 rfl (eqs n),fa1 1,Ax (off:=1) g1 rfl (eqs n'),fa0 2,fa0 2,Ax (off:=2) g0 rfl (xq i),Ax (off:=2) g0 rfl (xq i),fa1 2,fa1 2,Ax (off:=2) g1 rfl (xq i'),Ax (off:=2) g1 rfl (xq i'),fa0 3,fa0 3,fa0 3,Ax (off:=3) g0 rfl sa,Ax (off:=3) g0 rfl sa,Ax (off:=3) g0 rfl sa,la _ _ (xq _),la _ _ (xq _),la _ _ (xq _),fa1 3,fa1 3,fa1 3,Ax (off:=3) g1 rfl sa',Ax (off:=3) g1 rfl sa',Ax (off:=3) g1 rfl sa',la' _ _ (xq _),la' _ _ (xq _),la' _ _ (xq _),?_⟩
  have hz:j7 [c1,c2,c3,c4]=0<->(k=k'/\n=n'/\i=i'/\ts.length=ts'.length):=by
   rw[b9];simp only[Av,Fs,FL,forall_eq_or_imp,forall_eq,h1,h2,h3,h4];exact⟨fun⟨e1,e2,e3,e4⟩=>⟨e1,e2,e3,by omega⟩,fun⟨e1,e2,e3,e4⟩=>⟨e1,e2,e3,by omega⟩⟩
  by_cases hall:k=k'/\n=n'/\i=i'/\ts.length=ts'.length
  ·obtain⟨rfl,rfl,rfl,hle⟩:=hall
   have h0:=hz.2 ⟨rfl,rfl,rfl,hle⟩;exact mQ ha Hs (by omega) hle ih g0 g1 (fun c hc=>hP c (by simpa using hc)) ts.length 0 _ (by omega) (fun _=>rfl) (fun h=>absurd h0 h)
  ·have hne:j7 [c1,c2,c3,c4]≠0:=fun h=>hall (hz.1 h)
   generalize j7 [c1,c2,c3,c4]=c at hne;refine Yj (CC ?_);have:(c==0)=false:=by simpa using hne
   rw[this]
   exact Cy (Cy (Cy (Cy (Cy (pk (BQ (fS ⟨_,Ic,hP c (by
    simp only[hne,false_iff];rintro⟨rfl,rfl,rfl,rfl⟩;exact hall ⟨rfl,rfl,rfl,rfl⟩)⟩)))))))
theorem Tt:∀ (l:List Ty),Ac l<2 ^ 38->∀ t∈l,∀ (t':Ty) (x x':AV),Bp t x->Bp t' x'->AW (env R) 104 [x,x'] fun r=>∃ c:Int,r=AD c/\(c=0<->t=t')
 | [],_,_,h=>by cases h
 | e::l,h,t,hm=>by
  simp only[Ac] at h;rcases Av.1 hm with h' | h'
  ·rw[h']
   exact WY e (by omega)
  ·exact Tt l (by omega) t h'
end
theorem fU {t t':Ty} {x x':AV} (h:size t<2 ^ 38) (hx:Bp t x) (hx':Bp t' x'):AW (env R) 63 [x,x'] fun r=>∃ b:Bool,r=BB b/\(b=true<->t=t'):=by
 have hc:=WY (R:=R) t h t' x x' hx hx';obtain⟨k,n,i,ts⟩:=t;obtain⟨k',n',i',ts'⟩:=t';obtain⟨a,rfl,ha⟩:=hx;obtain⟨a',rfl,Hs⟩:=hx';refine e63 (u0:=.agg [AD k,SS n,AD i,a]) (u1:=.agg [AD k',SS n',AD i',a']) (by simp[ha.close,Hs.close]) (AJr ?_);refine DY (cs:=[AD k,SS n,AD i,a]) rfl (by simp[ha.ok]) (DY (cs:=[AD k',SS n',AD i',a']) rfl (by simp[Hs.ok]) (Az (cs:=[AD k,SS n,AD i,a]) rfl rfl (Az (cs:=[AD k',SS n',AD i',a']) rfl rfl ?_)));refine AI hc ?_;rintro v ⟨c,rfl,h⟩;exact CC ⟨_,Ic,c==0,rfl,by rw[<-h]; simp⟩
end
end Go.Proofs.YtpgfpakdnijngaaGreatDoor
