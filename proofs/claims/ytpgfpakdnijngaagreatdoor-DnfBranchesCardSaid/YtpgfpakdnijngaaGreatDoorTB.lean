/-
  Branches: the program's and the reference's are alike: bounds that are put in, eliminated variables.
-/
import Derived.Test.YtpgfpakdnijngaaGreatDoorTA
import Derived.Test.YtpgfpakdnijngaaGreatDoorW1
import Derived.Test.YtpgfpakdnijngaaGreatDoorWpH
import Derived.Laws.Strings3
set_option linter.all false
namespace Go.Proofs.YtpgfpakdnijngaaGreatDoor
open Go.Tel
open List renaming length->F
open Option renaming some->Y,none->G
open Bool renaming true->Z,false->ϴ
def CD {α β:Type} (R:α->β->Prop):List α->List β->Prop
 | [],[]=>True
 | a::l,b::m=>R a b/\CD R l m
 | _,_=>False
section
variable {α β:Type}
theorem CD.mono {R S:α->β->Prop} (h:∀a b,R a b->S a b):∀{l:List α} {m:List β},CD R l m->CD S l m
 | [],[],_=>trivial
 | _::_,_::_,⟨d,e⟩=>⟨h _ _ d,e.mono h⟩
 | [],_::_,h=>h.elim
 | _::_,[],h=>h.elim
def CD.tP {R:α->β->Prop}:∀{l:List α} {m:List β},CD R l m->F l=F m
 | [],[],_=>rfl
 | _::_,_::_,⟨_,h⟩=>by simp[h.tP]
 | [],_::_,h=>h.elim
 | _::_,[],h=>h.elim
def CD.append {R:α->β->Prop}:∀{l b:List α} {m d:List β},CD R l m->CD R b d->CD R (l++b) (m++d)
 | [],_,[],_,_,h=>h
 | _::_,_,_::_,_,⟨e,f⟩,h=>⟨e,f.append h⟩
 | [],_,_::_,_,h,_=>h.elim
 | _::_,_,[],_,h,_=>h.elim
end
def La {α:Type} (Q:Ϣ->α->Ty->Prop) (B:Ϣ):Option (List α)->FT->Prop
 | none,(G,b)=>B<+:b
 | some r,(Y ps,b)=>B<+:b/\CD (Q b) r ps
 | _,_=>False
def Es {A B C:Ϣ} (h:A<+:B) (b:B<+:C):A<+:C:=h.trans b
theorem Ih {A B:Ϣ} (h:A<+:B) {i:Nat} {t:Ty} (b:A[i]?=Y t):B[i]?=Y t:=by
 obtain⟨C,rfl⟩:=h
 grind
def Fe {A B:Ϣ} (h:A<+:B):F A<=F B:=h.length_le
section
variable (A7:Nat->Bool)
def ZT {α β γ:Type} {Q:Ϣ->γ->Ty->Prop} (s:∀B e a b,B<+:e->Q B a b->Q e a b) {S:α->β->Prop} {g:α->Option (List γ)} {g':β->Ϣ->FT} {B0:Ϣ}
  (t:∀a b B,B0<+:B->S a b->La Q B (g a) (g' b B)):∀(l:List α) (m:List β) (out:List γ) (d:Ϣ) (B:Ϣ),B0<+:B->CD S l m->CD (Q B) out d->La Q B (Fl A7 g l out) (Ce A7 g' m d B)
 | [],[],out,d,B,_,_,h=>⟨C5 _,h⟩
 | [],_::_,_,_,_,_,h,_=>h.elim
 | _::_,[],_,_,_,_,h,_=>h.elim
 | a::l,b::m,out,d,B,u,⟨y,z⟩,h=>by
  have f:=t a b B u y;rw[Fl,Ce];cases x:g a with
  | none=>
   rw[x] at f;rcases n:g' b B with ⟨o,e⟩
   rw[n] at f;cases o with
   | some _=>exact f.elim
   | none=>omega
  | some r=>
   rw[x] at f;rcases n:g' b B with ⟨o,e⟩
   rw[n] at f;cases o with
   | none=>exact f.elim
   | some ps=>
    obtain⟨k,A⟩:=f;have p:CD (Q e) (out++r) (d++ps):=(h.mono λa b=>s _ _ a b k).append A;have C:F (out++r)=F (d++ps):=p.tP
    show La Q B (bif A7 (F (out++r)) then G else _) (bif A7 (F (d++ps)) then(G,e) else _)
    rw[<-C];cases A7 (F (out++r)) with
    | true=>exact k
    | false=>
     have:=ZT s t l m (out++r) (d++ps) e (Es u k) z p;simp only[AL];revert this;cases Fl A7 g l (out++r) <;> have⟨D,E⟩:=Ce A7 g' m (d++ps) e <;> cases D <;> intro this
     .exact Es k this
     .exact this
     .exact this
     .exact⟨Es k this.1,this.2⟩
end
def Mo (φ σ:Ϟ) (v:Nat) (i:Int):Nat:=bif i==AW then v else bif decide (0<=i) then φ.getD i.toNat 0 else σ.getD (-1-i).toNat 0
theorem NG {φ σ:Ϟ} {v:Nat}:Mo φ σ v AW=v:=AX
theorem S9 {φ σ:Ϟ} {v x:Nat} {i:Nat} (h:φ[i]?=Y x) (hs:F φ<AW):Mo φ σ v (i:Int)=x:=by grind[Mo]
theorem Ii {φ σ:Ϟ} {v:Nat} {i:Int} (h:i<0):Mo φ σ v i=σ.getD (-1-i).toNat 0:=by
 have b:(i==AW)=false:=by grind[AW]
 grind[Mo]
structure Rl (h:Bool) (v:Nat) (B:Ϣ) (lo hi:Nat) (σ:Ϟ) (b:Br) (p:Ty) (φ:Ϟ):Prop where
 nd:φ.Nodup
 LM:∀x∈φ,lo<=x/\x<hi
 len:F b.AN=F φ
 KA:∀(i x:Nat),φ[i]?=Y x->B[x]?=b.AN[i]?
 small:F φ<AW
 bd:bd b.AM=Z
 vis:∀i∈vis b.AM,(0<=i/\i<F φ)\/(i<0/\-i<=F σ)\/(h=Z/\i=AW)
 eq:p=tr (Mo φ σ v) b.AM
theorem Rl.mono {h:Bool} {v:Nat} {B k:Ϣ} {lo e d f:Nat} {σ:Ϟ} {b:Br} {p:Ty} {φ:Ϟ} (H:Rl h v B lo d σ b p φ) (l:B<+:k) (hb:d<=F B) (m:e<=lo) (n:d<=f):Rl h v k e f σ b p φ:=
 {H with
  LM:=λx hx=>by have:=H.LM x hx; omega
  KA:=λi x hx=>by
   have o:=H.KA i x hx;have r:=(H.LM x (A8 hx)).2
   grind[Ih] }
def UI {φ:Ϟ} {i:Int} (b:0<=i) (d:i<F φ):∃x,φ[i.toNat]?=Y x/\x∈φ:=by simp[*]
def Rl.jG {h:Bool} {v:Nat} {B:Ϣ} {lo d:Nat} {σ:Ϟ} {b:Br} {p:Ty} {φ:Ϟ} (H:Rl h v B lo d σ b p φ) {w:Nat} (l:w<lo\/d<=w) (k:w∉σ) {i:Int} (d:i∈Proofs.YtpgfpakdnijngaaGreatDoor.vis b.AM) (m:i≠AW):Mo φ σ v i≠w:=by
 rcases H.vis i d with ⟨e,f⟩|⟨e,f⟩|⟨_,f⟩
 .have⟨x,hx,hm⟩:=UI e f
  have:=H.LM x hm
  grind[Mo]
 .rw[Ii e]
  have⟨x,hx⟩:∃x,σ[(-1-i).toNat]?=Y x:=⟨_,Az AA⟩;simp only[List.getD,hx,JR];rintro rfl;exact k (A8 hx)
 omega
def Dr {l:Ϛ} {k:Nat} (h:l.findIdx? (·==AW)=Y k):l[k]?=Y AW/\∀i∈l.take k,i≠AW:=by grind[List.findIdx?_eq_some_iff_getElem,List.getElem_of_mem]
def MJ {l:Ϛ} {k:Nat} (h:l[k]?=Y AW) (hn:∀i∈l.take k,i≠AW):l.count AW=(l.drop (k+1)).count AW+1/\(l.take k).count AW=0:=by grind[List.drop_eq_getElem_cons,List.take_append_drop]
def P4 {φ ψ σ:Ϟ} {v:Nat} {i:Int} (h:(0<=i/\i<F φ)\/(i<0)\/i=AW) (hs:F φ<AW):Mo (φ++ψ) σ v i=Mo φ σ v i:=by
 rcases h with ⟨b,d⟩|h|rfl
 .grind[Mo]
 all_goals grind[Ii,NG]
def ABk {B:Ϣ} {lo b:Nat} {c:Br} {q:Ty} {φ ψ σ:Ϟ} {v w:Nat} (H:Rl ϴ w B lo b [] c q ψ) (hs:F φ+F ψ<AW):q=tr (Mo (φ++ψ) σ v) (HE (F φ) c.AM) /\
  (∀i∈vis (HE (F φ) c.AM),F φ<=i/\i<F φ+F ψ)/\bd (HE (F φ) c.AM)=Z/\Af (HE (F φ) c.AM)=(Af c.AM).map λi=>bif decide (0<=i)&&!(i==AW) then i+F φ else i:=by
 have f:∀i∈vis c.AM,0<=i/\i<F ψ:=by
  intro i b;rcases H.vis i b with h|h|h
  all_goals grind
 have k:HE (F φ)=Bq λi=>var (bif decide (0<=i)&&!(i==AW) then i+F φ else i):=by grind[HE]
 have l:∀i∈vis c.AM,(bif decide (0<=i)&&!(i==AW) then i+(F φ:Int) else i)=i+F φ:=AB;rw[k];refine⟨?_,?_,O3 _ _ H.bd,Dp _ _⟩
 .rw[H.eq,tr,tr,Gn]
  refine Cc _ λi b=>?_
  have d:=f i b;rw[l i b];have⟨x,hx,_⟩:=UI d.1 d.2;have m:Mo ψ [] w i=x:=by grind[S9]
  have n:Mo (φ++ψ) σ v (i+F φ)=x:=by
   have e:(φ++ψ)[F φ+i.toNat]?=Y x:=AB;have:=S9 (σ:=σ) (v:=v) e AB
   grind
  rw[m,n]
 .rw[Jg]
  grind
section
variable {A7:Nat->Bool}
def tQ (A7:Nat->Bool) (l:Option Ϥ) (h d:Nat) (b:Br):Option Ϥ:=match h with
 | 0=>Y [b]
 | _+1=>match l with
  | none=>G
  | some r=>DQ A7 r d b
def fill_eq {l:Option Ϥ} {ex:Ϣ->FT} {v lo:Nat} {σ:Ϟ} {w:Nat} (a1:lo<=v) (ο:v∉σ)
  (ι:∀B,La (λd c q=>∃ψ,Rl ϴ 0 d (F B) (F d) [] c q ψ) B l (ex B)) (π:∀r,l=Y r->∀c∈r,F c.AN<=w) :
  ∀(h s:Nat) (b:Br) (p:Ty) (B:Ϣ) (φ:Ϟ),Rl Z v B (v+1) (F B) σ b p φ->v<F B->oI (·==AW) b.AM=ϴ->(Af b.AM).count AW=h->h<=s->F φ+h*w<AW ->
   La (λd b p=>∃φ,Rl ϴ 0 d lo (F d) σ b p φ) B (tQ A7 l h s b) (CT A7 ex v h p B):=by
 intro h
 induction h with
 | zero=>
  intro s b p B φ H ε ρ ς hf τ;rw[CT,tQ]
  suffices η:Rl ϴ 0 B lo (F B) σ b p φ from⟨C5 _,⟨φ,η⟩,Ay⟩
  have M:∀i∈vis b.AM,i≠AW:=by
   rintro i m rfl;rcases XF b.AM H.bd _ m with h|h
   all_goals grind
  refine { nd:=H.nd,LM:=λx hx=>?_,len:=H.len,KA:=H.KA,small:=H.small,bd:=H.bd,vis:=λi m=>?_,eq:=?_ }
  .have:=H.LM x hx
   omega
  .rcases H.vis i m with h|h|h
   all_goals grind
  .rw[H.eq]
   grind[Cc,Mo]
 | succ h D=>
  intro s b p B φ H ε ρ ς hf τ;have Φ:AW∈Af b.AM:=Yi.1 AA
  have θ:DZ v ϴ p=true:=by
   rw[H.eq,tF _ _ _ H.bd,D5]
   grind[NG]
  rw[CT,θ];simp only[AQ];have hx:=ι B;cases t:l with
  | none=>
   rw[t] at hx;rcases u:ex B with ⟨n,d⟩
   rw[u] at hx;cases n with
   | some _=>exact hx.elim
   | none=>exact hx
  | some r=>
   rw[t] at hx;rcases u:ex B with ⟨n,d⟩
   rw[u] at hx;cases n with
   | none=>exact hx.elim
   | some ps=>
    obtain⟨E,Ψ⟩:=hx;obtain⟨f,rfl⟩:∃f,s=f+1:=⟨s-1,AA⟩
    obtain⟨k,ζ⟩:∃k,El b.AM=Y k:=by
     cases I:El b.AM with
     | some k=>simp
     | none=>
      grind[El]
    have⟨z,O⟩:=Dr ζ;have⟨a2,T⟩:=MJ z O;rw[show tQ A7 (Y r) (h+1) (f+1) b=DQ A7 r (f+1) b from rfl];simp only;rw[DQ,ζ];simp only
    have step:=ZT (A7:=A7) (Q:=λd b p=>∃φ,Rl ϴ 0 d lo (F d) σ b p φ) (λA a6 a q hA ⟨φ,h⟩=>⟨φ,h.mono hA (AU _) (AU _) (Fe hA)⟩)
     (S:=λc q=>c∈r/\∃ψ,Rl ϴ 0 d (F B) (F d) [] c q ψ) (g:=λc=>DQ A7 r f (CA b k c)) (g':=λc B=>CT A7 ex v h (JM (·==(v:Int)) c p 0) B) (B0:=d) ?_ r ps [] [] d (C5 _) ?_ Ay
    .revert step
     cases Fl A7 (λc=>DQ A7 r f (CA b k c)) r [] <;> have⟨υ,a7⟩:=Ce A7 (λc B=>CT A7 ex v h (JM (·==(v:Int)) c p 0) B) ps [] d <;> cases υ <;> intro step
     .exact Es E step
     .exact step
     .exact step
     .exact⟨Es E step.1,step.2⟩
    .rintro c q A hA ⟨κ,ψ,o⟩
     have μ:=π r t c κ;rw[o.len] at μ;have Ω:(h+1)*w=h*w+w:=by rw[DM,JT]
     have ν:F φ+F ψ<AW:=AA;have⟨χ,a8,ω,a9⟩:=ABk (φ:=φ) (σ:=σ) (v:=v) o ν;have W:k<F (Af b.AM):=(BJ.1 z).1
     have Γ:p=tr (Mo (φ++ψ) σ v) b.AM:=by
      rw[H.eq];refine Cc _ λi m=>?_
      rw[P4 _ H.small];rcases H.vis i m with h' | h' | h'
      all_goals omega
     have Δ:JM (·==(v:Int)) q p 0=tr (Mo (φ++ψ) σ v) (Mn (HE (F φ) c.AM) b.AM k):=by
      rw[χ,Γ];refine(tG _ _ _ _ k 0 H.bd ⟨AW,z,by simp[NG]⟩ ?_).symm;rw[List.countP_eq_zero];intro i m;have K:=G2 b.AM i (List.mem_of_mem_take m);have a3:=H.jG (w:=v) (.inl (Su v)) ο K (O i m)
      have:=P4 (ψ:=ψ) (σ:=σ) (v:=v) (φ:=φ) (i:=i) (by
       rcases H.vis i K with h' | h' | h'
       all_goals omega) H.small
      grind
     have M:AW∉vis (HE (F φ) c.AM):=λI=>by grind
     have X:(Af (HE (F φ) c.AM)).count AW=0:=Kc.2 λhm=>M (G2 _ _ hm)
     have γ:B<+:A:=Es E hA;have C:=D f (CA b k c) (JM (·==(v:Int)) q p 0) A (φ++ψ) ?_ (Fu ε (Fe γ)) ?_ ?_ AA AB
     .rw[t] at C
      cases h with
      | zero=>
       have Θ:El (CA b k c).AM=none:=by
        have a4:(Af (CA b k c).AM).count AW=0:=by
         show(Af (Mn (HE (F b.AN) c.AM) b.AM k)).count AW=0
         rw[H.len,N2 _ _ _ W,Sv,Sv,T,X];omega
        grind[El]
       have e:DQ A7 r f (CA b k c)=Y [CA b k c]:=by
        cases f with
        | zero=>rfl
        | succ f=>rw[DQ,Θ]
       show La _ A (DQ A7 r f (CA b k c)) _
       rw[e];exact C
      | succ h=>exact C
     .refine { nd:=?_,LM:=?_,len:=?_,KA:=?_,small:=?_,bd:=?_,vis:=?_,eq:=?_ }
      .rw[Sw]
       refine⟨H.nd,o.nd,λx hx y Λ=>?_⟩;have:=(H.LM x hx).2;have:=(o.LM y Λ).1;omega
      .intro x hx
       have a5:=Fe γ;have a0:=Fe hA;rcases CU.1 hx with hx|hx
       .have:=H.LM x hx
        omega
       .have:=o.LM x hx
        omega
      .simp only[CA,B6,H.len,o.len]
      .intro i x hx
       show A[x]?=(b.AN++c.AN)[i]?
       by_cases m:i<F φ
       .rw[C3 m] at hx
        rw[C3 (by rw[H.len]; omega)];have:=H.KA i x hx;have ξ:=(H.LM x (A8 hx)).2
        grind[Ih]
       .rw[Ei AA] at hx
        rw[Ei (by rw[H.len]; omega),H.len];have:=o.KA _ x hx;have ξ:=(o.LM x (A8 hx)).2
        grind[Ih]
      .grind
      .show bd (Mn (HE (F b.AN) c.AM) b.AM k)=Z
       rw[H.len];exact tJ _ ω _ _ H.bd
      .intro i m
       have δ:i∈vis (Mn (HE (F b.AN) c.AM) b.AM k):=m;rw[H.len] at δ;rw[B6];rcases jF _ _ _ i δ with h' | h'
       .rcases H.vis i h' with h'' | h'' | h''
        all_goals grind
       grind
      .rw[Δ]
       show _=tr (Mo (φ++ψ) σ v) (Mn (HE (F b.AN) c.AM) b.AM k)
       rw[H.len]
     .show oI (·==AW) (Mn (HE (F b.AN) c.AM) b.AM k)=ϴ
      rw[H.len];cases I:oI (·==AW) (Mn (HE (F φ) c.AM) b.AM k) with
      | false=>rfl
      | true=>
       rcases ABj _ _ _ _ I with h' | h'
       all_goals grind[tM]
     .show(Af (Mn (HE (F b.AN) c.AM) b.AM k)).count AW=h
      rw[H.len,N2 _ _ _ W,Sv,Sv,T,X];omega
    .have:∀{n:Ϥ} {ps:Ϣ},(∀c∈n,c∈r)->CD (λc q=>∃ψ,Rl ϴ 0 d (F B) (F d) [] c q ψ) n ps->CD (λc q=>c∈r/\∃ψ,Rl ϴ 0 d (F B) (F d) [] c q ψ) n ps:=by
      intro n
      induction n with
      | nil=>intro ps _ h; cases ps with
       | nil=>trivial
       | cons _ _=>exact h.elim
      | cons a n D=>intro ps hm h; cases ps with
       | nil=>exact h.elim
       | cons q ps=>exact⟨⟨hm a AD,h.1⟩,D (λc Ξ=>hm c (C4 _ Ξ)) h.2⟩
     grind
end
def ex6:Ϟ->Nat
 | [b,c]=>c*(b+1)
 | _=>0
mutual
def cv:Ty->Nat
 | .mk k _ _ ts=>bif k==6 then ex6 (MK ts) else bif k==3||k==4 then(MK ts).sum else 1
def MK:Ϣ->Ϟ
 | []=>[]
 | t::l=>cv t::MK l
end
def zb:Ϟ->Ϟ->Nat
 | [b,c],[_,d]=>c+1+(d+1)*b
 | _,_=>0
mutual
def bw:Ty->Nat
 | .mk k _ _ ts=>bif k==6 then zb (qp ts) (MK ts) else bif k==3||k==4 then(qp ts).sum else 0
def qp:Ϣ->Ϟ
 | []=>[]
 | t::l=>bw t::qp l
end
section
variable {A7:Nat->Bool}
def Iz {α β:Type} {g:α->Option (List β)}:∀{l:List α} {out r:List β},Fl A7 g l out=Y r->∀d∈r,d∈out\/∃a∈l,∃s,g a=Y s/\d∈s
 | [],out,r,h,d,b=>by grind[Fl]
 | a::l,out,r,h,d,b=>by
  rw[Fl] at h;cases e:g a with
  | none=>grind
  | some s=>
   rw[e] at h;simp only at h;cases hb:A7 (F (out++s)) with
   | true=>grind
   | false=>
    rw[hb] at h;rcases Iz h d b with f|⟨k,m,n,o,p⟩
    all_goals grind
theorem cH (n:Nat) (b:Ty):F (Af (HE n b))=F (Af b):=by
 have d:HE n=Bq λi=>var (bif decide (0<=i)&&!(i==AW) then i+n else i):=by grind[HE]
 simp[*,Dp]
def KB (n:Nat):Gm n=Bq λi=>var (bif i==-1 then(n:Int) else bif decide (i<0) then i+1 else i):=by grind[Gm]
def JF (n m:Int):Ht n m=Bq λi=>var (bif i==n then m else i):=by grind[Ht]
def ML:o8=Bq λi=>var (-1-i):=rfl
def UJ {l:Ϥ} {w u:Nat} (e:∀c∈l,F c.AN<=w/\F (Af c.AM)<=u):∀(f:Nat) (b:Br) (r:Ϥ),DQ A7 l f b=Y r ->
  ∀d∈r,F d.AN<=F b.AN+f*w/\F (Af d.AM)<=F (Af b.AM)+f*u
 | 0,b,r,h,d,m=>by grind[DQ]
 | f+1,b,r,h,d,m=>by
  rw[DQ] at h;have y:(f+1)*w=f*w+w:=by rw[DM,JT]
  have z:(f+1)*u=f*u+u:=by rw[DM,JT]
  cases n:El b.AM with
  | none=>
   grind
  | some k=>
   rw[n] at h;rcases Iz h d m with A|⟨c,o,s,p,t⟩
   .grind
   .have:=UJ e f _ s p d t
    have B:=e c o;have x:k<F (Af b.AM):=(BJ.1 (Dr n).1).1
    grind[CA,N2,cH]
def cJ {LA:Option Ϥ} {e:Ty} {b:Br} {w u:Nat} (f:∀l,LA=Y l->∀c∈l,F c.AN<=w/\F (Af c.AM)<=u) {r:Ϥ} (h:Dn A7 LA e b=Y r) :
  ∀d∈r,F d.AN<=F b.AN+1+F (Af b.AM)*w/\F (Af d.AM)<=F (Af b.AM)*(u+1):=by
 intro d n;have x:F (Af (Gm (F b.AN) b.AM))=F (Af b.AM):=by simp[*,KB,Dp]
 have s:∀m,F (Af (Ht (F b.AN) m (Gm (F b.AN) b.AM)))=F (Af b.AM):=λm=>by simp[*,JF,Dp]
 have hm:F (Af b.AM)<=F (Af b.AM)*(u+1):=Nat.le_mul_of_pos_right _ AA;have t:F (Af b.AM)*(u+1)=F (Af b.AM)+F (Af b.AM)*u:=AB;unfold Dn at h;cases o:oI (·==(F b.AN:Int)) (Gm (F b.AN) b.AM) with
 | true=>
  grind
 | false=>
  rw[o] at h;simp only[AL] at h;cases p:El (Ht (F b.AN) AW (Gm (F b.AN) b.AM)) with
  | none=>
   grind
  | some k=>
   rw[p] at h;cases hb:LA with
   | none=>grind
   | some l=>
    rw[hb] at h;have:=UJ (f l hb) _ _ r h d n
    grind
def I0 {α β:Type} {g:α->Option β}:∀{ts:List α} {ls:List β},FH (ts.map g)=Y ls->CD (λt l=>g t=Y l) ts ls
 | [],ls,h=>by
  simp only[DC,FH,BU] at h;subst h
  trivial
 | t::ts,ls,h=>by
  simp only[CH] at h;cases b:g t with
  | none=>grind[FH]
  | some a=>
   rw[b,FH] at h;cases d:FH (ts.map g) with
   | none=>grind
   | some r=>
    rw[d] at h;simp only[BU] at h;subst h;exact⟨b,I0 d⟩
def XI:∀{ls:List Ϥ} {e us:Ϟ} {out r:Ϥ} {N M:Nat},(CD (λl w=>∀c∈l,F c.AN<=w) ls e)->(CD (λl w=>∀c∈l,F (Af c.AM)<=w) ls us) ->
  (∀b∈out,F b.AN<=N/\F (Af b.AM)<=M/\∃args,b.AM=.mk 3 [] 0 args)->H7 A7 ls out=Y r->∀d∈r,F d.AN<=N+e.sum/\F (Af d.AM)<=M+us.sum
 | [],[],[],out,r,N,M,_,_,m,h,d,n=>by grind[H7]
 | [],_::_,_,_,_,_,_,h,_,_,_,_,_=>h.elim
 | [],[],_::_,_,_,_,_,_,h,_,_,_,_=>h.elim
 | _::_,[],_,_,_,_,_,h,_,_,_,_,_=>h.elim
 | _::_,_::_,[],_,_,_,_,_,h,_,_,_,_=>h.elim
 | l::ls,w::e,u::us,out,r,N,M,⟨x,p⟩,⟨y,s⟩,m,h,d,n=>by
  rw[H7] at h;cases hb:A7 (F (GU out l)) with
  | true=>grind
  | false=>
   rw[hb] at h;have:=XI (N:=N+w) (M:=M+u) p s ?_ h d n
   .grind
   .intro b k
    unfold GU at k;have⟨f,z,A⟩:=Nn.1 k;obtain⟨c,o,rfl⟩:=Cw.1 A;have⟨q1,C,args,B⟩:=m f z;have:=x c o;have:=y c o;rw[B];refine⟨AB,?_,_,rfl⟩
    have D:B5 (args++[HE (F f.AN) c.AM])=B5 args++Af (HE (F f.AN) c.AM):=by
     have:∀(l:Ϣ) (t:Ty),B5 (l++[t])=B5 l++Af t:=by
      intro l t
      induction l with
      | nil=>simp[B5]
      | cons a l E=>grind[B5]
     grind
    grind[Af,cH]
theorem O5:∀l:Ϣ,MK l=l.map cv
 | []=>rfl
 | t::l=>by rw[MK,O5 l]; rfl
theorem Fp:∀l:Ϣ,qp l=l.map bw
 | []=>rfl
 | t::l=>by rw[qp,Fp l]; rfl
def CD.Hv {α β γ:Type} {R:α->β->Prop} {S:β->γ->Prop} {g:α->γ}:∀{l:List α} {m:List β},(∀a b,a∈l->R a b->S b (g a))->CD R l m->CD S m (l.map g)
 | [],[],_,_=>trivial
 | a::l,b::m,h,⟨d,e⟩=>⟨h a b AD d,e.Hv λa b f=>h a b (C4 _ f)⟩
 | [],_::_,_,h=>h.elim
 | _::_,[],_,h=>h.elim
def CD.Lb {α β:Type} {R:α->β->Prop}:∀{l:List α} {m:List β},CD R l m->∀b∈m,∃a∈l,R a b
 | [],[],_,b,h=>by cases h
 | a::l,c::m,⟨e,d⟩,b,h=>by
  rcases BF.1 h with rfl|h
  .grind
  .have⟨f,k,n⟩:=d.Lb b h
   grind
 | [],_::_,h,_,_=>h.elim
 | _::_,[],h,_,_=>h.elim
theorem EM:∀{l:Ϟ} {n:Nat},n∈l->n<=l.sum
 | a::l,n,h=>by
  rw[Ke];rcases BF.1 h with rfl|h
  .omega
  .have:=EM h
   omega
def Cq:∀(f:Nat) (t:Ty) (l:Ϥ),DR A7 f t=Y l->∀c∈l,F c.AN<=bw t/\F (Af c.AM)<=cv t
 | 0,t,l,h,c,d=>by grind[DR]
 | f+1,.mk k n i ts,l,h,c,d=>by
  rw[DR] at h;rw[bw,cv]
  by_cases k0:k=0
  .grind[Af]
  have H:(k==0)=false:=AB;rw[H] at h;simp only[AL] at h;cases A:(k==2||k==5) with
  | true=>
   rw[A] at h;simp only[AQ,BU] at h;subst h;rw[DW.1 d];have I:(k==6)=false:=AB;have E:(k==3||k==4)=false:=AB;rw[I,E];simp only[AL,ML,Dp,Bj,CQ,AU,true_and]
   grind[Af]
  | false=>
   rw[A] at h;simp only[AL] at h
   by_cases k3:k=3
   .subst k3
    simp only[CS,AQ] at h;cases e:FH (ts.map (DR A7 f)) with
    | none=>grind
    | some m=>
     rw[e] at h;simp only at h;have p:=I0 e;cases K:m.any List.isEmpty with
     | true=>grind
     | false=>
      rw[K] at h;have q1:CD (λl w=>∀c∈l,F c.AN<=w) m (ts.map bw):=p.Hv λt l _ u c d=>(Cq f t l u c d).1
      have O:CD (λl w=>∀c∈l,F (Af c.AM)<=w) m (ts.map cv):=p.Hv λt l _ u c d=>(Cq f t l u c d).2
      have:=XI (N:=0) (M:=0) q1 O (λb hb=>by simp_all[Af,B5]) h c d
      grind[Fp,O5]
   have Q:(k==3)=false:=AB;rw[Q] at h;simp only[AL] at h
   by_cases k4:k=4
   .subst k4
    simp only[CS,AQ] at h;cases e:FH (ts.map (DR A7 f)) with
    | none=>grind
    | some m=>
     rw[e] at h;simp only at h;have p:=I0 e;cases hb:A7 (F m.flatten) with
     | true=>grind
     | false=>
      rw[hb] at h;simp only[AL,BU] at h;subst h;have⟨B,x,y⟩:=Sx.1 d;have⟨t,C,S⟩:=p.Lb B x;have:=Cq f t B S c y;have γ:bw t<=(qp ts).sum:=by simp[*,Fp,EM,EH]
      have δ:cv t<=(MK ts).sum:=by simp[*,O5,EM,EH]
      grind
   have T:(k==4)=false:=AB;rw[T] at h;simp only[AL] at h
   by_cases k6:k=6
   .subst k6
    simp only[CS,AQ] at h ⊢;rcases ts with _|⟨b,_|⟨o,_|⟨z,r⟩⟩⟩
    .cases h; grind
    .cases h; grind
    .simp only[ah] at h
     cases hb:DR A7 f o with
     | none=>grind
     | some W=>
      rw[hb] at h;simp only at h;simp only[MK,qp,ex6,zb];rcases Iz h c d with ε|⟨a,x,s,y,C⟩
      .grind
      .have D:=Cq f o W hb a x
       have ζ:=cJ (λl X c d=>Cq f b l X c d) y c C;have η:F (Af a.AM)*bw b<=cv o*bw b:=Be _ D.2;have θ:F (Af a.AM)*(cv b+1)<=cv o*(cv b+1):=Be _ D.2
       grind
    .cases h; grind
   grind
end
section
variable {A7:Nat->Bool}
def Ij {φ σ:Ϟ} {v:Nat} {i:Int} (b:0<=i) (d:i<F φ) (hs:F φ<=AW):∃x,φ[i.toNat]?=Y x/\x∈φ/\Mo φ σ v i=x:=by grind[Mo]
def lX {LA:Option Ϥ} {ex:Ϣ->FT} {Dz:Ty} {v:Nat} {σ:Ϟ} {w:Nat} (D:v∉σ)
  (η:∀B,La (λu c q=>∃ψ,Rl ϴ 0 u (F B) (F u) [] c q ψ) B LA (ex B)) (ο:∀r,LA=Y r->∀c∈r,F c.AN<=w)
  {b:Br} {p:Ty} {B:Ϣ} {φ:Ϟ} (H:Rl ϴ 0 B (v+1) (F B) (v::σ) b p φ) (π:B[v]?=Y Dz) (hs:F φ+1+F (Af b.AM)*w<AW) :
  La (λu b p=>∃φ,Rl ϴ 0 u v (F u) σ b p φ) B (Dn A7 LA Dz b) (Bw A7 ex v p B):=by
 have θ:=(BJ.1 π).1;have Ξ:(F φ:Int)+1<AW:=AB;have⟨o,K⟩:∃o:Int->Int,o=λi=>bif i==-1 then(F φ:Int) else bif decide (i<0) then i+1 else i:=⟨_,rfl⟩
 have⟨f,M⟩:∃f,f=Gm (F b.AN) b.AM:=⟨_,rfl⟩;have A:f=Bq (λi=>var (o i)) b.AM:=by rw[M,KB,H.len,K]
 have z:bd f=true:=by rw[A]; exact O3 _ _ H.bd
 have δ:F (Af f)=F (Af b.AM):=by rw[A,Dp,Bj]
 have O:∀i∈vis f,(0<=i/\i<F φ+1)\/(i<0/\-i<=F σ):=by
  rw[A,Jg];intro j ρ;obtain⟨i,m,rfl⟩:=Cw.1 ρ;rw[K];rcases H.vis i m with h|h|h
  all_goals grind
 have Γ:v∉φ:=λhm=>by have:=(H.LM v hm).1; omega
 have Q:(F (φ++[v]):Int)<=AW:=AB
 have n:p=tr (Mo (φ++[v]) σ 0) f:=by
  rw[H.eq,A,tr,tr,Gn];refine Cc _ λi m=>?_
  rcases H.vis i m with h|h|h
  .have n:o i=i:=by grind
   rw[n,P4 (.inl h) H.small];have⟨x,hx,_,e3⟩:=Ij (σ:=v::σ) (v:=0) h.1 h.2 AA;have⟨y,C,_,e4⟩:=Ij (σ:=σ) (v:=0) h.1 h.2 AA
   grind
  .by_cases e:i=-1
   .subst e
    have n:o (-1)=(F φ:Int):=AB;have⟨y,C,_,e4⟩:=Ij (φ:=φ++[v]) (σ:=σ) (v:=0) (i:=(F φ:Int)) AA AB Q
    simp_all[Ii]
   .have n:o i=i+1:=by grind
    rw[n,Ii h.1,Ii AA];have e5:(-1-i).toNat=(-1-(i+1)).toNat+1:=AA;simp[*]
  grind
 have Δ:∀i∈vis f,(Mo (φ++[v]) σ 0 i==v)=(i==(F φ:Int)):=by
  intro i m;rw[PU,Gf,Gf];rcases O i m with h|h
  .have⟨y,C,_,e4⟩:=Ij (φ:=φ++[v]) (σ:=σ) (v:=0) h.1 AB Q
   grind
  .rw[Ii h.1]
   have⟨x,hx⟩:∃x,σ[(-1-i).toNat]?=Y x:=⟨_,Az AA⟩;simp only[List.getD,hx,JR];constructor
   .rintro rfl
    exact absurd (A8 hx) D
   omega
 have ε:DZ v Z p=oI (·==(F b.AN:Int)) f:=by
  rw[n,ZS _ _ _ z,H.len]
  grind[UF]
 unfold Dn Bw;rw[ε,<-M];cases ς:oI (·==(F b.AN:Int)) f with
 | true=>
  refine And.intro (C5 _) (And.intro ?_ Ay);refine⟨φ++[v],?_⟩;refine { nd:=?_,LM:=?_,len:=?_,KA:=?_,small:=?_,bd:=z,vis:=?_,eq:=n }
  .rw[Sw]
   refine⟨H.nd,AD,λx hx y C=>?_⟩
   grind
  .intro x hx
   rcases CU.1 hx with hx|hx
   .have:=H.LM x hx
    omega
   grind
  .simp[H.len]
  .intro i x hx
   by_cases m:i<F φ
   .rw[C3 m] at hx
    rw[C3 (by rw[H.len]; omega)];exact H.KA i x hx
   .rw[Ei AA] at hx
    rw[Ei (by rw[H.len]; omega),H.len]
    grind
  all_goals grind
 | false=>
  have⟨s,ι⟩:∃s:Int->Int,s=λi=>bif i==(F φ:Int) then AW else i:=⟨_,rfl⟩
  have Θ:s (F φ:Int)=AW:=AB;have κ:∀i,i≠(F φ:Int)->s i=i:=AB;have⟨d,S⟩:∃d,d=Ht (F b.AN) AW f:=⟨_,rfl⟩;have t:d=Bq (λi=>var (s i)) f:=by rw[S,JF,H.len,ι]
  have I:bd d=true:=by rw[t]; exact O3 _ _ z
  have Λ:∀i∈vis f,i≠AW:=AB;have υ:∀i∈vis f,(s i==AW)=(i==(F φ:Int)):=AB
  have μ:∀i∈vis d,(0<=i/\i<F φ)\/(i<0/\-i<=F σ)\/(Z=Z/\i=AW):=by
   rw[t,Jg]
   grind
  have X:p=tr (Mo φ σ v) d:=by
   rw[n,t,tr,tr,Gn];refine Cc _ λi m=>?_
   by_cases hb:i=(F φ:Int)
   .grind[NG]
   .rw[κ i hb]
    rcases O i m with h|h
    .rw[P4 (.inl ⟨h.1,AA⟩) H.small]
     have⟨x,hx,_,e3⟩:=Ij (φ:=φ) (σ:=σ) (v:=0) (i:=i) h.1 AA AA;have⟨y,C,_,e4⟩:=Ij (φ:=φ) (σ:=σ) (v:=v) (i:=i) h.1 AA AA
     grind
    grind[Ii]
  have T:Rl Z v B (v+1) (F B) σ ⟨b.AN,d⟩ p φ:=
   {nd:=H.nd,LM:=H.LM,len:=H.len,KA:=H.KA,small:=H.small,bd:=I,vis:=μ,eq:=X }
  have ν:oI (·==AW) d=false:=by
   rw[t,jE _ _ _ z,<-ς,H.len]
   grind[UF]
  have χ:F (Af d)=F (Af b.AM):=by rw[t,Dp,Bj,δ]
  have ζ:Bi (·==(v:Int)) p=(Af d).count AW:=by
   rw[X,NF _ _ _ I,List.count];refine List.countP_congr λi m=>?_
   have ξ:=G2 _ i m
   have:(Mo φ σ v i=v)<->i=AW:=by
    constructor
    .intro h
     by_cases E:i=AW
     .omega
     .exact absurd h (T.jG (.inl (Su v)) D ξ E)
    grind[NG]
   grind
  have W:(Af d).count AW<=F (Af b.AM):=AB
  have ω:(((Af d).count AW:Nat):Int)*w<=(F (Af b.AM):Int)*w:=by
   have:=Be w W;omega
  have step:=fill_eq (A7:=A7) (l:=LA) (ex:=ex) (lo:=v) (AU v) D η ο ((Af d).count AW) (F (Af b.AM)) ⟨b.AN,d⟩ p B φ T θ ν rfl W AA;simp only[AL];rw[<-S,ζ];cases E:El d with
  | none=>
   have γ:(Af d).count AW=0:=by grind[List.count_eq_zero,El]
   rw[γ] at step ⊢;exact step
  | some k=>
   have γ:(Af d).count AW≠0:=by
    rw[ne_eq,Kc];intro hm;exact hm (A8 (Dr E).1)
   have⟨c,τ⟩:∃c,(Af d).count AW=c+1:=⟨(Af d).count AW-1,AA⟩;rw[τ] at step ⊢
   assumption
end
def JN {k i:Int} {n:Ϝ} {ts:Ϣ} (h:root k n i ts=Z) :
  (k=0/\n=[]/\i=0/\ts=[])\/(k=1/\n=[]/\i=0/\ts=[])\/k=2\/(k=3/\n=[]/\i=0)\/(k=4/\n=[]/\i=0/\ts≠[])\/(k=5/\n=[]/\ts=[]/\0<=i)\/(k=6/\n=[]/\i=0/\∃b body,ts=[b,body]/\CJ 0 b=Z):=by
 unfold root at h;simp only[AK,D5,Gf] at h;obtain⟨⟨f,m⟩,e⟩:=h;unfold shape at e
 by_cases k0:k=0
 .grind
 by_cases k1:k=1
 .grind
 by_cases k2:k=2
 .omega
 by_cases k3:k=3
 .grind
 by_cases k4:k=4
 .grind
 by_cases k5:k=5
 .grind
 by_cases k6:k=6
 .subst k6
  simp at f m e;refine .inr (.inr (.inr (.inr (.inr (.inr ⟨rfl,f,m,?_⟩)))));rcases ts with _|⟨b,_|⟨c,_|⟨d,l⟩⟩⟩ <;> simp at e
  exact⟨_,_,rfl,e⟩
 grind
theorem CD.of_map {α β γ:Type} {R:α->γ->Prop} {g:β->γ}:∀{l:List α} {m:List β},CD (λa b=>R a (g b)) l m->CD R l (m.map g)
 | [],[],_=>trivial
 | _::_,_::_,⟨d,e⟩=>⟨d,e.of_map⟩
 | [],_::_,h=>h.elim
 | _::_,[],h=>h.elim
section
variable {A7:Nat->Bool}
def CG (n:Nat):Prop:=(n:Int)<AW
def tR (A7:Nat->Bool) (f:Nat) (σ:Ϟ) (t:Ty):Prop:=∀B,(∀x∈σ,x<F B)->La (λd b p=>∃φ,Rl ϴ 0 d (F B) (F d) σ b p φ) B (DR A7 f t) (BI A7 f (inst σ 0 t) B)
def Ch (e:Ϣ) (σ:Ϟ):Nat->Ϟ->List Ϥ->List Ϣ->Prop
 | lo,[],[],[]=>lo<=F e
 | lo,w::f,l::k,ps::m=>(∀b∈l,F b.AN<=w)/\∃d,lo<=d/\d<=F e/\CD (λb p=>∃φ,Rl ϴ 0 e lo d σ b p φ) l ps/\Ch e σ d f k m
 | _,_,_,_=>False
theorem FI {k:Int} (b:k≠6) (σ:Ϟ):∀(l:Ϣ) (j:Nat),Dg σ 0 k j l=l.map (inst σ 0)
 | [],_=>rfl
 | t::l,j=>by
  have d:(k==6)=false:=AB;have hb:Dz k j=0:=by simp[Dz,d]
  rw[Dg,hb,G8,FI b σ l (j+1)];rfl
def lY {f:Nat} {σ:Ϟ}:∀(ts:Ϣ) (out:List Ϣ) (B:Ϣ),(∀x∈σ,x<F B)->(∀t∈ts,tR A7 f σ t) ->
  match FH (ts.map (DR A7 f)),Ey (BI A7 f) (ts.map (inst σ 0)) out B with
  | none,(G,d)=>B<+:d
  | some A,(Y z,d)=>∃k,z=out++k/\B<+:d/\Ch d σ (F B) (ts.map bw) A k
  | _,_=>False
 | [],out,B,_,_=>by
  simp only[DC,FH,Ey];exact⟨[],AD,C5 _,AU _⟩
 | t::ts,out,B,u,h=>by
  have e:=h t AD B u;simp only[CH];rw[Ey];cases m:DR A7 f t with
  | none=>
   rw[m] at e;rcases n:BI A7 f (inst σ 0 t) B with ⟨o,d⟩
   rw[n] at e;cases o with
   | some _=>exact e.elim
   | none=>exact e
  | some l=>
   rw[m] at e;rcases n:BI A7 f (inst σ 0 t) B with ⟨o,d⟩
   rw[n] at e;cases o with
   | none=>exact e.elim
   | some ps=>
    obtain⟨p,y⟩:=e;have r:=lY ts (out++[ps]) d (λx hx=>Fu (u x hx) (Fe p)) (λt C=>h t (C4 _ C));rw[FH];simp only;revert r;cases FH (ts.map (DR A7 f)) <;> rcases Ey (BI A7 f) (ts.map (inst σ 0)) (out++[ps]) d with ⟨D,I⟩ <;> cases D <;> intro r
    .grind
    .omega
    .omega
    .obtain⟨k,K,s,E⟩:=r
     refine⟨ps::k,AB,Es p s,?_⟩;refine⟨λb hb=>(Cq f t l m b hb).1,F d,Fe p,Fe s,?_,E⟩;exact y.mono λa b ⟨φ,H⟩=>⟨φ,H.mono s (AU _) (AU _) (AU _)⟩
theorem XJ:∀(l:Ϣ) (t:Ty),B5 (l++[t])=B5 l++Af t
 | [],t=>by simp[B5]
 | a::l,t=>by simp[B5,XJ l t]
def cK:∀(l:Ϣ) (t:Ty),DU (l++[t])=DU l++vis t
 | [],t=>by simp[DU]
 | a::l,t=>by simp[DU,cK l t]
def lZ:∀(l:Ϣ) (t:Ty),ND (l++[t])=(ND l&&bd t)
 | [],t=>by simp[ND]
 | a::l,t=>by simp[ND,lZ l t,Lz]
def XK (f:Int->Ty):∀(l:Ϣ) (t:Ty),B4 f (l++[t])=B4 f l++[Bq f t]
 | [],t=>by rfl
 | a::l,t=>by simp[B4,XK f l t]
def zc (φ:Int->Nat) (l:Ϣ) (t:Ty):SW φ (l++[t])=SW φ l++[tr φ t]:=XK _ l t
def tr3 (φ:Int->Nat) (n:Ϝ) (i:Int) (l:Ϣ):tr φ (.mk 3 n i l)=.mk 3 n i (SW φ l):=AX
theorem AMM (n:Ϝ) (i:Int) (l:Ϣ):vis (.mk 3 n i l)=DU l:=AX
def bd3 (n:Ϝ) (i:Int) (l:Ϣ):bd (.mk 3 n i l)=ND l:=AX
def TRl (e:Ϣ) (σ:Ϟ) (tS d N:Nat) (b:Br) (args:Ϣ):Prop:=∃φ f,Rl ϴ 0 e tS d σ b (.mk 3 [] 0 args) φ/\b.AM=.mk 3 [] 0 f/\F φ<=N
def lf {k:Ϣ} {σ:Ϟ} {tS lo m N w:Nat} (D:tS<=lo) (B:lo<=m) (hm:m<=F k) (hs:((N+w:Nat):Int)<AW):∀{out:Ϥ} {ZU:List Ϣ} {l:Ϥ} {ps:Ϣ},CD (TRl k σ tS lo N) out ZU ->
  (∀b∈l,F b.AN<=w)->CD (λb p=>∃φ,Rl ϴ 0 k lo m σ b p φ) l ps->CD (TRl k σ tS m (N+w)) (GU out l) (ZU.flatMap λp=>ps.map λx=>p++[x])
 | [],[],_,_,_,_,_=>trivial
 | [],_::_,_,_,h,_,_=>h.elim
 | _::_,[],_,_,h,_,_=>h.elim
 | b::out,d::ZU,l,ps,⟨I,K⟩,n,h=>by
  have s:=lf D B hm hs K n h
  have one:CD (TRl k σ tS m (N+w)) (l.map λc=>(⟨b.AN++c.AN,match b.AM with
    | .mk _ _ _ d=>.mk 3 [] 0 (d++[HE (F b.AN) c.AM])⟩:Br)) (ps.map λx=>d++[x]):=by
   obtain⟨φ,o,H,hb,hN⟩:=I;clear s;revert h n;revert ps
   induction l with
   | nil=>intro ps _ h; cases ps with
    | nil=>trivial
    | cons _ _=>exact h.elim
   | cons c l E=>
    intro ps n h;cases ps with
    | nil=>exact h.elim
    | cons q ps=>
     refine And.intro ?_ (E ps (λb hb=>n b (C4 _ hb)) h.2);have⟨ψ,e⟩:=h.1
     have T:F ψ<=w:=by
      have:=n c AD;rw[e.len] at this;omega
     have Q:F φ+F ψ<AW:=AA;have⟨r,S⟩:∃r:Int->Int,r=λi=>bif decide (0<=i)&&!(i==AW) then i+F φ else i:=⟨_,rfl⟩
     have t:HE (F φ)=Bq λi=>var (r i):=by grind[HE]
     have gn:∀i:Int,0<=i->i<F ψ->r i=i+F φ:=AB;have W:∀i:Int,i<0->r i=i:=AB
     have X:q=tr (Mo (φ++ψ) σ 0) (HE (F φ) c.AM):=by
      rw[e.eq,t,tr,tr,Gn];refine Cc _ λi f=>?_
      rcases e.vis i f with h|h|h
      .rw[gn i h.1 h.2]
       have⟨x,hx,_⟩:=UI h.1 h.2;have⟨y,u,_,e4⟩:=Ij (φ:=ψ) (σ:=σ) (v:=0) h.1 h.2 AA;have⟨z,γ,_,e5⟩:=Ij (φ:=φ++ψ) (σ:=σ) (v:=0) (i:=i+F φ) AA AB AB;rw[e4,e5];have e6:(i+(F φ:Int)).toNat=F φ+i.toNat:=AA
       simp_all
      all_goals grind[Ii]
     have δ:(.mk 3 [] 0 d:Ty)=tr (Mo (φ++ψ) σ 0) b.AM:=by
      rw[H.eq];refine Cc _ λi f=>?_
      rw[P4 _ H.small];rcases H.vis i f with h' | h' | h'
      all_goals omega
     have C:ND o=true:=by rw[<-bd3 [] 0 o,<-hb]; exact H.bd
     have e3:d=SW (Mo (φ++ψ) σ 0) o:=by simp_all[tr3]
     refine⟨φ++ψ,o++[HE (F φ) c.AM],?_,?_,AB⟩
     .have A:(match b.AM with|.mk _ _ _ d=>.mk 3 [] 0 (d++[HE (F b.AN) c.AM]):Ty)=.mk 3 [] 0 (o++[HE (F φ) c.AM]):=by rw[hb,H.len]
      refine { nd:=?_,LM:=?_,len:=?_,KA:=?_,small:=?_,bd:=?_,vis:=?_,eq:=?_ }
      .rw[Sw]
       refine⟨H.nd,e.nd,λx hx y u=>?_⟩;have:=(H.LM x hx).2;have:=(e.LM y u).1;omega
      .intro x hx
       rcases CU.1 hx with hx|hx
       .have:=H.LM x hx
        omega
       .have:=e.LM x hx
        omega
      .simp only[B6,H.len,e.len]
      .intro i x hx
       show k[x]?=(b.AN++c.AN)[i]?
       by_cases f:i<F φ
       .rw[C3 f] at hx
        rw[C3 (by rw[H.len]; omega)];exact H.KA i x hx
       .rw[Ei AA] at hx
        rw[Ei (by rw[H.len]; omega),H.len];exact e.KA _ x hx
      .grind
      .show bd (match b.AM with|.mk _ _ _ d=>.mk 3 [] 0 (d++[HE (F b.AN) c.AM]):Ty)=Z
       rw[A,bd3,lZ,C,t,O3 _ _ e.bd];rfl
      .intro i f
       have hi':i∈vis (match b.AM with|.mk _ _ _ d=>.mk 3 [] 0 (d++[HE (F b.AN) c.AM]):Ty):=f;rw[A,AMM,cK,CU] at hi';simp only[B6];rcases hi' with hi' | hi'
       .have M:i∈vis b.AM:=by grind[AMM]
        rcases H.vis i M with h' | h' | h'
        all_goals grind
       .rw[t,Jg] at hi'
        obtain⟨j,O,rfl⟩:=Cw.1 hi';rcases e.vis j O with h' | h' | h'
        all_goals grind
      simp_all[tr3,zc]
     .show(match b.AM with|.mk _ _ _ d=>.mk 3 [] 0 (d++[HE (F b.AN) c.AM]):Ty)=_
      rw[hb,H.len]
  unfold GU at s ⊢;rw[List.flatMap_cons,List.flatMap_cons];exact one.append s
def ze {k:Ϣ} {σ:Ϟ} {tS:Nat} (ls:List Ϥ):∀{d:Ϟ} {e:List Ϣ} {lo N:Nat} {out:Ϥ} {ZU:List Ϣ},tS<=lo->Ch k σ lo d ls e->CG (N+d.sum)->CD (TRl k σ tS lo N) out ZU ->
  match H7 A7 ls out,Df A7 e ZU with
  | none,G=>True
  | some r,Y all=>CD (λb s=>∃φ,Rl ϴ 0 k tS (F k) σ b (.mk 3 [] 0 s) φ) r all
  | _,_=>False:=by
 induction ls with
 | nil=>
  intro d e lo N out ZU m f n h;rcases d with _|⟨w,d⟩
  .rcases e with _|⟨ps,e⟩
   .rw[H7,Df]
    exact h.mono λa b ⟨φ,B,H,_,_⟩=>⟨φ,H.mono (C5 _) f (AU _) f⟩
   .exact f.elim
  .exact f.elim
 | cons l ls t=>
  intro d e lo N out ZU m f n h;rcases d with _|⟨w,d⟩
  .exact f.elim
  rcases e with _|⟨ps,e⟩
  .exact f.elim
  obtain⟨u,A,o,x,y,z⟩:=f;unfold CG at n;rw[Ke] at n;have p:=lf m o x AA h u y;rw[H7,Df,<-p.tP];cases A7 (F (GU out l)) with
  | true=>simp
  | false=>exact t (BC m o) z (by grind[CG]) p
def cL {e:Ϣ} {σ:Ϟ}:∀{d:Ϟ} {ls:List Ϥ} {b:List Ϣ} {lo:Nat},Ch e σ lo d ls b->ls.any List.isEmpty=b.any List.isEmpty
 | [],[],[],_,_=>rfl
 | w::d,l::ls,ps::b,lo,⟨_,m,_,_,f,k⟩=>by
  have n:=f.tP;rw[PX,PX,cL k]
  grind
 | [],_::_,_,_,h=>h.elim
 | [],[],_::_,_,h=>h.elim
 | _::_,[],_,_,h=>h.elim
 | _::_,_::_,[],_,h=>h.elim
def ZV {f:Nat} {σ:Ϟ}:∀(ts:Ϣ) (out:Ϣ) (ok:Bool) (B:Ϣ),(∀x∈σ,x<F B)->(∀t∈ts,tR A7 f σ t) ->
  match FH (ts.map (DR A7 f)),G1 (BI A7 f) (ts.map (inst σ 0)) out ok B with
  | none,((_,n),d)=>B<+:d/\n=ϴ
  | some E,((o,n),d)=>B<+:d/\n=ok/\∃ps,o=out++ps/\CD (λb p=>∃φ,Rl ϴ 0 d (F B) (F d) σ b p φ) E.flatten ps
 | [],out,ok,B,_,_=>by
  rw[DC,DC,FH,G1];exact⟨C5 _,rfl,[],AD,Ay⟩
 | t::ts,out,ok,B,r,h=>by
  have e:=h t AD B r;simp only[CH];rw[G1];cases C:DR A7 f t with
  | none=>
   rw[C] at e;rcases s:BI A7 f (inst σ 0 t) B with ⟨u,d⟩
   rw[s] at e;cases u with
   | some _=>exact e.elim
   | none=>
    have k:B<+:d:=e;have m:=ZV ts out ϴ d (λx hx=>Fu (r x hx) (Fe k)) (λt y=>h t (C4 _ y))
    grind[FH]
  | some l=>
   rw[C] at e;rcases s:BI A7 f (inst σ 0 t) B with ⟨u,d⟩
   rw[s] at e;cases u with
   | none=>exact e.elim
   | some ps=>
    obtain⟨k,D⟩:=e;have m:=ZV ts (out++ps) ok d (λx hx=>Fu (r x hx) (Fe k)) (λt y=>h t (C4 _ y));rw[FH];simp only;revert m;cases FH (ts.map (DR A7 f)) <;> rcases G1 (BI A7 f) (ts.map (inst σ 0)) (out++ps) ok d with ⟨⟨O,M⟩,Q⟩ <;> intro m
    .grind
    .obtain⟨z,H,I,S,K⟩:=m
     refine⟨Es k z,H,ps++I,AB,?_⟩;rw[Nh];refine CD.append ?_ ?_
     .exact D.mono λa b ⟨φ,A⟩=>⟨φ,A.mono z (AU _) (AU _) (Fe z)⟩
     .exact K.mono λa b ⟨φ,A⟩=>⟨φ,A.mono (C5 _) (AU _) (Fe k) (AU _)⟩
def FJ {u:Nat} {k:Int} (b:k≠6):∀{l:Ϣ} {j:Nat} {t:Ty},De u k j l=Z->t∈l->CJ u t=Z
 | a::l,j,t,h,ht=>by
  have d:(k==6)=false:=AB;have hb:Dz k j=0:=by simp[Dz,d]
  simp only[De,AK,hb,G8] at h;rcases BF.1 ht with rfl|ht
  .grind
  .exact FJ b h.2 ht
theorem CB:∀{l:Ϣ} {a:Ty},BO l=Z->a∈l->A2 a=Z
 | b::l,a,d,h=>by
  simp only[BO,AK] at d;rcases BF.1 h with rfl|h
  .grind
  .exact CB d.2 h
def MM (ς:A7 0=ϴ) (τ:A7 1=ϴ):∀(f:Nat) (t:Ty) (σ:Ϟ),A2 t=Z->CJ (F σ) t=Z->σ.Nodup->CG (bw t)->tR A7 f σ t:=by
 intro f
 induction f with
 | zero=>
  intro t σ _ _ _ _ B _;rw[DR,BI];exact C5 _
 | succ f μ=>
  intro t σ C u hn b1 B ο;obtain⟨k,n,i,ts⟩:=t;have ν:=C;simp only[A2,AK] at C;have leaf:∀{p:Ty} {b:Br},Rl ϴ 0 B (F B) (F B) σ b p []->La (λd b p=>∃φ,Rl ϴ 0 d (F B) (F d) σ b p φ) B (Y [b]) (Y [p],B):=λH=>⟨C5 _,⟨[],H⟩,Ay⟩
  rcases JN C.1 with ⟨rfl,rfl,rfl,rfl⟩|⟨rfl,rfl,rfl,rfl⟩|rfl|⟨rfl,rfl,rfl⟩|⟨rfl,rfl,rfl,b5⟩|⟨rfl,rfl,rfl,h0⟩|⟨rfl,rfl,rfl,b,s,rfl,δ⟩
  .rw[DR,inst,Dg]
   simp only[show((0:Int)==5)=ϴ from rfl,AL];rw[BI];simp only[CS,D6,AQ,τ,AL];refine leaf { nd:=EI,LM:=λx hx=>AB,len:=rfl,KA:=λi x hx=>AB,small:=(by simp[AW]),bd:=?_,vis:=λi Δ=>(by grind[vis]),eq:=?_ }
   all_goals rfl
  .rw[DR,inst,Dg]
   simp only[show((1:Int)==5)=ϴ from rfl,AL];rw[BI];simp only[show((1:Int)==0)=ϴ from rfl,show((1:Int)==2)=ϴ from rfl,show((1:Int)==7)=ϴ from rfl,show((1:Int)==3)=ϴ from rfl,show((1:Int)==4)=ϴ from rfl,show((1:Int)==5)=ϴ from rfl,show((1:Int)==6)=ϴ from rfl,Kf,AL,ς];exact⟨C5 _,Ay⟩
  .have O:plain (.mk 2 n i ts)=true:=by grind[plain,SA]
   have⟨q1,Θ⟩:=O4 σ _ ν O u;have e:BI A7 (f+1) (inst σ 0 (.mk 2 n i ts)) B=(Y [inst σ 0 (.mk 2 n i ts)],B):=by grind[inst,BI]
   rw[DR,e];simp only[show((2:Int)==0)=ϴ from rfl,CS,D6,AQ,AL];have hb:bd (.mk 2 n i ts)=true:=Bp;refine leaf { nd:=EI,LM:=λx hx=>AB,len:=rfl,KA:=λi x hx=>AB,small:=(by simp[AW]),bd:=?_,vis:=λj T=>?_,eq:=?_ }
   .simp[*,ML,O3]
   .rw[ML,Jg] at T
    obtain⟨b2,a2,rfl⟩:=Cw.1 T;have:=Q9 _ _ ν u b2 a2;omega
   .rw[Θ,ML,tr,tr,Gn]
    refine Cc _ λj T=>?_
    have:=Q9 _ _ ν u j T
    grind[Ii]
  .have I:=Dq u AH
   have K:∀t∈ts,tR A7 f σ t:=λt E=>μ t σ (CB C.2 E) (FJ AH I E) hn (by
    have:bw t<=(qp ts).sum:=by simp[*,Fp,EM,EH]
    grind[CG,bw])
   have y:=lY (A7:=A7) ts [] B ο K;rw[DR,inst];simp only[show((3:Int)==5)=ϴ from rfl,AL];rw[BI,FI AH];simp only[show((3:Int)==0)=ϴ from rfl,show((3:Int)==2)=ϴ from rfl,show((3:Int)==7)=ϴ from rfl,show((3:Int)==4)=ϴ from rfl,show((3:Int)==5)=ϴ from rfl,Kf,AL,CS,AQ];cases ζ:FH (ts.map (DR A7 f)) with
   | none=>
    rw[ζ] at y;rcases z:Ey (BI A7 f) (ts.map (inst σ 0)) [] B with ⟨M,d⟩
    rw[z] at y;cases M with
    | some _=>grind
    | none=>exact y
   | some η=>
    rw[ζ] at y;rcases z:Ey (BI A7 f) (ts.map (inst σ 0)) [] B with ⟨M,d⟩
    rw[z] at y;cases M with
    | none=>grind
    | some υ=>
     obtain⟨θ,W,X,ι⟩:=y;simp only[Ct] at W;subst W;simp only;rw[<-cL ι];cases b6:η.any List.isEmpty with
     | true=>exact⟨X,Ay⟩
     | false=>
      simp only[AL];have ξ:CG (0+(ts.map bw).sum):=by grind[bw,Fp]
      have δ:=ze (A7:=A7) η (tS:=F B) (out:=[⟨[],.mk 3 [] 0 []⟩]) (ZU:=[[]]) (AU _) ι ξ (by
       refine And.intro ?_ Ay;refine⟨[],[],{ nd:=EI,LM:=λx hx=>AB,len:=rfl,KA:=λi x hx=>AB,small:=(by simp[AW]),bd:=?_,vis:=λi Δ=>(by grind[vis,DU]),eq:=?_ },rfl,AU _⟩
       all_goals rfl)
      cases E:H7 A7 η [⟨[],.mk 3 [] 0 []⟩] with
      | none=>
       rw[E] at δ;cases χ:Df A7 υ [[]] with
       | none=>exact X
       | some _=>grind
      | some r=>
       rw[E] at δ;cases χ:Df A7 υ [[]] with
       | none=>grind
       | some all=>
        rw[χ] at δ
        have Ψ:A7 (F all)=false:=by
         have b7:∀(θ:List Ϣ) (ε:List Ϣ) (all:List Ϣ),A7 (F ε)=ϴ->Df A7 θ ε=Y all->A7 (F all)=false:=by
          intro θ
          induction θ with
          | nil=>grind[Df]
          | cons ps θ K=>
           grind[Df]
         grind
        simp only[Ψ,AL];refine⟨X,?_⟩
        grind[CD.of_map]
  .have I:=Dq u AH
   have K:∀t∈ts,tR A7 f σ t:=λt E=>μ t σ (CB C.2 E) (FJ AH I E) hn (by
    have:bw t<=(qp ts).sum:=by simp[*,Fp,EM,EH]
    grind[CG,bw])
   have y:=ZV (A7:=A7) ts [] Z B ο K;rw[DR,inst];simp only[show((4:Int)==5)=ϴ from rfl,AL];rw[BI,FI AH];simp only[show((4:Int)==0)=ϴ from rfl,show((4:Int)==2)=ϴ from rfl,show((4:Int)==7)=ϴ from rfl,show((4:Int)==3)=ϴ from rfl,show((4:Int)==5)=ϴ from rfl,Kf,AL,CS,AQ];cases ζ:FH (ts.map (DR A7 f)) with
   | none=>
    rw[ζ] at y;rcases z:G1 (BI A7 f) (ts.map (inst σ 0)) [] Z B with ⟨⟨o,ok⟩,d⟩
    rw[z] at y;obtain⟨W,rfl⟩:=y
    assumption
   | some η=>
    rw[ζ] at y;rcases z:G1 (BI A7 f) (ts.map (inst σ 0)) [] Z B with ⟨⟨o,ok⟩,d⟩
    rw[z] at y;obtain⟨W,rfl,ps,X,ι⟩:=y;simp only[Ct] at X;subst X;simp only[Cm,<-ι.tP];cases A7 (F η.flatten) with
    | true=>exact W
    | false=>exact⟨W,ι⟩
  .have O:plain (var i)=true:=by rfl
   have⟨q1,Θ⟩:=O4 σ _ ν O u;have Δ:=Iy u;have⟨w,ξ⟩:∃w,σ[i.toNat]?=Y w:=⟨_,Az AA⟩;have b3:inst σ 0 (var i)=ph w:=by grind[Bq]
   rw[DR,b3,BI];simp only[show((5:Int)==0)=ϴ from rfl,show((5:Int)==2)=ϴ from rfl,show((7:Int)==0)=ϴ from rfl,show((7:Int)==2)=ϴ from rfl,CS,Dx,AQ,AL,τ];refine leaf { nd:=EI,LM:=λx hx=>AB,len:=rfl,KA:=λi x hx=>AB,small:=(by simp[AW]),bd:=?_,vis:=λj T=>?_,eq:=?_ }
   .rfl
   .rw[o8,Bq] at T
    grind[vis]
   .rw[o8,Bq]
    grind[Bq,Ii]
  .simp only[BO,AK,L1] at C
   have I:=Dq u AH;simp only[De,AK,L1,show Dz 6 0=0 from rfl,show Dz 6 1=1 from rfl] at I;have b8:bw b<=bw (.mk 6 [] 0 [b,s])/\bw s+1+cv s*bw b<=bw (.mk 6 [] 0 [b,s]):=by grind[bw,qp,MK,zb]
   unfold CG at b1;have a3:=μ b [] C.2.1 AA EI (by grind[CG]);have Ω:sub (F B) 0 (inst σ 1 s)=inst (F B::σ) 0 s:=J9 (F B) σ s 0 C.2.2 AB;have ρ:F B∉σ:=λh=>absurd (ο _ h) AA
   have D:=μ s (F B::σ) C.2.2 AB (Yg.2 ⟨ρ,hn⟩) (by grind[CG]) (B++[b]) AB;have a4:inst σ 0 b=b:=Ig σ b 0 C.2.1 δ;rw[DR,inst];simp only[show((6:Int)==5)=ϴ from rfl,AL,Dg,show Dz 6 0=0 from rfl,show Dz 6 (0+1)=1 from rfl,G8,CY,a4];rw[BI];simp only[show((6:Int)==0)=ϴ from rfl,show((6:Int)==2)=ϴ from rfl,show((6:Int)==7)=ϴ from rfl,show((6:Int)==3)=ϴ from rfl,show((6:Int)==4)=ϴ from rfl,show((6:Int)==5)=ϴ from rfl,Kf,AL,CS,AQ,ah];rw[Ω];have ω:B<+:B++[b]:=List.prefix_append _ _;cases κ:DR A7 f s with
   | none=>
    rw[κ] at D;rcases z:BI A7 f (inst (F B::σ) 0 s) (B++[b]) with ⟨M,d⟩
    rw[z] at D;cases M with
    | some _=>exact D.elim
    | none=>exact Es ω D
   | some l=>
    rw[κ] at D;rcases z:BI A7 f (inst (F B::σ) 0 s) (B++[b]) with ⟨M,d⟩
    rw[z] at D;cases M with
    | none=>exact D.elim
    | some ps=>
     obtain⟨O,a0⟩:=D;have a5:F (B++[b])=F B+1:=AD;rw[a5] at a0;have a1:d[F B]?=Y b:=Ih O AD
     have a6:∀A,La (λd c q=>∃ψ,Rl ϴ 0 d (F A) (F d) [] c q ψ) A (DR A7 f b) (BI A7 f b A):=by
      intro A;have:=a3 A (λx hx=>by grind)
      grind[Ig]
     have ξ:∀r,DR A7 f b=Y r->∀c∈r,F c.AN<=bw b:=λr κ c u=>(Cq f b r κ c u).1
     have a7:∀c∈l,F c.AN<=bw s/\F (Af c.AM)<=cv s:=Cq f s l κ
     have step:=ZT (A7:=A7) (Q:=λd b p=>∃φ,Rl ϴ 0 d (F B) (F d) σ b p φ) (λA Λ a q hA ⟨φ,h⟩=>⟨φ,h.mono hA (AU _) (AU _) (Fe hA)⟩)
      (S:=λc q=>c∈l/\∃ψ,Rl ϴ 0 d (F B+1) (F d) (F B::σ) c q ψ) (g:=Dn A7 (DR A7 f b) b) (g':=Bw A7 (BI A7 f b) (F B)) (B0:=d) (by
       rintro c q A hA ⟨I,φ,Ξ⟩;have u:=a7 c I;rw[Ξ.len] at u;have a8:=Ξ.mono hA (AU _) (AU _) (Fe hA);have hm:F (Af c.AM)*bw b<=cv s*bw b:=Be _ u.2;have b9:((F (Af c.AM):Nat):Int)*(bw b:Nat)<=(cv s:Nat)*(bw b:Nat):=AA;have y:(((bw s+1+cv s*bw b:Nat)):Int)<AW:=AA;have hq':((bw s:Nat):Int)+1+(cv s:Nat)*(bw b:Nat)<AW:=AA;exact lX ρ a6 ξ a8 (Ih hA a1) AA) l ps [] [] d (C5 _) (by
       have:∀{γ:Ϥ} {ps:Ϣ},(∀c∈γ,c∈l)->CD (λc q=>∃ψ,Rl ϴ 0 d (F B+1) (F d) (F B::σ) c q ψ) γ ps->CD (λc q=>c∈l/\∃ψ,Rl ϴ 0 d (F B+1) (F d) (F B::σ) c q ψ) γ ps:=by
        intro γ
        induction γ with
        | nil=>intro ps _ h; cases ps with
         | nil=>trivial
         | cons _ _=>exact h.elim
        | cons a γ K=>intro ps hm h; cases ps with
         | nil=>exact h.elim
         | cons q ps=>exact⟨⟨hm a AD,h.1⟩,K (λc u=>hm c (C4 _ u)) h.2⟩
       grind) Ay
     simp only
     have Φ:∀(m:Ϣ) (ε:Ϣ) (A:Ϣ),A7 (F ε)=ϴ->∀r Λ,Ce A7 (Bw A7 (BI A7 f b) (F B)) m ε A=(Y r,Λ)->A7 (F r)=false:=by
      intro m
      induction m with
      | nil=>grind[Ce]
      | cons q m K=>
       grind[Ce]
     have a9:=Φ ps [] d ς;revert step;rcases b0:Ce A7 (Bw A7 (BI A7 f b) (F B)) ps [] d with ⟨π,b4⟩
     have Γ:B<+:d:=Es ω O;cases Fl A7 (Dn A7 (DR A7 f b) b) l [] <;> cases π <;> intro step
     .exact Es Γ step
     .exact step.elim
     .assumption
     .rename_i r1 π
      simp only[a9 π b4 b0,AL];exact⟨Es Γ step.1,step.2⟩
end
mutual
def BQ:Ty->Ϛ->Ϛ
 | .mk k _ i ts,l=>bif k==5 then(bif l.contains i then l else l++[i]) else bif k==2||k==3 then FK ts l else l
def FK:Ϣ->Ϛ->Ϛ
 | [],l=>l
 | t::ts,l=>FK ts (BQ t l)
end
def UK (l:Ϛ):Nat->Nat->Ty->Ty
 | 0,_,t=>t
 | f+1,j,t=>UK l f (j+1) (Ht (l.getD j 0) (AW+1+j) t)
def I1:Nat->Nat->Ty->Ty
 | 0,_,t=>t
 | f+1,j,t=>I1 f (j+1) (Ht (AW+1+j) j t)
def XL:Ty:=.mk 0 [] 0 []
def CE (b:Br):Br:=⟨(BQ b.AM []).map λi=>b.AN.getD i.toNat XL,I1 (F (BQ b.AM [])) 0 (UK (BQ b.AM []) (F (BQ b.AM [])) 0 b.AM)⟩
mutual
def Lc (N:Nat):Ty->Ϟ->Ty×Ϟ
 | .mk k n i ts,o=>bif k==7&&decide (i<N) then(match o.findIdx? (·==i.toNat) with
   | some j=>(var j,o)
   | none=>(var (F o),o++[i.toNat]))
  else(.mk k n i (HL N ts o).1,(HL N ts o).2)
def HL (N:Nat):Ϣ->Ϟ->Ϣ×Ϟ
 | [],o=>([],o)
 | t::l,o=>((Lc N t o).1::(HL N l (Lc N t o).2).1,(HL N l (Lc N t o).2).2)
end
def Gc (B:Ϣ) (p:Ty):Br:=⟨(Lc (F B) p []).2.map λx=>B.getD x XL,(Lc (F B) p []).1⟩
mutual
theorem XM (N:Nat):∀(t:Ty) (o:Ϟ),A2 t=Z->Lc N t o=(t,o)
 | .mk k n i ts,o,h=>by
  have b:(k==7)=false:=by grind[HK]
  simp only[A2,AK] at h;rw[Lc,b];simp only[HB,AL,UL N ts o h.2]
theorem UL (N:Nat):∀(l:Ϣ) (o:Ϟ),BO l=Z->HL N l o=(l,o)
 | [],_,_=>rfl
 | t::l,o,h=>by
  simp only[BO,AK] at h;rw[HL,XM N t o h.1];simp only[UL N l o h.2]
end
mutual
def UM:∀(t:Ty) (l:Ϛ),l<+:BQ t l
 | .mk k _ i ts,l=>by
  rw[BQ];cases (k==5) with
  | true=>
   grind
  | false=>
   cases (k==2||k==3) with
   | true=>exact Jq ts l
   | false=>simp
def Jq:∀(ts:Ϣ) (l:Ϛ),l<+:FK ts l
 | [],l=>C5 _
 | t::ts,l=>(UM t l).trans (Jq ts _)
end
mutual
def G3:∀(t:Ty) (l:Ϛ),∀i∈BQ t l,i∈l\/i∈vis t
 | .mk k _ j ts,l,i,d=>by
  rw[BQ] at d;rw[vis];cases e:(k==5) with
  | true=>
   grind
  | false=>
   rw[e] at d;cases b:(k==2||k==3) with
   | true=>
    rw[b] at d;exact XN ts l i d
   | false=>
    grind
def XN:∀(ts:Ϣ) (l:Ϛ),∀i∈FK ts l,i∈l\/i∈DU ts
 | [],l,i,b=>.inl b
 | t::ts,l,i,b=>by
  rw[DU,CU];rcases XN ts _ i b with h|h
  .rcases G3 t l i h with h|h
   all_goals grind
  grind
end
mutual
theorem I2:∀(t:Ty) (l:Ϛ),∀i∈vis t,i∈BQ t l
 | .mk k _ j ts,l,i,d=>by
  rw[vis] at d;rw[BQ];cases e:(k==5) with
  | true=>
   grind
  | false=>
   rw[e] at d;cases b:(k==2||k==3) with
   | true=>
    rw[b] at d;exact XO ts l i d
   | false=>
    grind
theorem XO:∀(ts:Ϣ) (l:Ϛ),∀i∈DU ts,i∈FK ts l
 | [],l,i,hi=>by cases hi
 | t::ts,l,i,hi=>by
  rw[DU,CU] at hi;rcases hi with hi|hi
  .exact(Jq ts _).subset (I2 t l i hi)
  .exact XO ts _ i hi
end
mutual
theorem GX:∀(t:Ty) (l:Ϛ),l.Nodup->(BQ t l).Nodup
 | .mk k _ j ts,l,b=>by
  rw[BQ];cases (k==5) with
  | true=>
   grind
  | false=>
   cases (k==2||k==3) with
   | true=>exact SC ts l b
   | false=>grind
theorem SC:∀(ts:Ϣ) (l:Ϛ),l.Nodup->(FK ts l).Nodup
 | [],l,b=>b
 | t::ts,l,b=>SC ts _ (GX t l b)
end
mutual
theorem lg:∀(t:Ty) (l:Ϛ),vis t=[]->BQ t l=l
 | .mk k _ j ts,l,d=>by
  rw[vis] at d;rw[BQ];cases e:(k==5) with
  | true=>grind
  | false=>
   rw[e] at d;cases b:(k==2||k==3) with
   | true=>rw[b] at d; exact cM ts l d
   | false=>rfl
theorem cM:∀(ts:Ϣ) (l:Ϛ),DU ts=[]->FK ts l=l
 | [],l,_=>rfl
 | t::ts,l,b=>by
  rw[DU,kX] at b;rw[FK,lg t l b.1,cM ts l b.2]
end
def pos (L:Ϛ) (i:Int):Nat:=L.idxOf i
theorem Ku {L:Ϛ} (hn:L.Nodup) {j:Nat} {i:Int} (h:L[j]?=Y i):pos L i=j:=by
 have⟨e,f⟩:=BJ.1 h;have hm:i∈L:=A8 h;have b:L.idxOf i<F L:=Yj hm
 have d:L[L.idxOf i]?=Y i:=by
  rw[Az b,List.getElem_idxOf]
 exact(List.getElem?_inj b hn).1 (d.trans h.symm)
section
variable {N:Nat} {U:Int->Nat} {L:Ϛ} (hL:L.Nodup) (hinj:∀i∈L,∀j∈L,U i=U j->i=j) (hN:∀i∈L,U i<N)
include hL hinj hN
mutual
theorem lp:∀(b:Ty) (l:Ϛ),pl b=Z->BQ b l<+:L->Lc N (tr U b) (l.map U)=(Bq (λi=>var (pos L i)) b,(BQ b l).map U)
 | .mk k n i ts,l,h,d=>by
  cases f:(k==5) with
  | true=>
   rw[tr,Bq,Bq,BQ,f];simp only[AQ]
   have r:i∈L:=by
    have:i∈BQ (.mk k n i ts) l:=I2 _ l i (by grind[vis])
    grind
   have x:=hN i r;rw[Lc];have o:((U i:Nat):Int)<N:=AA;rw[Ax o];simp only[CS,F0,AQ,Int.toNat_natCast];have e:l<+:L:=(UM _ l).trans d;cases s:l.contains i with
   | true=>
    have hm:i∈l:=AB;have⟨j,t⟩:=Np hm
    have p:L[j]?=Y i:=by
     obtain⟨m,rfl⟩:=e
     grind
    have hf:(l.map U).findIdx? (·==U i)=Y j:=by
     rw[kY];have y:=(BJ.1 t).1;refine⟨AB,AB,λa B=>?_⟩;simp only[List.getElem_map,Gf];intro C;have z:a<F l:=AA
     have A:L[a]?=Y l[a]:=by
      obtain⟨m,rfl⟩:=e
      grind
     grind[List.getElem?_inj]
    grind[Ku]
   | false=>
    have hm:i∉l:=AB
    have p:L[F l]?=Y i:=by
     rw[BQ,f,s] at d;simp only[AQ,AL] at d;obtain⟨m,rfl⟩:=d;simp
    grind[Ku]
  | false=>
   cases D:(k==2) with
   | true=>
    have u:k=2:=AB;subst u;rw[pl] at h;rw[BQ] at d ⊢;have:=cN ts l AB AB
    grind[Bq,Lc]
   | false=>
    grind[pl,Hu,XM,N1,lg,UD]
theorem cN:∀(ts:Ϣ) (l:Ϛ),WO ts=Z->FK ts l<+:L->HL N (SW U ts) (l.map U)=(B4 (λi=>var (pos L i)) ts,(FK ts l).map U)
 | [],l,_,_=>rfl
 | t::ts,l,h,b=>by
  simp only[WO,AK] at h;have _h:=hL;have _h:=hinj;have _h:=hN;have d:=lp t l h.1 ((Jq ts _).trans b);rw[SW,B4,HL,d];simp only;rw[show B4 (λi=>ph (U i)) ts=SW U ts from rfl,cN ts (BQ t l) h.2 b];rfl
end
end
section
variable {N:Nat} {U:Int->Nat} {L:Ϛ} (hL:L.Nodup) (hinj:∀i∈L,∀j∈L,U i=U j->i=j) (hN:∀i∈L,U i<N)
include hL hinj hN
mutual
def jH:∀(b:Ty) (l:Ϛ),bd b=Z->BQ b l<+:L->Lc N (tr U b) (l.map U)=(Bq (λi=>var (pos L i)) b,(BQ b l).map U)
 | .mk k n i ts,l,h,d=>by
  cases f:(k==3) with
  | true=>
   have e:k=3:=AB;subst e;rw[bd] at h;rw[BQ] at d ⊢;have:=lq ts l AB AB
   grind[Bq,Lc]
  | false=>
   grind[pl,bd,lp]
def lq:∀(ts:Ϣ) (l:Ϛ),ND ts=Z->FK ts l<+:L->HL N (SW U ts) (l.map U)=(B4 (λi=>var (pos L i)) ts,(FK ts l).map U)
 | [],l,_,_=>rfl
 | t::ts,l,h,b=>by
  simp only[ND,AK] at h;have _h:=hL;have _h:=hinj;have _h:=hN;have d:=jH t l h.1 ((Jq ts _).trans b);rw[SW,B4,HL,d];simp only;rw[show B4 (λi=>ph (U i)) ts=SW U ts from rfl,lq ts (BQ t l) h.2 b];rfl
end
end
mutual
def NH:∀t:Ty,bd t=Z->Bq (λi=>var i) t=t
 | .mk k n i ts,h=>by
  rw[Bq];rw[bd] at h;cases d:(k==5) with
  | true=>
   grind
  | false=>
   rw[d] at h;cases b:(k==2) with
   | true=>
    rw[b] at h;simp only[AL,AQ,D6] at h ⊢;rw[RA ts h]
   | false=>
    rw[b] at h;cases e:(k==3) with
    | true=>
     rw[e] at h;simp only[AL,AQ,Dx] at h ⊢;rw[XP ts h]
    | false=>simp
def XP:∀l:Ϣ,ND l=Z->B4 (λi=>var i) l=l
 | [],_=>rfl
 | t::l,h=>by
  simp only[ND,AK] at h;rw[B4,NH t h.1,XP l h.2]
def tT:∀t:Ty,pl t=Z->Bq (λi=>var i) t=t
 | .mk k n i ts,h=>by
  rw[Bq];rw[pl] at h;cases d:(k==5) with
  | true=>
   grind
  | false=>
   rw[d] at h;cases b:(k==2) with
   | true=>
    rw[b] at h;simp only[AL,AQ,D6] at h ⊢;rw[RA ts h]
   | false=>
    rw[b] at h;have f:P1 (.mk k n i ts)=true:=AB;have e:=Hu (.mk k n i ts) (λi=>var i) f
    grind[Bq]
def RA:∀l:Ϣ,WO l=Z->B4 (λi=>var i) l=l
 | [],_=>rfl
 | t::l,h=>by
  simp only[WO,AK] at h;rw[B4,tT t h.1,RA l h.2]
end
def P5 (n m:Int) (g:Int->Int) (t:Ty):Ht n m (Bq (λi=>var (g i)) t)=Bq (λi=>var (bif g i==n then m else g i)) t:=by
 rw[JF,Gn]
def cO {l:Ϛ}:∀(f j:Nat) (g:Int->Int) (t:Ty),∃g':Int->Int,UK l f j (Bq (λi=>var (g i)) t)=Bq (λi=>var (g' i)) t /\
  ∀i,(∀q,l[q]?=Y (g i)->q<f+j->j<=q->l.Nodup->(∀x∈l,x<AW)->q<F l->f+j<=F l->g' i=AW+1+q)/\((∀q,j<=q->q<f+j->l.getD q 0≠g i)->g' i=g i)
 | 0,j,g,t=>⟨g,rfl,λi=>⟨λq _ b d=>by omega,λ_=>rfl⟩⟩
 | f+1,j,g,t=>by
  rw[UK,P5];have⟨g',b,d⟩:=cO (l:=l) f (j+1) (λi=>bif g i==l.getD j 0 then AW+1+j else g i) t;refine⟨g',b,λi=>⟨λq k q1 m hn n o hf=>?_,λe=>?_⟩⟩
  all_goals grind[List.getElem_mem,List.getElem?_inj]
def cP:∀(f j:Nat) (g:Int->Int) (t:Ty),∃g':Int->Int,I1 f j (Bq (λi=>var (g i)) t)=Bq (λi=>var (g' i)) t /\
  ∀i,(∀q:Nat,g i=AW+1+q->j<=q->q<f+j->(f+j:Nat)<AW->g' i=q)/\(g i<AW->g' i=g i)
 | 0,j,g,t=>⟨g,rfl,λi=>⟨λq _ b d=>by omega,λ_=>rfl⟩⟩
 | f+1,j,g,t=>by
  rw[I1,P5];have⟨g',b,d⟩:=cP f (j+1) (λi=>bif g i==AW+1+j then j else g i) t;refine⟨g',b,λi=>⟨λq k q1 l hf=>?_,λe=>?_⟩⟩
  all_goals grind
def UN {b:Ty} (hb:bd b=Z) (x:∀i∈vis b,0<=i/\i<AW) (n:CG (F (BQ b []))):I1 (F (BQ b [])) 0 (UK (BQ b []) (F (BQ b [])) 0 b)=Bq (λi=>var (pos (BQ b []) i)) b:=by
 have hn:=GX b [] EI
 have hm:∀i∈BQ b [],i<AW:=λi d=>by
  rcases G3 b [] i d with h|h
  all_goals grind
 have o:b=Bq (λi=>var i) b:=(NH b hb).symm;have⟨e,p,r⟩:=cO (l:=BQ b []) (F (BQ b [])) 0 (λi=>i) b;have⟨y,s,t⟩:=cP (F (BQ b [])) 0 e b
 have u:UK (BQ b []) (F (BQ b [])) 0 b=Bq (λi=>var (e i)) b:=by
  rw[<-p,<-o]
 rw[u,s];refine Cc _ λi d=>?_
 have k:=I2 b [] i d;have⟨q,f⟩:=Np k;have m:=(BJ.1 f).1;have:=(r i).1 q f AA AA hn hm m AA;have:=(t i).1 q this AA AA n
 grind[Ku]
def UO {B:Ϣ} {lo d:Nat} {b:Br} {p:Ty} {φ:Ϟ} (H:Rl ϴ 0 B lo d [] b p φ) (t:d<=F B) (n:CG (F (BQ b.AM []))):Gc B p=CE b:=by
 have u:∀i∈vis b.AM,0<=i/\i<F φ:=by
  intro i d;rcases H.vis i d with h|h|h
  all_goals grind
 have hn:=GX b.AM [] EI
 have e:∀i∈BQ b.AM [],0<=i/\i<F φ:=λi d=>by
  rcases G3 b.AM [] i d with h|h
  all_goals grind
 have z:=H.small;have f:∀i∈BQ b.AM [],∃x,φ[i.toNat]?=Y x/\x∈φ/\Mo φ [] 0 i=x:=λi d=>Ij (e i d).1 (e i d).2 AA
 have k:=jH (N:=F B) (U:=Mo φ [] 0) (L:=BQ b.AM []) hn (by
  intro i d j l m;have⟨x,hx,_,ex⟩:=f i d;have⟨y,o,_,r⟩:=f j l;rw[ex,r] at m;subst m;have A:=e i d;have C:=e j l;have:=(List.getElem?_inj AA H.nd).1 (hx.trans o.symm);omega) (by
  intro i d;have⟨x,hx,hm,ex⟩:=f i d;rw[ex];have:=H.LM x hm;omega) b.AM [] H.bd (C5 _)
 simp only[DC] at k;rw[<-H.eq] at k;have s:=UN H.bd (λi d=>by grind) n;unfold Gc CE;rw[k,s];simp only[PR];congr 1;refine Yd λi d=>?_
 have⟨x,hx,_,ex⟩:=f i d;simp only[Function.comp_apply];rw[ex,Sy,Sy,H.KA _ _ hx]
attribute [local simp] Hr MD Ir JL EK E3 Ee wO setCells Hw EX Dd Co Ex alive Dh Jf Qk bU Gq Iu Gl Hs K9 Iv gX fY okB gY gZ gh gi gj ag gm gp gu gv gw gx gy gz hG hJ hO okF hY iA iB iC iD Tu iE Ow Ox Oy Oz iG iH iI iJ iK iL iM iP iQ iR GG iT fZ iU iV iW iX iY iZ ia ic ie ig C0
section
variable {R:Nat->Option Ϧ}
mutual
def lu:∀(t:Ty),AP t<2 ^ 38->ZQ t->∀(x:AV),BD t x->Ah (env R) 73 [x] λr=>r=BB (A2 t)
 | .mk k n i ts,h,p,x,hx=>by
  obtain⟨a,rfl,b⟩:=hx;simp only[AP] at h;simp only[ZQ] at p;have z:Ak ts<2 ^ 38:=AA;have hn:=p.1;have A:=cQ ts z p.2
  suffices H:∀o:AV->Prop,o (BB (A2 (.mk k n i ts)))->ABm R 0 0 0 (.agg [AG k,SS n,AG i,a]) ⟨[],[]⟩ (QP o) from
   e73 (u0:=.agg [AG k,SS n,AG i,a]) (by simp[b.close]) (H _ rfl)
  intro o d;refine AMN ?_;simp only[A2] at d;unfold root at d;cases m:(k==2) with
  | true=>
   have e:k=2:=AB;subst e
   by_cases f:i=0
   .subst f
    simp[b.ok,b.BG,Ae]
    grind[Q8]
   .have l:(i==0)=false:=by grind
    rw[l] at d;simpa[QP,QI,b.ok,b.BG,Ae,f,bne,l] using d
  | false=>
   have e:¬ k=2:=AB;rw[m] at d
   by_cases u:n=[]
   .subst u
    cases s:(k==5) with
    | true=>
     have e5:k=5:=AB;subst e5;simp[b.ok,b.BG,Ae]
     grind[Q8]
    | false=>
     have e5:¬ k=5:=AB;rw[s] at d
     by_cases f:i=0
     .subst f
      simp[b.ok,b.BG,Ae,e,e5,bne,m,s]
      grind[Q8]
     .have l:(i==0)=false:=by grind
      rw[l] at d;simpa[QP,QI,b.ok,b.BG,Ae,e,e5,f,bne,m,s,l] using d
   .have y:(n==[])=false:=by grind
    rw[y] at d;simpa[QP,QI,b.ok,b.BG,Ae,e,u,bne,m,y] using d
def cQ:∀(l:Ϣ),Ak l<2 ^ 38->SV l->∀t∈l,Ah (env R) 73 [.agg ((Av t).map .pv)] λr=>r=BB (A2 t)
 | [],_,_,_,h=>by cases h
 | e::l,d,b,a,h=>by
  simp only[Ak] at d;simp only[SV] at b;rcases BF.1 h with h' | h'
  .rw[h']
   exact lu e AA b.1 _ (BD.Bo e)
  .exact cQ l AA b.2 a h'
end
theorem UP {t:Ty} (h:AP t<2 ^ 38) (B:ZQ t) {x:AV} (hx:BD t x):Ah (env R) 42 [x] λr=>r=AG (DJ t):=by
 have C:=Q2 (R:=R) t AA x hx;have D:=T1 (R:=R) t AA x hx;have e3:=Mi (R:=R) t h B x hx;have E:DJ t=bif decide (200<AP t)||decide (12<Al t) then 4 else bif A2 t then 0 else 2:=rfl
 generalize H:AP t=z at *;generalize I:Al t=d at *;generalize K:A2 t=w at *;obtain⟨k,n,i,ts⟩:=t;obtain⟨a,rfl,s⟩:=hx;refine e42 (u0:=.agg [AG k,SS n,AG i,a]) (by simp[s.close]) (ABn ?_);simp[s.ok];refine AI C ?_;rintro v rfl
 have l:∀b:Bool,b=(decide (200<z)||decide (12<d))->EK (BB b) (QP (λr=>r=AG (DJ (.mk k n i ts))) (AG 4) ⟨[[AG k,SS n,AG i,a]],[]⟩)
   (EX (env R) ⟨[[AG k,SS n,AG i,a]],[]⟩ (Y 4) (.ptr 0 0) λu=>G4 (env R) (Co (env R) 42 0 0 0) (.func (.func 86) [] []) [u] ⟨[[AG k,SS n,AG i,a]],[]⟩ λy p=>K9 y λA=>EK A (QP (λr=>r=AG (DJ (.mk k n i ts))) (AG 2) p) (ABo R 0 0 0 p (QP λr=>r=AG (DJ (.mk k n i ts))))):=by
  rintro b rfl;cases hb:(decide (200<z)||decide (12<d)) with
  | true=>simp[*,QP]
  | false=>
   simp;refine AI e3 ?_;rintro v rfl;cases w with
   | false=>simp[*,QP]
   | true=>
    simp;refine AMO ?_;simp[*,QP]
 by_cases M:200<z
 .have e:(200<(z:Int)):=by omega
  have f:¬ ((z:Int)<=200):=AA;have:=l Z AB;simpa[e,f] using this
 .have e:¬ (200<(z:Int)):=by omega
  have f:((z:Int)<=200):=AA;simp[e,f];refine AI D ?_;rintro v rfl
  by_cases O:12<d
  .have m:(12<(d:Int)):=by omega
   have o:¬ ((d:Int)<=12):=AA;have:=l Z AB;simpa[e,f,m,o] using this
  .have m:¬ (12<(d:Int)):=by omega
   have o:((d:Int)<=12):=AA;have:=l ϴ AB;simpa[e,f,m,o] using this
def WQ {t:Ty} (h:AP t<2 ^ 60) (m:ZQ t) {x:AV} (hx:BD t x):Ah (env R) 42 [x] λr=>r=AG (DJ t):=by
 by_cases o:AP t<2 ^ 38
 .grind[UP]
 have d:=Q2 (R:=R) t AA x hx;have e:DJ t=4:=by grind[DJ]
 rw[e];generalize p:AP t=z at *;obtain⟨k,n,i,ts⟩:=t;obtain⟨a,rfl,b⟩:=hx;refine e42 (u0:=.agg [AG k,SS n,AG i,a]) (by simp[b.close]) (ABn ?_);simp[b.ok];refine AI d ?_;rintro v rfl;have f:(200<(z:Int)):=AA;have l:¬ ((z:Int)<=200):=AA;simp[*,QP]
theorem SX {t:Ty} (h:AP t<2 ^ 38) (B:ZQ t) {x:AV} (hx:BD t x):Ah (env R) 30 [x] λr=>r=AG (DJ t):=by
 have C:=O0 (R:=R) t AA x hx;have D:=R4 (R:=R) t AA x hx;have e3:=lu (R:=R) t h B x hx;have E:DJ t=bif decide (200<AP t)||decide (12<Al t) then 4 else bif A2 t then 0 else 2:=rfl
 generalize H:AP t=z at *;generalize I:Al t=d at *;generalize K:A2 t=w at *;obtain⟨k,n,i,ts⟩:=t;obtain⟨a,rfl,s⟩:=hx;refine e30 (u0:=.agg [AG k,SS n,AG i,a]) (by simp[s.close]) (ABp ?_);simp[s.ok];refine AI C ?_;rintro v rfl
 have l:∀b:Bool,b=(decide (200<z)||decide (12<d))->EK (BB b) (QP (λr=>r=AG (DJ (.mk k n i ts))) (AG 4) ⟨[[AG k,SS n,AG i,a]],[]⟩)
   (EX (env R) ⟨[[AG k,SS n,AG i,a]],[]⟩ (Y 4) (.ptr 0 0) λu=>G4 (env R) (Co (env R) 30 0 0 0) (.func (.func 73) [] []) [u] ⟨[[AG k,SS n,AG i,a]],[]⟩ λy p=>K9 y λA=>EK A (QP (λr=>r=AG (DJ (.mk k n i ts))) (AG 2) p) (ABq R 0 0 0 p (QP λr=>r=AG (DJ (.mk k n i ts))))):=by
  rintro b rfl;cases hb:(decide (200<z)||decide (12<d)) with
  | true=>simp[*,QP]
  | false=>
   simp;refine AI e3 ?_;rintro v rfl;cases w with
   | false=>simp[*,QP]
   | true=>
    simp;refine AMP ?_;simp[*,QP]
 by_cases M:200<z
 .have e:(200<(z:Int)):=by omega
  have f:¬ ((z:Int)<=200):=AA;have:=l Z AB;simpa[e,f] using this
 .have e:¬ (200<(z:Int)):=by omega
  have f:((z:Int)<=200):=AA;simp[e,f];refine AI D ?_;rintro v rfl
  by_cases O:12<d
  .have m:(12<(d:Int)):=by omega
   have o:¬ ((d:Int)<=12):=AA;have:=l Z AB;simpa[e,f,m,o] using this
  .have m:¬ (12<(d:Int)):=by omega
   have o:((d:Int)<=12):=AA;have:=l ϴ AB;simpa[e,f,m,o] using this
def UQ {t:Ty} (h:AP t<2 ^ 60) (m:ZQ t) {x:AV} (hx:BD t x):Ah (env R) 30 [x] λr=>r=AG (DJ t):=by
 by_cases o:AP t<2 ^ 38
 .grind[SX]
 have d:=O0 (R:=R) t AA x hx;have e:DJ t=4:=by grind[DJ]
 rw[e];generalize p:AP t=z at *;obtain⟨k,n,i,ts⟩:=t;obtain⟨a,rfl,b⟩:=hx;refine e30 (u0:=.agg [AG k,SS n,AG i,a]) (by simp[b.close]) (ABp ?_);simp[b.ok];refine AI d ?_;rintro v rfl;have f:(200<(z:Int)):=AA;have l:¬ ((z:Int)<=200):=AA;simp[*,QP]
end
section
variable {R:Nat->Option Ϧ}
def MN (b:Bool):Ah (env R) 113 [BB b] λr=>∃c:Int,r=AG c/\c≠0:=by
 refine AWY (u0:=BB b) AD (AF6 ?_);refine⟨λ_=>⟨_,GG,-1,rfl,AA⟩,λ_=>AF7 ⟨_,GG,1,rfl,AA⟩⟩
def tU {k i k' i':Int} {n n':Ϝ} {ts d:Ϣ} {a o:AV} (l:A3 a (Aj ts)) (y:A3 o (Aj d)) (I:Ak ts<2 ^ 60) (E:F ts=F d)
  (B:∀t∈ts,∀(b:Ty) (x p:AV),BD t x->BD b p->Ah (env R) 79 [x,p] λr=>∃c:Int,r=AG c/\(c=0<->t=b)) {Post:AV->Prop} :
  ∀(j q:Nat),q+j=F ts->(∀c:Int,(c=0<->ts.drop q=d.drop q)->Post (AG c))->ABr R 0 0 0 (.ptr 0 0) (.ptr 1 0) (AG q) ⟨[[AG k,SS n,AG i,a],[AG k',SS n',AG i',o]],[]⟩ (QP Post):=by
 have H:=Bl ts;intro j
 induction j with
 | zero=>
  intro q C f;refine ABs ?_;have m:¬ ((q:Int)<F ts):=AA;simp[l.BG,Ae,m];refine AMQ ?_;have K:ts.drop q=[]:=CR AA;have M:d.drop q=[]:=CR AA;exact⟨_,GG,f 0 AB⟩
 | succ j z=>
  intro q C f;refine ABs ?_;have m:((q:Int)<F ts):=AA;have⟨t,s⟩:∃t,ts[q]?=Y t:=⟨_,Az AA⟩;have⟨b,A⟩:∃t,d[q]?=Y t:=⟨_,Az AA⟩;rw[drop_cons s,drop_cons A] at f;have e3:=B t (A8 s) b _ _ (BD.Bo t) (BD.Bo b);simp[l.BG,Ae,m];refine AMR ?_;simp;refine BL l (row:=Av t) AA (by simp[*,BK]) (Aq t) AA ?_;simp[Aq];refine BL y (row:=Av b) AA (by simp[*,BK]) (Aq b) AA ?_;have tk:∀t:Ty,List.take 4 ((Av t).map AV.pv)=(Av t).map .pv:=λt=>CC (by simp[Aq])
  simp[Aq,<-List.map_take,tk];refine AI e3 ?_;rintro v ⟨c,rfl,D⟩
  by_cases u:c=0
  .have e:t=b:=D.1 u
   subst u;simp;refine AMS ?_;simp only[Dh];refine⟨⟨Ay,Ay⟩,Ci AA AA ?_⟩;have:=z (q+1) AA (λc h=>f c (by rw[h]; grind))
   grind
  simp_all[QP]
mutual
def cR:∀(t:Ty),AP t<2 ^ 38->∀(z:Ty) (x y:AV),BD t x->BD z y->Ah (env R) 79 [x,y] λr=>∃c:Int,r=AG c/\(c=0<->t=z)
 | .mk k n i ts,h,.mk p s e o,x,y,hx,E=>by
  obtain⟨a,rfl,d⟩:=hx;obtain⟨A,rfl,b⟩:=E;simp only[AP] at h;have I:=XQ ts AA
  suffices H:∀m:AV->Prop,(∀c:Int,(c=0<->Ty.mk k n i ts=Ty.mk p s e o)->m (AG c))->ABt R 0 0 0 (.agg [AG k,SS n,AG i,a]) (.agg [AG p,SS s,AG e,A]) ⟨[],[]⟩ (QP m) from
   e79 (u0:=.agg [AG k,SS n,AG i,a]) (u1:=.agg [AG p,SS s,AG e,A]) (by simp[d.close,b.close]) (H _ λc f=>⟨c,rfl,f⟩)
  intro m l;refine AMT ?_;simp only[Ty.mk.injEq] at l
  by_cases B:k=p
  .subst B
   by_cases C:n=s
   .subst C
    by_cases D:i=e
    .subst D
     by_cases K:F ts=F o
     .have u:((F ts:Int)=F o):=by omega
      simp[d.ok,b.ok,d.BG,b.BG,Ae,u,bne];refine AMU ?_;have:=tU (k:=k) (i:=i) (k':=k) (i':=i) (n:=n) (n':=n) d b AA K I (F ts) 0 AA (Post:=m) AB;omega
     .have u:¬ ((F ts:Int)=F o):=by omega
      simp[d.ok,b.ok,d.BG,b.BG,Ae,u,bne];refine AI (MN _) ?_;rintro v ⟨c,rfl,f⟩;exact⟨_,GG,l c AB⟩
    .have M:(i==e)=false:=by grind
     simp[d.ok,b.ok,D,bne];refine AI (MN _) ?_;rintro v ⟨c,rfl,f⟩;exact⟨_,GG,l c AA⟩
   .simp[d.ok,b.ok,C,bne]
    refine AI (MN _) ?_;rintro v ⟨c,rfl,f⟩;exact⟨_,GG,l c AB⟩
  .simp[d.ok,b.ok,B,bne]
   refine AI (MN _) ?_;rintro v ⟨c,rfl,f⟩;exact⟨_,GG,l c AA⟩
def XQ:∀(l:Ϣ),Ak l<2 ^ 38->∀t∈l,∀(b:Ty) (x d:AV),BD t x->BD b d->Ah (env R) 79 [x,d] λr=>∃c:Int,r=AG c/\(c=0<->t=b)
 | [],_,_,h=>by cases h
 | e::l,f,a,h=>by
  simp only[Ak] at f;rcases BF.1 h with h' | h'
  .rw[h']
   exact cR e AA
  .exact XQ l AA a h'
end
def Jh {t d:Ty} {x f:AV} (h:AP t<2 ^ 38) (hx:BD t x) (l:BD d f):Ah (env R) 35 [x,f] λr=>∃b:Bool,r=BB b/\(b=Z<->t=d):=by
 have e:=cR (R:=R) t h d x f hx l;obtain⟨k,n,i,ts⟩:=t;obtain⟨p,s,u,z⟩:=d;obtain⟨a,rfl,o⟩:=hx;obtain⟨y,rfl,m⟩:=l;refine e35 (u0:=.agg [AG k,SS n,AG i,a]) (u1:=.agg [AG p,SS s,AG u,y]) (by simp[o.close,m.close]) (AMV ?_);simp[o.ok,m.ok];refine AI e ?_;rintro v ⟨c,rfl,A⟩;refine⟨⟨rfl,rfl⟩,_,GG,?_⟩
 grind
end
theorem Aw {b:Bool} {s:AY} {W:Ϡ->Prop} {K:Ϡ} (h:W K):Qk (BB b) b s W K:=⟨λ_=>h,λh=>absurd rfl h⟩
def LC {b c:Bool} {s:AY} {W:Ϡ->Prop} {K:Ϡ} (hn:b≠c) (h:K (.tuple []) s):Qk (BB b) c s W K:=⟨λh=>absurd h hn,λ_=>h⟩
theorem C8 {s:AY} {W:Ϡ->Prop} {K:Ϡ} (h:K (.tuple []) s):Qk (BB Z) ϴ s W K:=LC AH h
theorem B7 {s:AY} {W:Ϡ->Prop} {K:Ϡ} (h:K (.tuple []) s):Qk (BB ϴ) Z s W K:=LC AH h
theorem BH {A B:Prop} (h:A):EK (BB Z) A B:=⟨λ_=>h,λh=>by cases h⟩
theorem A4 {A B:Prop} (h:B):EK (BB ϴ) A B:=⟨λh=>(by cases h),λ_=>h⟩
theorem pk {c:Bool} {a b:AV} {K:AV->Prop} (h:K (bif c then a else b)):Gq (BB c) a b K:=h
theorem BE {k:IntKind} {a b:Int} {K:AV->Prop} (h:K (BB (a==b))):Dh k .eql (.pv (.sc (.int k a))) (.pv (.sc (.int k b))) K:=⟨⟨rfl,rfl⟩,h⟩
def Ef {k:IntKind} {a b:Int} {K:AV->Prop} (h:K (BB (a != b))):Dh k .neq (.pv (.sc (.int k a))) (.pv (.sc (.int k b))) K:=⟨⟨rfl,rfl⟩,h⟩
theorem Ao {a b:Int} {K:AV->Prop} (h:K (BB (a<b))):Dh .i64 .lss (AG a) (AG b) K:=⟨⟨rfl,rfl⟩,h⟩
def ZW {a b:Int} {K:AV->Prop} (h:K (BB (a<=b))):Dh .i64 .leq (AG a) (AG b) K:=⟨⟨rfl,rfl⟩,h⟩
def Gv {a b:Int} {K:AV->Prop} (h:K (BB (a>b))):Dh .i64 .gtr (AG a) (AG b) K:=⟨⟨rfl,rfl⟩,h⟩
def Fq {a b:Int} {K:AV->Prop} (h:K (BB (a>=b))):Dh .i64 .geq (AG a) (AG b) K:=⟨⟨rfl,rfl⟩,h⟩
def Bb {a b:Int} {K:AV->Prop} (d:-(2 ^ 63)<=a+b) (e:a+b<2 ^ 63) (h:K (AG (a+b))):Dh .i64 .add (AG a) (AG b) K:=⟨⟨rfl,rfl⟩,Ci d e h⟩
def FL {a b:Int} {K:AV->Prop} (d:-(2 ^ 63)<=a-b) (e:a-b<2 ^ 63) (h:K (AG (a-b))):Dh .i64 .sub (AG a) (AG b) K:=⟨⟨rfl,rfl⟩,Ci d e h⟩
def FV {z ps cs:_} {K:AV->Prop} (hf:Ee z ps=Y cs) (h:K (.agg cs)):E3 z ps K:=by
 simp only[E3,hf,wO];exact h
def nt {b:Bool} {K:AV->Prop} (h:K (BB !b)):K9 (BB b) K:=h
def B9 {l:Ϭ} {i:Nat} {v:AV} {K:AV->Prop} (b:l[i]?=Y v) (h:K v):Iu (.tuple l) i K:=by
 simp only[Iu,wO,b];exact h
def Bs {s:AY} {v:AV} {cs:Ϭ} {K:Ϡ} (b:cellsOf v=cs) (d:cs.all BS=Z) (h:K (.ptr (F s.bs) 0) ⟨s.bs++[cs],s.ts⟩):MD s v K:=by
 unfold MD;rw[b];exact⟨d,h⟩
def Bh {s:AY} {cs:Ϭ} {K:Ϡ} (h:K (.ptr (F s.bs) 0) ⟨s.bs++[cs],s.ts⟩):Hr s cs K:=h
theorem Ab {s:AY} {id:Nat} {c:AV} {cs:Ϭ} (h:s.bs[id]?=Y (c::cs)):alive s id=true:=by
 simp[alive,h]
def DK {s:AY} {id off:Nat} {K:AV->Prop} (b:alive s id=Z) (h:K (.ptr id off)):Iv s (.ptr id off) K:=⟨b,h⟩
def AR {s:AY} {id off d:Nat} {K:AV->Prop} (b:alive s id=Z) (h:K (.ptr id (off+d))):Ex s (.ptr id off) d K:=⟨b,h⟩
def Ad {E:Env} {s:AY} {id off:Nat} {cs:Ϭ} {v:AV} {K:AV->Prop} (hb:s.bs[id]?=Y cs) (b:cs[off]?=Y v) (h:K v):EX E s G (.ptr id off) K:=by
 simp only[EX,hb,wO,Dd,b];exact h
theorem Ag {E:Env} {s:AY} {id k:Nat} {cs:Ϭ} {K:AV->Prop} (hb:s.bs[id]?=Y cs) (b:F cs=k) (h:K (.agg cs)):EX E s (Y k) (.ptr id 0) K:=by
 simp only[EX,hb,wO,Dd,Kg];refine⟨AA,?_⟩;rw[CC AA];exact h
def Au {s:AY} {a:AV} {n:Nat} {K:AV->Prop} (b:BG s a=Y n) (h:K (AG n)):Gl s a K:=by
 simp only[Gl,b,wO];exact h
def AF8 {a b:Ϝ} {K:AV->Prop} (d:F a+F b<2 ^ 63) (h:K (SS (a++b))):Jf .add (SS a) (SS b) K:=by
 simp only[Jf];exact⟨by simpa using d,by simpa using h⟩
def sln {w:Ϝ} {K:AV->Prop} (h:K (AG (F w))):Hs (SS w) K:=Bp
def six {w:Ϝ} {i:Int} {c:UInt8} {K:AV->Prop} (b:0<=i) (d:w[i.toNat]?=Y c) (h:K (.pv (.sc (.int .u8 c.toNat)))):XA (SS w) (AG i) K:=⟨b,c,d,h⟩
def Bn {L:Ba} {s:AY} {id k:Nat} {cs old:Ϭ} {K:AY->Prop} (hb:s.bs[id]?=Y old) (o:F cs=k) (r:F old=k) (t:0<k) (e:L.ro<=id) (f:cs.all BS=Z) (hn:L.n0<=id\/JB cs=Z) (h:K ⟨s.bs.set id cs,s.ts⟩):Hw L s k (.ptr id 0) (.agg cs) K:=by
 have l:cellsOf (.agg cs)=cs:=rfl
 have d:∀(a b:Ϭ),F a=F b->setCells a 0 b=b:=by
  intro a b m
  have n:∀(b pre old:Ϭ),F old=F b->setCells (pre++old) (F pre) b=pre++b:=by
   intro b
   induction b with
   | nil=>intro pre old h; cases old with
    | nil=>rfl
    | cons _ _=>grind
   | cons x b p=>
    intro pre old h;cases old with
    | nil=>grind
    | cons y old=>
     have:=p (pre++[x]) old AB
     simp_all[setCells]
  simpa using n b [] a m
 simp only[Hw,hb,wO,l];refine⟨⟨o,AA,e,f,hn,AA⟩,?_⟩;rw[d old cs AA];exact h
def o9 {P:Program} {t:TypeId} (b:P.underlying t=Y .string) (c:UInt8) (w:Ϝ):quick P (Instr.sliceAt t (.string ⟨(c::w).toArray⟩) (Y (.int .i64 1)) G G)=Y (.string ⟨w.toArray⟩):=by
 unfold Instr.sliceAt;refine C9 (Jr b) ?_;simp only;unfold Instr.slice;refine C9 (Jr b) ?_;have d:(1:Int)<=((⟨(c::w).toArray⟩:ByteArray).size:Int):=by grind[ByteArray.size]
 simp only[Instr.sliceBounds,Instr.sliceBound,asIntOf,d,Option.isSome_none,Dj,JP,pure_bind,L1,HA];have e:(⟨(c::w).toArray⟩:ByteArray).extract 1 (⟨(c::w).toArray⟩:ByteArray).size=⟨w.toArray⟩:=by simp[*,ByteArray.ext_iff,ByteArray.size]
 show quick P (pure (Value.string ((⟨(c::w).toArray⟩:ByteArray).extract 1 (⟨(c::w).toArray⟩:ByteArray).size)))=_
 rw[e];rfl
def pE {E:Env} {L:Ba} {s:AY} {lk:Lk} {o:Oper} {K:Ϡ} {t:TypeId} {x:Operand} {c:UInt8} {w:Ϝ} (b:o.op=.slice t x (Y (.const (.int .i64 1))) G G) (f:E.P.underlying t=Y .string) (hx:I3 lk x=Y (SS (c::w)))
  (h:K (SS w) s):lz E L s lk o K:=by
 refine⟨SS w,s,λU hA=>?_,h⟩;have ex:=Cj hA hx
 have k:FA U o.op.operands.toList=true:=by
  have e:o.op.operands.toList=[x,.const (.int .i64 1)]:=by rw[b]; rfl
  rw[e];have d:A1 U (.const (.int .i64 1))=.pv (.sc (.int .i64 1)):=rfl
  grind[FA,Hx]
 have l:DN E U o=Y (SS w):=by
  have:quick E.P (execOp (λz=>(Hx (A1 U z)).getD undef) o)=Y (.value (.string ⟨w.toArray⟩)):=by
   unfold execOp;rw[b];have d:A1 U (.const (.int .i64 1))=.pv (.sc (.int .i64 1)):=rfl;simp only[ex,d,Hx,JR,Nl,Option.map_none];exact C9 (o9 f c w) rfl
  simp only[DN,k,HA,this];rfl
 grind[Qm,C6]
def pF {E:Env} {L:Ba} {s:AY} {lk:Lk} {o:Oper} {K:Ϡ} {t c:TypeId} {x:Operand} (b:o.op=.binOp .eql t x (.const .nilIface) c) (hx:I3 lk x=Y (.pv (.sc .nilIface)))
  (d:quick E.P (do eqGuard .eql t x (.const .nilIface) .nilIface .nilIface; binOp .eql t .nilIface .nilIface)=Y (.bool Z)) (h:K (BB Z) s):lz E L s lk o K:=by
 refine⟨BB Z,s,λU hA=>?_,h⟩;have ex:=Cj hA hx;have f:A1 U (.const .nilIface)=.pv (.sc .nilIface):=rfl
 have k:FA U o.op.operands.toList=true:=by
  have e:o.op.operands.toList=[x,.const .nilIface]:=by rw[b]; rfl
  grind[FA,Hx]
 have l:DN E U o=Y (BB Z):=by
  have:quick E.P (execOp (λz=>(Hx (A1 U z)).getD undef) o)=Y (.value (.bool Z)):=by
   unfold execOp;rw[b];simp only[ex,f,Hx,JR];exact C9 d rfl
  simp only[DN,k,HA,this];rfl
 grind[JC,Ec,sameKind,rowsOf,JW,C6]
theorem XR:∀(f n:Nat) (acc:Ϝ),F acc<F (Ld (f+1) n acc)/\F (Ld (f+1) n acc)<=F acc+f+1
 | 0,n,acc=>by grind[Ld]
 | f+1,n,acc=>by
  rw[Ld];cases Nat.blt n 10 with
  | true=>simp
  | false=>
   have:=XR f (n / 10) (UInt8.ofNat (48+n % 10)::acc)
   grind
def UR (n:Nat):0<F (Hf n)/\F (Hf n)<=20:=by grind[XR,Hf]
mutual
def ren:Ty->Ty
 | .mk k n i ts=>bif k==7 then .mk 2 (36::Hf i.toNat) 0 [] else .mk k n i (CO ts)
def CO:Ϣ->Ϣ
 | []=>[]
 | t::l=>ren t::CO l
end
theorem Bx:∀l:Ϣ,CO l=l.map ren
 | []=>rfl
 | t::l=>by rw[CO,Bx l]; rfl
mutual
def Ez (N:Nat):Ty->Bool
 | .mk k n i ts=>bif k==7 then ts.isEmpty&&(decide (0<=i)&&decide (i<N)) else !(n.head?==Y 36)&&(decide (F n<2 ^ 40)&&Gr N ts)
def Gr (N:Nat):Ϣ->Bool
 | []=>Z
 | t::l=>Ez N t&&Gr N l
end
structure Mm (R:RT):Prop where
 ito:∀n:Nat,n<2 ^ 40->Ah (env R) 123 [AG n] λv=>v=SS (Hf n)
 ato:∀n:Nat,n<2 ^ 40->Ah (env R) 124 [SS (Hf n)] λv=>v=.tuple [AG n,.pv (.sc .nilIface)]
section
variable {R:RT}
def zf {c:UInt8} {w:Ϝ} (h:((c::w).head?==Y 36)=ϴ):(((c.toNat:Int)) != 36)=true:=by
 simp only[List.head?_cons] at h;have:c≠36:=AB;simp only[bne_iff_ne,ne_eq];intro d;apply this;have b:c.toNat=36:=AA;exact UInt8.toNat_inj.1 b
def Oa (hn:Mm R) {N:Nat} (hN:N<=2 ^ 40) {k i:Int} {n:Ϝ} {ts:Ϣ} (m:Ez N (.mk k n i ts)=Z) {x:AV} (hx:BD (ren (.mk k n i ts)) x) :
  Ah (env R) 92 [x] λr=>r=bif k==7 then .tuple [AG i,BB Z] else .tuple [AG 0,BB ϴ]:=by
 rw[ren] at hx;rw[Ez] at m
 have B:∀(o p:Int) (u:Ϝ) (a:AV) (rows:Ϯ),A3 a rows->(∀d:AV->Prop,d (bif k==7 then .tuple [AG i,BB Z] else .tuple [AG 0,BB ϴ])->ABu R 0 0 0 (.agg [AG o,SS u,AG p,a]) ⟨[],[]⟩ (QP d)) ->
   Ah (env R) 92 [.agg [AG o,SS u,AG p,a]] λr=>r=bif k==7 then .tuple [AG i,BB Z] else .tuple [AG 0,BB ϴ]:=by
  intro o p u a rows b h;exact e92 (u0:=.agg [AG o,SS u,AG p,a]) (by simp[b.close]) (h _ rfl)
 cases y:(k==7) with
 | true=>
  rw[y] at hx m;simp only[AQ,AK,Cu] at hx m;obtain⟨a,rfl,b⟩:=hx;have H:=UR i.toNat;have f:=B 2 0 (36::Hf i.toNat) a _ b;rw[y] at f;refine f λd z=>ABv (Bs rfl (by simp[b.ok]) (AR rfl (Ad rfl rfl (Ef ?_))))
  refine Aw (AR rfl (Aw (Ad rfl rfl (Aw (sln (Aw (Ao (pk ?_))))))));have A:¬ ((F (36::Hf i.toNat):Nat):Int)<2:=AB;rw[A5 A];refine Aw (AR rfl (Aw (Ad rfl rfl (Aw (six (c:=36) AA rfl (Aw (Ef (pk (A4 ?_)))))))));refine AMW (AR rfl (Ad rfl rfl ?_));refine pE (t:=9) (x:=.tmp 23) AX Ac rfl ?_;refine AI (hn.ato i.toNat AA) ?_;rintro v rfl;refine B9 rfl (B9 rfl (pF (t:=136) (c:=136) (x:=.tmp 29) AX rfl Ac ?_));have e:((i.toNat:Nat):Int)=i:=AA;rw[e];exact⟨_,AX,z⟩
 | false=>
  rw[y] at hx m;simp only[AL,AK,Cu] at hx m;obtain⟨a,rfl,b⟩:=hx;have f:=B k i n a _ b;rw[y] at f;refine f λd z=>ABv (Bs rfl (by simp[b.ok]) (AR rfl (Ad rfl rfl (Ef ?_))))
  have D:∀(s:AY),QP d (.tuple [AG 0,BB ϴ]) s:=λs=>⟨_,AX,z⟩
  by_cases A:k=2
  .subst A
   refine Aw (AR rfl (Aw (Ad rfl rfl (Aw (sln (Aw (Ao (pk ?_))))))))
   by_cases C:(F n:Int)<2
   .simp[*]
   .rw[A5 C]
    obtain⟨c,w,rfl⟩:=Nq (l:=n) AB;have E:=zf (c:=c) (w:=w) AB
    simp_all[six]
  .have hb:(k != 2)=true:=by grind
   simp[*]
abbrev phA (v:Nat):AV:=.agg [AG 2,SS (36::Hf v),AG 0,.AE []]
def Le (hn:Mm R) (v:Nat) (b:v<2 ^ 40):Ah (env R) 90 [AG v] λr=>r=phA v:=by
 have d:=UR v;refine e90 (u0:=AG v) AD (AMX ?_);refine AI (hn.ito v b) ?_;rintro _ rfl;refine AF8 AB (FV rfl ?_);refine Bn (old:=[AG 0,SS [],AG 0,.AE []]) rfl rfl rfl AH (AO _) rfl (.inl (AO _)) ?_;refine Ag rfl rfl ?_;exact⟨phA v,AX,rfl⟩
def BM.app {s:AY} (h:BM s) {b:Ϭ} (hb:Ap (F s.bs+1) b=Z):BM ⟨s.bs++[b],s.ts⟩:=by
 intro c hc;simp only[B6,CP,CQ];rcases CU.1 hc with hc|hc
 .exact BV AA c (h c hc)
 grind
def Ji {rr:Bool} {s:AY} (hs:BM s) {m:Ϩ} {p:PV} {Post:Ϡ} (h:Post (.pv p) s):QM rr (F s.bs) Post (.pv p) ⟨s.bs++m,s.ts⟩:=by
 have e:(s.bs++m).take (F s.bs)=s.bs:=AD;refine ABw ?_ ?_
 .simp only[e]
  rw[Cl];exact hs
 simp[*]
def zg {α:Type} {row:α->Ϧ} (d:∀a,F (row a)=4) {f:FuncId} {cs:Ϭ} {g:α->Bool} {ts:List α} {y:AV} (m:A3 y (ts.map row)) (z:F ts<2 ^ 60) {s:AY} (hf:∀t∈ts,∀L,Bk (env R) L f (.agg ((row t).map .pv)::cs) s (BB (g t)) s) {n0 ro rt:Nat} {QR:QT} :
  ∀(j q:Nat),q+j=F ts->(∀i:Int,decide (0<=i)=(ts.drop q).any g->QR (AG i) s)->ZM R n0 ro rt y (.func (.func f) [] cs) (AG (F ts)) (AG q) s QR:=by
 intro j
 induction j with
 | zero=>
  intro q n b;refine Q6 (Ao ?_);have e:¬ ((q:Int)<F ts):=AA;rw[A5 e];refine A4 (iw ?_);have o:ts.drop q=[]:=CR AA;rw[o] at b;exact b (-1) AD
 | succ j l=>
  intro q n b;refine Q6 (Ao ?_);have e:((q:Int)<F ts):=AA;rw[Ax e];refine BH (iy ?_);have⟨t,k⟩:∃t,ts[q]?=Y t:=⟨_,Az AA⟩;have p:=drop_cons k;rw[p] at b;refine BL m (row:=row t) AA (by simp[k]) (d t) AA ?_;have r:=hf t (A8 k)
  have e4:∀K:AV->Prop,K (.agg ((row t).map .pv))->EX (env R) s (Y 4) (.DF (row t) 0) K:=by
   intro K u;simp only[EX,Dd,Kg];refine⟨by rw[Bj,d]; omega,?_⟩;rw[CC (by rw[Bj,d]; omega)];exact u
  refine e4 _ ?_;refine⟨BB (g t),s,r _,?_⟩;cases x:g t with
  | true=>simp[*]
  | false=>
   refine A4 (iz (Bb AA AA ?_));simp only[PX,x,Fy] at b;have:=l (q+1) AA b;simpa using this
def ZX {α:Type} {row:α->Ϧ} (k:∀a,F (row a)=4) {f:FuncId} {cs:Ϭ} {g:α->Bool} {ts:List α} {y:AV} (e:A3 y (ts.map row)) (l:F ts<2 ^ 60) {s:AY} (hs:BM s) (r:Da cs=ϴ) (hf:∀t∈ts,∀L,Bk (env R) L f (.agg ((row t).map .pv)::cs) s (BB (g t)) s) (L:Ba) :
  Bk (env R) L 94 [y,.func (.func f) [] cs] s (BB (ts.any g)) s:=by
 have o:∀L,∃i:Int,decide (0<=i)=ts.any g/\Bk (env R) L 125 [y,.func (.func f) [] cs] s (AG i) s:=by
  intro L
  obtain⟨v,b,⟨i,rfl,rfl,h⟩,d⟩:=AMY (R:=R) (L:=L) (s:=s) (t0:=y) (t1:=.func (.func f) [] cs) (Post:=λv b=>∃i:Int,v=AG i/\b=s/\decide (0<=i)=ts.any g) (by grind[Da,F9]) (jA (Au (n:=F ts) (by rw[e.BG,Bj]) (zg k e l hf (F ts) 0 AA λi h=>by
   have:=Ji (rr:=L.rr 125) hs (m:=[]) (p:=.sc (.int .i64 i)) (Post:=λv b=>∃i:Int,v=AG i/\b=s/\decide (0<=i)=ts.any g) ⟨i,rfl,rfl,AB⟩
   simp_all)))
  grind
 obtain⟨v,b,⟨rfl,rfl⟩,d⟩:=m94 (R:=R) (L:=L) (s:=s) (t0:=y) (t1:=.func (.func f) [] cs) (Post:=λv b=>v=BB (ts.any g)/\b=s) (by grind[Da,F9]) (sw (by
  have⟨i,h,d⟩:=o (Co (env R) 94 0 L.ro L.rt);refine⟨AG i,s,d,Fq ?_⟩;have:=Ji (rr:=L.rr 94) hs (m:=[]) (p:=.sc (.bool (ts.any g))) (Post:=λv b=>v=BB (ts.any g)/\b=s) ⟨rfl,rfl⟩
  simp_all))
 omega
theorem DG (t:Ty):((Av t).map AV.pv).all BS=true:=by cases t; rfl
mutual
def SD (hn:Mm R) {N:Nat} (hN:N<=2 ^ 40) (v:Nat):∀(t:Ty) (inv:Bool),AP t<2 ^ 60->Ez N t=Z->∀(x:AV),BD (ren t) x->Ah (env R) 62 [x,AG v,BB inv] λr=>r=BB (DZ v inv t)
 | .mk k n i ts,inv,h,d,x,hx=>by
  have u:=Oa hn hN d hx;have O:=d;rw[Ez] at d;rw[ren] at hx;rw[DZ];simp only[AP] at h;cases A:(k==7) with
  | true=>
   rw[A] at hx u d;simp only[AQ,AK,Cu] at hx u d;obtain⟨a,rfl,o⟩:=hx;refine e62 (u0:=.agg [AG 2,SS (36::Hf i.toNat),AG 0,a]) (u1:=AG v) (u2:=BB inv) (by simp[o.close]) (ABx ?_);refine Bs rfl (by simp[o.ok]) (Bs rfl rfl (Bs rfl rfl (Ag rfl rfl (AI u ?_))));rintro _ rfl;refine B9 rfl (B9 rfl (BH (Ad rfl rfl (BE ?_))));simp only[AQ];cases W:(i==(v:Int)) with
   | true=>exact Aw (Ad rfl rfl (Aw (nt (pk ⟨_,GG,by cases inv <;> rfl⟩))))
   | false=>exact B7 (B7 (pk ⟨_,GG,by cases inv <;> rfl⟩))
  | false=>
   rw[A] at hx u d;simp only[AL,AK,Cu] at hx u d;obtain⟨a,rfl,o⟩:=hx;have B:=P6 hn hN v ts (inv&&!(k==2)) AA d.2.2;refine e62 (u0:=.agg [AG k,SS n,AG i,a]) (u1:=AG v) (u2:=BB inv) (by simp[o.close]) (ABx ?_);refine Bs rfl (by simp[o.ok]) (Bs rfl rfl (Bs rfl rfl (Ag rfl rfl (AI u ?_))));rintro _ rfl;refine B9 rfl (B9 rfl (A4 (AMZ (AR rfl (Ad rfl rfl ?_)))))
   have C:BM ⟨[[AG k,SS n,AG i,a],[AG v],[BB inv]],[]⟩:=by
    intro b hb;simp only[BF,ER,ES] at hb;rcases hb with rfl|rfl|rfl <;> simp[Ap,A6,o.A6]
   have Q:=Bl ts
   have H:A3 a (ts.map λt=>Av (ren t)):=by
    rw[Iw,Bx,PR] at o;exact o
   refine⟨_,_,ZX (λt=>Aq (ren t)) (g:=λt=>DZ v (inv&&!(k==2)) t) (f:=103) (cs:=[.ptr 1 0,.ptr 2 0,.ptr 0 0]) H AA C AX ?_ _,?_⟩
   .intro t hm L
    have D:=B t hm
    obtain⟨w,y,⟨rfl,rfl⟩,S⟩:=AWZ (R:=R) (L:=L) (s:=⟨[[AG k,SS n,AG i,a],[AG v],[BB inv]],[]⟩) (t0:=.agg ((Av (ren t)).map .pv)) (t1:=.ptr 1 0) (t2:=.ptr 2 0) (t3:=.ptr 0 0) (Post:=λw y=>w=BB (DZ v (inv&&!(k==2)) t)/\y=⟨[[AG k,SS n,AG i,a],[AG v],[BB inv]],[]⟩) (by simp[Da,F9]) (AF9 (by
     generalize X:(Av (ren t)).map AV.pv=r at D;have I:F r=4:=by grind[Aq]
     have K:r.all BS=true:=by grind[DG]
     refine Bs rfl K (Ag rfl I (Ad rfl rfl (Ad rfl rfl ?_)))
     have T:∀(b:Bool) (z:AY),z=⟨[[AG k,SS n,AG i,a],[AG v],[BB inv],r],[]⟩->b=(inv&&!(k==2))->G4 (env R) (Co (env R) 103 0 L.ro L.rt) (.func (.func 62) [] []) [.agg r,AG v,BB b] z (λM E=>QM (L.rr 103) 3 (λw y=>w=BB (DZ v (inv&&!(k==2)) t)/\y=⟨[[AG k,SS n,AG i,a],[AG v],[BB inv]],[]⟩) M E):=by
      rintro b z rfl rfl;refine AI D ?_;rintro _ rfl;exact Ji (s:=⟨[[AG k,SS n,AG i,a],[AG v],[BB inv]],[]⟩) C (m:=[r]) (p:=.sc (.bool _)) ⟨rfl,rfl⟩
     cases inv with
     | true=>simp_all[bne]
     | false=>simp_all))
    omega
   .refine⟨_,GG,?_⟩
    have:∀l:Ϣ,l.any (λt=>DZ v (inv&&!(k==2)) t)=GV v (inv&&!(k==2)) l:=by
     intro l
     induction l with
     | nil=>rfl
     | cons e l B=>grind[GV]
    grind
def P6 (hn:Mm R) {N:Nat} (hN:N<=2 ^ 40) (v:Nat):∀(l:Ϣ) (inv:Bool),Ak l<2 ^ 60->Gr N l=Z->∀t∈l,Ah (env R) 62 [.agg ((Av (ren t)).map .pv),AG v,BB inv] λr=>r=BB (DZ v inv t)
 | [],_,_,_,_,h=>by cases h
 | e::l,inv,h,b,t,hm=>by
  simp only[Ak] at h;simp only[Gr,AK] at b;rcases BF.1 hm with h' | h'
  .rw[h']
   exact SD hn hN v e inv AA b.1 _ (BD.Bo _)
  .exact P6 hn hN v l inv AA b.2 t h'
end
end
def Ah.told {E:Env} {f:FuncId} {fn:Func} {T:Ba->Ϭ->AY->Option (AV×AY)} {args:Ϭ} {v:AV} {Post:AV->Prop} (d:E.P.funcs[f]?=Y fn) (e:E.clone f=Z) (l:E.told f=Y T) (h:∀L s,T L args s=Y (v,s)) (b:Post v):Ah E f args Post:=by
 refine⟨v,b,λL s=>⟨1,λm hm=>?_⟩⟩;obtain⟨m,rfl⟩:∃k,m=k+1:=⟨m-1,AA⟩
 grind[Dk,Pb]
theorem cT {d:Nat} (h:d<10):(UInt8.ofNat (48+d)).toNat=48+d:=by grind[UInt8.toNat_ofNat']
def cU:∀(f k n:Nat) (acc:Ϝ),0<k->n<10 ^ k->F (Ld f n acc)<=F acc+k
 | 0,k,n,acc,_,_=>by simp[Ld]
 | f+1,k,n,acc,e,hn=>by
  rw[Ld];cases hb:Nat.blt n 10 with
  | true=>
   grind
  | false=>
   have d:¬ n<10:=λh=>by grind[Nat.blt,Nat.ble_eq_true_of_le]
   obtain⟨j,rfl⟩:∃j,k=j+1:=⟨k-1,AA⟩;rw[Nr] at hn;have b:0<j:=AB;have:=cU f j (n / 10) (UInt8.ofNat (48+n % 10)::acc) b AA
   grind
theorem US {d a:Nat} (h:d<10) (l:Ϝ):Lf (UInt8.ofNat (48+d)::l) a=Lf l (a*10+d):=by grind[Lf,cT,Nat.ble_eq_true_of_le]
def UT:∀(f n:Nat) (acc:Ϝ),n<10 ^ f->Lf (Ld f n acc) 0=Lf acc n
 | 0,n,acc,h=>by
  have:n=0:=AA;subst this;rfl
 | f+1,n,acc,h=>by
  rw[Ld];cases hb:Nat.blt n 10 with
  | true=>
   have b:n<10:=Fz hb
   grind[US]
  | false=>
   rw[Nr] at h;simp only[AL];rw[UT f (n / 10) _ AA,US AA]
   grind
def num {R:RT}:Mm R:=by
 refine⟨λn hn=>?_,λn hn=>?_⟩
 .refine Ah.told (fn:=Tryz.f123) (T:=oy) Tryz.func123 AX AX (λL s=>?_) rfl
  show(bif Nat.blt n 1099511627776 then Y (SS (Hf n),s) else G:Option (AV×AY))=_
  grind[Nat.blt,Nat.ble_eq_true_of_le]
 .have d:=UR n
  have b:F (Hf n)<=18:=by
   have:=cU 20 18 n [] AH (Fu hn AH)
   assumption
  have e:Lf (Hf n) 0=Y n:=UT 20 n [] (Fu hn AH);refine Ah.told (fn:=Tryz.f124) (T:=gV) Tryz.func124 AX AX (λL s=>?_) rfl
  grind[gV,Nat.ble_eq_true_of_le]
end Go.Proofs.YtpgfpakdnijngaaGreatDoor
