/-
  Branches: the program's and the reference's are alike: bounds that are put in, eliminated variables.
-/
import Derived.Test.YtpgfpakdnijngaaGreatDoorTA
import Derived.Test.YtpgfpakdnijngaaGreatDoorW1
import Derived.Test.YtpgfpakdnijngaaGreatDoorWpH
import Derived.Laws.Strings3
set_option linter.all false
namespace Go.Proofs.YtpgfpakdnijngaaGreatDoor
open Go.Tel
def CB {α β:Type} (R:α->β->Prop):List α->List β->Prop
 | [],[]=>True
 | a::l,b::m=>R a b/\CB R l m
 | _,_=>False
section
variable {α β:Type}
theorem CB.mono {R S:α->β->Prop} (h:∀a b,R a b->S a b):∀{l:List α} {m:List β},CB R l m->CB S l m
 | [],[],_=>trivial
 | _::_,_::_,⟨h1,h2⟩=>⟨h _ _ h1,h2.mono h⟩
 | [],_::_,h=>h.elim
 | _::_,[],h=>h.elim
theorem CB.length {R:α->β->Prop}:∀{l:List α} {m:List β},CB R l m->l.length=m.length
 | [],[],_=>rfl
 | _::_,_::_,⟨_,h⟩=>by simp[h.length]
 | [],_::_,h=>h.elim
 | _::_,[],h=>h.elim
theorem CB.append {R:α->β->Prop}:∀{l l':List α} {m m':List β},CB R l m->CB R l' m'->CB R (l++l') (m++m')
 | [],_,[],_,_,h=>h
 | _::_,_,_::_,_,⟨h1,h2⟩,h=>⟨h1,h2.append h⟩
 | [],_,_::_,_,h,_=>h.elim
 | _::_,_,[],_,h,_=>h.elim
end
def LC {α:Type} (Q:List Ty->α->Ty->Prop) (B:List Ty):Option (List α)->Fw->Prop
 | none,(none,B')=>B<+:B'
 | some r,(some ps,B')=>B<+:B'/\CB (Q B') r ps
 | _,_=>False
theorem EZ {A B C:List Ty} (h:A<+:B) (h':B<+:C):A<+:C:=h.trans h'
theorem Ly {A B:List Ty} (h:A<+:B) {i:Nat} {t:Ty} (hi:A[i]?=some t):B[i]?=some t:=by
 obtain⟨C,rfl⟩:=h
 grind
theorem GY {A B:List Ty} (h:A<+:B):A.length<=B.length:=h.length_le
section
variable (A8:Nat->Bool)
theorem iH {α β γ:Type} {Q:List Ty->γ->Ty->Prop} (hQ:∀B B' a b,B<+:B'->Q B a b->Q B' a b) {S:α->β->Prop} {g:α->Option (List γ)} {g':β->List Ty->Fw} {B0:List Ty}
  (hg:∀a b B,B0<+:B->S a b->LC Q B (g a) (g' b B)):∀(l:List α) (m:List β) (out:List γ) (out':List Ty) (B:List Ty),B0<+:B->CB S l m->CB (Q B) out out'->LC Q B (Iy A8 g l out) (CY A8 g' m out' B)
 | [],[],out,out',B,_,_,h=>⟨C9 _,h⟩
 | [],_::_,_,_,_,_,h,_=>h.elim
 | _::_,[],_,_,_,_,h,_=>h.elim
 | a::l,b::m,out,out',B,hB,⟨h1,h2⟩,h=>by
  have hs:=hg a b B hB h1;rw[Iy,CY];cases hr:g a with
  | none=>
   rw[hr] at hs;rcases bp:g' b B with ⟨r',B'⟩
   rw[bp] at hs;cases r' with
   | some _=>exact hs.elim
   | none=>omega
  | some r=>
   rw[hr] at hs;rcases bp:g' b B with ⟨r',B'⟩
   rw[bp] at hs;cases r' with
   | none=>exact hs.elim
   | some ps=>
    obtain⟨hp,ha⟩:=hs;have hall:CB (Q B') (out++r) (out'++ps):=(h.mono λa b=>hQ _ _ a b hp).append ha;have hl:(out++r).length=(out'++ps).length:=hall.length
    show LC Q B (bif A8 (out++r).length then none else _) (bif A8 (out'++ps).length then(none,B') else _)
    rw[<-hl];cases A8 (out++r).length with
    | true=>exact hp
    | false=>
     have:=iH hQ hg l m (out++r) (out'++ps) B' (EZ hB hp) h2 hall;simp only[AK];revert this;cases Iy A8 g l (out++r) <;> obtain⟨r2,B2⟩:=CY A8 g' m (out'++ps) B' <;> cases r2 <;> intro this
     .exact EZ hp this
     .exact this
     .exact this
     .exact⟨EZ hp this.1,this.2⟩
end
def OU (φ σ:List Nat) (v:Nat) (i:Int):Nat:=bif i==hole then v else bif decide (0<=i) then φ.getD i.toNat 0 else σ.getD (-1-i).toNat 0
theorem M0 {φ σ:List Nat} {v:Nat}:OU φ σ v hole=v:=AR
theorem lJ {φ σ:List Nat} {v x:Nat} {i:Nat} (h:φ[i]?=some x) (hs:φ.length<hole):OU φ σ v (i:Int)=x:=by grind[OU]
theorem IQ {φ σ:List Nat} {v:Nat} {i:Int} (h:i<0):OU φ σ v i=σ.getD (-1-i).toNat 0:=by
 have hne:(i==hole)=false:=by grind[hole]
 grind[OU]
structure Rl (h:Bool) (v:Nat) (B:List Ty) (lo hi:Nat) (σ:List Nat) (b:Br) (p:Ty) (φ:List Nat):Prop where
 nd:φ.Nodup
 Nj:∀x∈φ,lo<=x/\x<hi
 len:b.bounds.length=φ.length
 Kl:∀(i x:Nat),φ[i]?=some x->B[x]?=b.bounds[i]?
 small:φ.length<hole
 bd:bd b.body=true
 vis:∀i∈vis b.body,(0<=i/\i<φ.length)\/(i<0/\-i<=σ.length)\/(h=true/\i=hole)
 eq:p=tr (OU φ σ v) b.body
theorem Rl.mono {h:Bool} {v:Nat} {B B':List Ty} {lo lo' hi hi':Nat} {σ:List Nat} {b:Br} {p:Ty} {φ:List Nat} (H:Rl h v B lo hi σ b p φ) (hB:B<+:B') (hb:hi<=B.length) (h1:lo'<=lo) (h2:hi<=hi'):Rl h v B' lo' hi' σ b p φ:=
 {H with
  Nj:=λx hx=>by have:=H.Nj x hx; omega
  Kl:=λi x hx=>by
   have h3:=H.Kl i x hx;have h4:=(H.Nj x (A3 hx)).2
   grind[Ly] }
theorem iI {φ:List Nat} {i:Int} (h0:0<=i) (h1:i<φ.length):∃x,φ[i.toNat]?=some x/\x∈φ:=by simp[*]
theorem Rl.vD {h:Bool} {v:Nat} {B:List Ty} {lo hi:Nat} {σ:List Nat} {b:Br} {p:Ty} {φ:List Nat} (H:Rl h v B lo hi σ b p φ) {w:Nat} (hw:w<lo\/hi<=w) (hσ:w∉σ) {i:Int} (hi:i∈Proofs.YtpgfpakdnijngaaGreatDoor.vis b.body) (hh:i≠hole):OU φ σ v i≠w:=by
 rcases H.vis i hi with ⟨h0,h1⟩|⟨h0,h1⟩|⟨_,h1⟩
 .obtain⟨x,hx,hm⟩:=iI h0 h1
  have:=H.Nj x hm
  grind[OU]
 .rw[IQ h0]
  obtain⟨x,hx⟩:∃x,σ[(-1-i).toNat]?=some x:=⟨_,Au AA⟩;simp only[List.getD,hx,II];rintro rfl;exact hσ (A3 hx)
 omega
theorem Eh {l:List Int} {k:Nat} (h:l.findIdx? (·==hole)=some k):l[k]?=some hole/\∀i∈l.take k,i≠hole:=by grind[List.findIdx?_eq_some_iff_getElem,List.getElem_of_mem]
theorem UE {l:List Int} {k:Nat} (h:l[k]?=some hole) (hn:∀i∈l.take k,i≠hole):l.count hole=(l.drop (k+1)).count hole+1/\(l.take k).count hole=0:=by grind[List.drop_eq_getElem_cons,List.take_append_drop]
theorem Pb {φ ψ σ:List Nat} {v:Nat} {i:Int} (h:(0<=i/\i<φ.length)\/(i<0)\/i=hole) (hs:φ.length<hole):OU (φ++ψ) σ v i=OU φ σ v i:=by
 rcases h with ⟨h0,h1⟩|h|rfl
 .grind[OU]
 all_goals grind[IQ,M0]
theorem vE {B:List Ty} {lo hi:Nat} {c:Br} {q:Ty} {φ ψ σ:List Nat} {v w:Nat} (H:Rl false w B lo hi [] c q ψ) (hs:φ.length+ψ.length<hole):q=tr (OU (φ++ψ) σ v) (G0 φ.length c.body) /\
  (∀i∈vis (G0 φ.length c.body),φ.length<=i/\i<φ.length+ψ.length)/\bd (G0 φ.length c.body)=true/\Ae (G0 φ.length c.body)=(Ae c.body).map λi=>bif decide (0<=i)&&!(i==hole) then i+φ.length else i:=by
 have hv:∀i∈vis c.body,0<=i/\i<ψ.length:=by
  intro i hi;rcases H.vis i hi with h|h|h
  all_goals grind
 have eg:G0 φ.length=Bs λi=>var (bif decide (0<=i)&&!(i==hole) then i+φ.length else i):=by grind[G0]
 have hg:∀i∈vis c.body,(bif decide (0<=i)&&!(i==hole) then i+(φ.length:Int) else i)=i+φ.length:=AB;rw[eg];refine⟨?_,?_,Qy _ _ H.bd,Dp _ _⟩
 .rw[H.eq,tr,tr,H9]
  refine Db _ λi hi=>?_
  have hi':=hv i hi;rw[hg i hi];obtain⟨x,hx,_⟩:=iI hi'.1 hi'.2;have e1:OU ψ [] w i=x:=by grind[lJ]
  have e2:OU (φ++ψ) σ v (i+φ.length)=x:=by
   have hx':(φ++ψ)[φ.length+i.toNat]?=some x:=AB;have:=lJ (σ:=σ) (v:=v) hx' AB
   grind
  rw[e1,e2]
 .rw[KY]
  grind
section
variable {A8:Nat->Bool}
def vF (A8:Nat->Bool) (l:Option (List Br)) (h fR:Nat) (b:Br):Option (List Br):=match h with
 | 0=>some [b]
 | _+1=>match l with
  | none=>none
  | some r=>EL A8 r fR b
theorem fill_eq {l:Option (List Br)} {ex:List Ty->Fw} {v lo:Nat} {σ:List Nat} {w:Nat} (hlo:lo<=v) (hσ:v∉σ)
  (hex:∀B,LC (λB' c q=>∃ψ,Rl false 0 B' B.length B'.length [] c q ψ) B l (ex B)) (hw:∀r,l=some r->∀c∈r,c.bounds.length<=w) :
  ∀(h fR:Nat) (b:Br) (p:Ty) (B:List Ty) (φ:List Nat),Rl true v B (v+1) B.length σ b p φ->v<B.length->oI (·==hole) b.body=false->(Ae b.body).count hole=h->h<=fR->φ.length+h*w<hole ->
   LC (λB' b p=>∃φ,Rl false 0 B' lo B'.length σ b p φ) B (vF A8 l h fR b) (CN A8 ex v h p B):=by
 intro h
 induction h with
 | zero=>
  intro fR b p B φ H hv hI h0 hf hs;rw[CN,vF]
  suffices G:Rl false 0 B lo B.length σ b p φ from⟨C9 _,⟨φ,G⟩,Ap⟩
  have hno:∀i∈vis b.body,i≠hole:=by
   rintro i hi rfl;rcases W5 b.body H.bd _ hi with h|h
   all_goals grind
  refine { nd:=H.nd,Nj:=λx hx=>?_,len:=H.len,Kl:=H.Kl,small:=H.small,bd:=H.bd,vis:=λi hi=>?_,eq:=?_ }
  .have:=H.Nj x hx
   omega
  .rcases H.vis i hi with h|h|h
   all_goals grind
  .rw[H.eq]
   grind[Db,OU]
 | succ h ih=>
  intro fR b p B φ H hv hI h0 hf hs;have hmem:hole∈Ae b.body:=List.count_pos_iff.1 AA
  have vG:DT v false p=true:=by
   rw[H.eq,uy _ _ _ H.bd,De]
   grind[M0]
  rw[CN,vG];simp only[AM];have hx:=hex B;cases hl:l with
  | none=>
   rw[hl] at hx;rcases bp:ex B with ⟨r',B'⟩
   rw[bp] at hx;cases r' with
   | some _=>exact hx.elim
   | none=>exact hx
  | some r=>
   rw[hl] at hx;rcases bp:ex B with ⟨r',B'⟩
   rw[bp] at hx;cases r' with
   | none=>exact hx.elim
   | some ps=>
    obtain⟨hp,hall⟩:=hx;obtain⟨f,rfl⟩:∃f,fR=f+1:=⟨fR-1,AA⟩
    obtain⟨k,hk⟩:∃k,Fb b.body=some k:=by
     cases hh:Fb b.body with
     | some k=>simp
     | none=>
      grind[Fb]
    obtain⟨TD,hk2⟩:=Eh hk;obtain⟨Ma,QO⟩:=UE TD hk2;rw[show vF A8 (some r) (h+1) (f+1) b=EL A8 r (f+1) b from rfl];simp only;rw[EL,hk];simp only
    have step:=iH (A8:=A8) (Q:=λB' b p=>∃φ,Rl false 0 B' lo B'.length σ b p φ) (λA A' a q hA ⟨φ,h⟩=>⟨φ,h.mono hA (AY _) (AY _) (GY hA)⟩)
     (S:=λc q=>c∈r/\∃ψ,Rl false 0 B' B.length B'.length [] c q ψ) (g:=λc=>EL A8 r f (Ct b k c)) (g':=λc B=>CN A8 ex v h (Ip (·==(v:Int)) c p 0) B) (B0:=B') ?_ r ps [] [] B' (C9 _) ?_ Ap
    .revert step
     cases Iy A8 (λc=>EL A8 r f (Ct b k c)) r [] <;> obtain⟨r2,B2⟩:=CY A8 (λc B=>CN A8 ex v h (Ip (·==(v:Int)) c p 0) B) ps [] B' <;> cases r2 <;> intro step
     .exact EZ hp step
     .exact step
     .exact step
     .exact⟨EZ hp step.1,step.2⟩
    .rintro c q A hA ⟨hcr,ψ,hψ⟩
     have Ff:=hw r hl c hcr;rw[hψ.len] at Ff;have hmul:(h+1)*w=h*w+w:=by rw[EN,Si]
     have W7:φ.length+ψ.length<hole:=AA;obtain⟨s1,s2,s3,s4⟩:=vE (φ:=φ) (σ:=σ) (v:=v) hψ W7;have hkl:k<(Ae b.body).length:=(BH.1 TD).1
     have e0:p=tr (OU (φ++ψ) σ v) b.body:=by
      rw[H.eq];refine Db _ λi hi=>?_
      rw[Pb _ H.small];rcases H.vis i hi with h' | h' | h'
      all_goals omega
     have e1:Ip (·==(v:Int)) q p 0=tr (OU (φ++ψ) σ v) (MQ (G0 φ.length c.body) b.body k):=by
      rw[s1,e0];refine(uz _ _ _ _ k 0 H.bd ⟨hole,TD,by simp[M0]⟩ ?_).symm;rw[List.countP_eq_zero];intro i hi;have vH:=Mz b.body i (List.mem_of_mem_take hi);have hne:=H.vD (w:=v) (.inl (YU v)) hσ vH (hk2 i hi)
      have:=Pb (ψ:=ψ) (σ:=σ) (v:=v) (φ:=φ) (i:=i) (by
       rcases H.vis i vH with h' | h' | h'
       all_goals omega) H.small
      grind
     have hno:hole∉vis (G0 φ.length c.body):=λhh=>by grind
     have hnc:(Ae (G0 φ.length c.body)).count hole=0:=NR.2 λhm=>hno (Mz _ _ hm)
     have hBB:B<+:A:=EZ hp hA;have key:=ih f (Ct b k c) (Ip (·==(v:Int)) q p 0) A (φ++ψ) ?_ (GI hv (GY hBB)) ?_ ?_ AA AB
     .rw[hl] at key
      cases h with
      | zero=>
       have hz:Fb (Ct b k c).body=none:=by
        have hz0:(Ae (Ct b k c).body).count hole=0:=by
         show(Ae (MQ (G0 b.bounds.length c.body) b.body k)).count hole=0
         rw[H.len,Ni _ _ _ hkl,Sj,Sj,QO,hnc];omega
        grind[Fb]
       have e:EL A8 r f (Ct b k c)=some [Ct b k c]:=by
        cases f with
        | zero=>rfl
        | succ f=>rw[EL,hz]
       show LC _ A (EL A8 r f (Ct b k c)) _
       rw[e];exact key
      | succ h=>exact key
     .refine { nd:=?_,Nj:=?_,len:=?_,Kl:=?_,small:=?_,bd:=?_,vis:=?_,eq:=?_ }
      .rw[O3]
       refine⟨H.nd,hψ.nd,λx hx y hy=>?_⟩;have:=(H.Nj x hx).2;have:=(hψ.Nj y hy).1;omega
      .intro x hx
       have hAl:=GY hBB;have hAl':=GY hA;rcases B4.1 hx with hx|hx
       .have:=H.Nj x hx
        omega
       .have:=hψ.Nj x hx
        omega
      .simp only[Ct,Bd,H.len,hψ.len]
      .intro i x hx
       show A[x]?=(b.bounds++c.bounds)[i]?
       by_cases hi:i<φ.length
       .rw[CT hi] at hx
        rw[CT (by rw[H.len]; omega)];have:=H.Kl i x hx;have hxl:=(H.Nj x (A3 hx)).2
        grind[Ly]
       .rw[EO AA] at hx
        rw[EO (by rw[H.len]; omega),H.len];have:=hψ.Kl _ x hx;have hxl:=(hψ.Nj x (A3 hx)).2
        grind[Ly]
      .grind
      .show bd (MQ (G0 b.bounds.length c.body) b.body k)=true
       rw[H.len];exact u9 _ s3 _ _ H.bd
      .intro i hi
       have hi':i∈vis (MQ (G0 b.bounds.length c.body) b.body k):=hi;rw[H.len] at hi';rw[Bd];rcases ZH _ _ _ i hi' with h' | h'
       .rcases H.vis i h' with h'' | h'' | h''
        all_goals grind
       grind
      .rw[e1]
       show _=tr (OU (φ++ψ) σ v) (MQ (G0 b.bounds.length c.body) b.body k)
       rw[H.len]
     .show oI (·==hole) (MQ (G0 b.bounds.length c.body) b.body k)=false
      rw[H.len];cases hh:oI (·==hole) (MQ (G0 φ.length c.body) b.body k) with
      | false=>rfl
      | true=>
       rcases AC2 _ _ _ _ hh with h' | h'
       all_goals grind[iG]
     .show(Ae (MQ (G0 b.bounds.length c.body) b.body k)).count hole=h
      rw[H.len,Ni _ _ _ hkl,Sj,Sj,QO,hnc];omega
    .have:∀{r':List Br} {ps:List Ty},(∀c∈r',c∈r)->CB (λc q=>∃ψ,Rl false 0 B' B.length B'.length [] c q ψ) r' ps->CB (λc q=>c∈r/\∃ψ,Rl false 0 B' B.length B'.length [] c q ψ) r' ps:=by
      intro r'
      induction r' with
      | nil=>intro ps _ h; cases ps with
       | nil=>trivial
       | cons _ _=>exact h.elim
      | cons a r' ih=>intro ps hm h; cases ps with
       | nil=>exact h.elim
       | cons q ps=>exact⟨⟨hm a AD,h.1⟩,ih (λc hc=>hm c (FK _ hc)) h.2⟩
     grind
end
def ex6:List Nat->Nat
 | [b,c]=>c*(b+1)
 | _=>0
mutual
def cv:Ty->Nat
 | .mk k _ _ ts=>bif k==6 then ex6 (MR ts) else bif k==3||k==4 then(MR ts).sum else 1
def MR:List Ty->List Nat
 | []=>[]
 | t::l=>cv t::MR l
end
def ex7:List Nat->List Nat->Nat
 | [b,c],[_,cc]=>c+1+(cc+1)*b
 | _,_=>0
mutual
def bw:Ty->Nat
 | .mk k _ _ ts=>bif k==6 then ex7 (z8 ts) (MR ts) else bif k==3||k==4 then(z8 ts).sum else 0
def z8:List Ty->List Nat
 | []=>[]
 | t::l=>bw t::z8 l
end
section
variable {A8:Nat->Bool}
theorem Ju {α β:Type} {g:α->Option (List β)}:∀{l:List α} {out r:List β},Iy A8 g l out=some r->∀d∈r,d∈out\/∃a∈l,∃s,g a=some s/\d∈s
 | [],out,r,h,d,hd=>by grind[Iy]
 | a::l,out,r,h,d,hd=>by
  rw[Iy] at h;cases hg:g a with
  | none=>grind
  | some s=>
   rw[hg] at h;simp only at h;cases hb:A8 (out++s).length with
   | true=>grind
   | false=>
    rw[hb] at h;rcases Ju h d hd with h' | ⟨a',h1,s',h2,h3⟩
    all_goals grind
theorem bq (n:Nat) (b:Ty):(Ae (G0 n b)).length=(Ae b).length:=by
 have eg:G0 n=Bs λi=>var (bif decide (0<=i)&&!(i==hole) then i+n else i):=by grind[G0]
 simp[*,Dp]
theorem Km (n:Nat):Hq n=Bs λi=>var (bif i==-1 then(n:Int) else bif decide (i<0) then i+1 else i):=by grind[Hq]
theorem Jv (n m:Int):I5 n m=Bs λi=>var (bif i==n then m else i):=by grind[I5]
theorem Lz:qD=Bs λi=>var (-1-i):=rfl
theorem UF {l:List Br} {w u:Nat} (hl:∀c∈l,c.bounds.length<=w/\(Ae c.body).length<=u):∀(f:Nat) (b:Br) (r:List Br),EL A8 l f b=some r ->
  ∀d∈r,d.bounds.length<=b.bounds.length+f*w/\(Ae d.body).length<=(Ae b.body).length+f*u
 | 0,b,r,h,d,hd=>by grind[EL]
 | f+1,b,r,h,d,hd=>by
  rw[EL] at h;have m1:(f+1)*w=f*w+w:=by rw[EN,Si]
  have m2:(f+1)*u=f*u+u:=by rw[EN,Si]
  cases hk:Fb b.body with
  | none=>
   grind
  | some k=>
   rw[hk] at h;rcases Ju h d hd with h' | ⟨c,h1,s,h2,h3⟩
   .grind
   .have:=UF hl f _ s h2 d h3
    have hc:=hl c h1;have hkl:k<(Ae b.body).length:=(BH.1 (Eh hk).1).1
    grind[Ct,Ni,bq]
theorem bt {Qx:Option (List Br)} {bound:Ty} {b:Br} {w u:Nat} (hl:∀l,Qx=some l->∀c∈l,c.bounds.length<=w/\(Ae c.body).length<=u) {r:List Br} (h:E3 A8 Qx bound b=some r) :
  ∀d∈r,d.bounds.length<=b.bounds.length+1+(Ae b.body).length*w/\(Ae d.body).length<=(Ae b.body).length*(u+1):=by
 intro d hd;have ec:(Ae (Hq b.bounds.length b.body)).length=(Ae b.body).length:=by simp[*,Km,Dp]
 have ec2:∀m,(Ae (I5 b.bounds.length m (Hq b.bounds.length b.body))).length=(Ae b.body).length:=λm=>by simp[*,Jv,Dp]
 have hm:(Ae b.body).length<=(Ae b.body).length*(u+1):=Nat.le_mul_of_pos_right _ AA;have hm2:(Ae b.body).length*(u+1)=(Ae b.body).length+(Ae b.body).length*u:=AB;unfold E3 at h;cases hI:oI (·==(b.bounds.length:Int)) (Hq b.bounds.length b.body) with
 | true=>
  grind
 | false=>
  rw[hI] at h;simp only[AK] at h;cases hh:Fb (I5 b.bounds.length hole (Hq b.bounds.length b.body)) with
  | none=>
   grind
  | some k=>
   rw[hh] at h;cases hb:Qx with
   | none=>grind
   | some l=>
    rw[hb] at h;have:=UF (hl l hb) _ _ r h d hd
    grind
theorem Ig {α β:Type} {g:α->Option β}:∀{ts:List α} {ls:List β},FR (ts.map g)=some ls->CB (λt l=>g t=some l) ts ls
 | [],ls,h=>by
  simp only[Co,FR,BN] at h;subst h
  trivial
 | t::ts,ls,h=>by
  simp only[CO] at h;cases hg:g t with
  | none=>grind[FR]
  | some a=>
   rw[hg,FR] at h;cases hr:FR (ts.map g) with
   | none=>grind
   | some r=>
    rw[hr] at h;simp only[BN] at h;subst h;exact⟨hg,Ig hr⟩
theorem W8:∀{ls:List (List Br)} {ws us:List Nat} {out r:List Br} {N M:Nat},(CB (λl w=>∀c∈l,c.bounds.length<=w) ls ws)->(CB (λl w=>∀c∈l,(Ae c.body).length<=w) ls us) ->
  (∀b∈out,b.bounds.length<=N/\(Ae b.body).length<=M/\∃args,b.body=.mk 3 [] 0 args)->Ie A8 ls out=some r->∀d∈r,d.bounds.length<=N+ws.sum/\(Ae d.body).length<=M+us.sum
 | [],[],[],out,r,N,M,_,_,ho,h,d,hd=>by grind[Ie]
 | [],_::_,_,_,_,_,_,h,_,_,_,_,_=>h.elim
 | [],[],_::_,_,_,_,_,_,h,_,_,_,_=>h.elim
 | _::_,[],_,_,_,_,_,h,_,_,_,_,_=>h.elim
 | _::_,_::_,[],_,_,_,_,_,h,_,_,_,_=>h.elim
 | l::ls,w::ws,u::us,out,r,N,M,⟨hw,hws⟩,⟨hu,zq⟩,ho,h,d,hd=>by
  rw[Ie] at h;cases hb:A8 (HC out l).length with
  | true=>grind
  | false=>
   rw[hb] at h;have:=W8 (N:=N+w) (M:=M+u) hws zq ?_ h d hd
   .grind
   .intro b hb'
    unfold HC at hb';obtain⟨b0,h0,h1⟩:=NT.1 hb';obtain⟨c,h2,rfl⟩:=CR.1 h1;obtain⟨q1,q2,args,q3⟩:=ho b0 h0;have:=hw c h2;have:=hu c h2;rw[q3];refine⟨AB,?_,_,rfl⟩
    have ea:Bk (args++[G0 b0.bounds.length c.body])=Bk args++Ae (G0 b0.bounds.length c.body):=by
     have:∀(l:List Ty) (t:Ty),Bk (l++[t])=Bk l++Ae t:=by
      intro l t
      induction l with
      | nil=>simp[Bk]
      | cons a l ih=>grind[Bk]
     grind
    grind[Ae,bq]
theorem Q0:∀l:List Ty,MR l=l.map cv
 | []=>rfl
 | t::l=>by rw[MR,Q0 l]; rfl
theorem Fi:∀l:List Ty,z8 l=l.map bw
 | []=>rfl
 | t::l=>by rw[z8,Fi l]; rfl
theorem CB.HX {α β γ:Type} {R:α->β->Prop} {S:β->γ->Prop} {g:α->γ}:∀{l:List α} {m:List β},(∀a b,a∈l->R a b->S b (g a))->CB R l m->CB S m (l.map g)
 | [],[],_,_=>trivial
 | a::l,b::m,h,⟨h1,h2⟩=>⟨h a b AD h1,h2.HX λa b ha=>h a b (FK _ ha)⟩
 | [],_::_,_,h=>h.elim
 | _::_,[],_,h=>h.elim
theorem CB.LD {α β:Type} {R:α->β->Prop}:∀{l:List α} {m:List β},CB R l m->∀b∈m,∃a∈l,R a b
 | [],[],_,b,h=>by cases h
 | a::l,c::m,⟨h1,h2⟩,b,h=>by
  rcases A5.1 h with rfl|h
  .grind
  .obtain⟨a',h3,h4⟩:=h2.LD b h
   grind
 | [],_::_,h,_,_=>h.elim
 | _::_,[],h,_,_=>h.elim
theorem Dx:∀{l:List Nat} {n:Nat},n∈l->n<=l.sum
 | a::l,n,h=>by
  rw[Ld];rcases A5.1 h with rfl|h
  .omega
  .have:=Dx h
   omega
theorem Cz:∀(f:Nat) (t:Ty) (l:List Br),DG A8 f t=some l->∀c∈l,c.bounds.length<=bw t/\(Ae c.body).length<=cv t
 | 0,t,l,h,c,hc=>by grind[DG]
 | f+1,.mk k n i ts,l,h,c,hc=>by
  rw[DG] at h;rw[bw,cv]
  by_cases k0:k=0
  .grind[Ae]
  have b0:(k==0)=false:=AB;rw[b0] at h;simp only[AK] at h;cases b25:(k==2||k==5) with
  | true=>
   rw[b25] at h;simp only[AM,BN] at h;subst h;rw[Df.1 hc];have b6:(k==6)=false:=AB;have b34:(k==3||k==4)=false:=AB;rw[b6,b34];simp only[AK,Lz,Dp,Bm,Bz,AY,true_and]
   grind[Ae]
  | false=>
   rw[b25] at h;simp only[AK] at h
   by_cases k3:k=3
   .subst k3
    simp only[CW,AM] at h;cases hs:FR (ts.map (DG A8 f)) with
    | none=>grind
    | some ls=>
     rw[hs] at h;simp only at h;have ha:=Ig hs;cases he:ls.any List.isEmpty with
     | true=>grind
     | false=>
      rw[he] at h;have q1:CB (λl w=>∀c∈l,c.bounds.length<=w) ls (ts.map bw):=ha.HX λt l _ hg c hc=>(Cz f t l hg c hc).1
      have q2:CB (λl w=>∀c∈l,(Ae c.body).length<=w) ls (ts.map cv):=ha.HX λt l _ hg c hc=>(Cz f t l hg c hc).2
      have:=W8 (N:=0) (M:=0) q1 q2 (λb hb=>by simp_all[Ae,Bk]) h c hc
      grind[Fi,Q0]
   have b3:(k==3)=false:=AB;rw[b3] at h;simp only[AK] at h
   by_cases k4:k=4
   .subst k4
    simp only[CW,AM] at h;cases hs:FR (ts.map (DG A8 f)) with
    | none=>grind
    | some ls=>
     rw[hs] at h;simp only at h;have ha:=Ig hs;cases hb:A8 ls.flatten.length with
     | true=>grind
     | false=>
      rw[hb] at h;simp only[AK,BN] at h;subst h;obtain⟨l',h1,h2⟩:=Sk.1 hc;obtain⟨t,h3,h4⟩:=ha.LD l' h1;have:=Cz f t l' h4 c h2;have s1:bw t<=(z8 ts).sum:=by simp[*,Fi,Dx,Eb]
      have s2:cv t<=(MR ts).sum:=by simp[*,Q0,Dx,Eb]
      grind
   have b4:(k==4)=false:=AB;rw[b4] at h;simp only[AK] at h
   by_cases k6:k=6
   .subst k6
    simp only[CW,AM] at h ⊢;rcases ts with _|⟨b,_|⟨body,_|⟨z,r⟩⟩⟩
    .cases h; grind
    .cases h; grind
    .simp only[bX] at h
     cases hb:DG A8 f body with
     | none=>grind
     | some l0=>
      rw[hb] at h;simp only at h;simp only[MR,z8,ex6,ex7];rcases Ju h c hc with h' | ⟨a,h1,s,h2,h3⟩
      .grind
      .have i0:=Cz f body l0 hb a h1
       have i1:=bt (λl hl c hc=>Cz f b l hl c hc) h2 c h3;have m1:(Ae a.body).length*bw b<=cv body*bw b:=B5 _ i0.2;have m2:(Ae a.body).length*(cv b+1)<=cv body*(cv b+1):=B5 _ i0.2
       grind
    .cases h; grind
   grind
end
section
variable {A8:Nat->Bool}
theorem JQ {φ σ:List Nat} {v:Nat} {i:Int} (h0:0<=i) (h1:i<φ.length) (hs:φ.length<=hole):∃x,φ[i.toNat]?=some x/\x∈φ/\OU φ σ v i=x:=by grind[OU]
theorem AAv {Qx:Option (List Br)} {ex:List Ty->Fw} {EE:Ty} {v:Nat} {σ:List Nat} {w:Nat} (hσ:v∉σ)
  (hex:∀B,LC (λB' c q=>∃ψ,Rl false 0 B' B.length B'.length [] c q ψ) B Qx (ex B)) (hw:∀r,Qx=some r->∀c∈r,c.bounds.length<=w)
  {b:Br} {p:Ty} {B:List Ty} {φ:List Nat} (H:Rl false 0 B (v+1) B.length (v::σ) b p φ) (hv:B[v]?=some EE) (hs:φ.length+1+(Ae b.body).length*w<hole) :
  LC (λB' b p=>∃φ,Rl false 0 B' v B'.length σ b p φ) B (E3 A8 Qx EE b) (B6 A8 ex v p B):=by
 have hvl:=(BH.1 hv).1;have hφ:(φ.length:Int)+1<hole:=AB;obtain⟨g1,hg1⟩:∃g1:Int->Int,g1=λi=>bif i==-1 then(φ.length:Int) else bif decide (i<0) then i+1 else i:=⟨_,rfl⟩
 obtain⟨b1,QS⟩:∃b1,b1=Hq b.bounds.length b.body:=⟨_,rfl⟩;have hbi:b1=Bs (λi=>var (g1 i)) b.body:=by rw[QS,Km,H.len,hg1]
 have AAw:bd b1=true:=by rw[hbi]; exact Qy _ _ H.bd
 have AYA:(Ae b1).length=(Ae b.body).length:=by rw[hbi,Dp,Bm]
 have hv1:∀i∈vis b1,(0<=i/\i<φ.length+1)\/(i<0/\-i<=σ.length):=by
  rw[hbi,KY];intro j hj;obtain⟨i,hi,rfl⟩:=CR.1 hj;rw[hg1];rcases H.vis i hi with h|h|h
  all_goals grind
 have hnv:v∉φ:=λhm=>by have:=(H.Nj v hm).1; omega
 have hφ':((φ++[v]).length:Int)<=hole:=AB
 have e1:p=tr (OU (φ++[v]) σ 0) b1:=by
  rw[H.eq,hbi,tr,tr,H9];refine Db _ λi hi=>?_
  rcases H.vis i hi with h|h|h
  .have e1:g1 i=i:=by grind
   rw[e1,Pb (.inl h) H.small];obtain⟨x,hx,_,e3⟩:=JQ (σ:=v::σ) (v:=0) h.1 h.2 AA;obtain⟨y,hy,_,e4⟩:=JQ (σ:=σ) (v:=0) h.1 h.2 AA
   grind
  .by_cases e:i=-1
   .subst e
    have e1:g1 (-1)=(φ.length:Int):=AB;obtain⟨y,hy,_,e4⟩:=JQ (φ:=φ++[v]) (σ:=σ) (v:=0) (i:=(φ.length:Int)) AA AB hφ'
    simp_all[IQ]
   .have e1:g1 i=i+1:=by grind
    rw[e1,IQ h.1,IQ AA];have e5:(-1-i).toNat=(-1-(i+1)).toNat+1:=AA;simp[*]
  grind
 have key:∀i∈vis b1,(OU (φ++[v]) σ 0 i==v)=(i==(φ.length:Int)):=by
  intro i hi;rw[Sg,HN,HN];rcases hv1 i hi with h|h
  .obtain⟨y,hy,_,e4⟩:=JQ (φ:=φ++[v]) (σ:=σ) (v:=0) h.1 AB hφ'
   grind
  .rw[IQ h.1]
   obtain⟨x,hx⟩:∃x,σ[(-1-i).toNat]?=some x:=⟨_,Au AA⟩;simp only[List.getD,hx,II];constructor
   .rintro rfl
    exact absurd (A3 hx) hσ
   omega
 have vG:DT v true p=oI (·==(b.bounds.length:Int)) b1:=by
  rw[e1,ZG _ _ _ AAw,H.len]
  grind[T9]
 unfold E3 B6;rw[vG,<-QS];cases hI:oI (·==(b.bounds.length:Int)) b1 with
 | true=>
  refine And.intro (C9 _) (And.intro ?_ Ap);refine⟨φ++[v],?_⟩;refine { nd:=?_,Nj:=?_,len:=?_,Kl:=?_,small:=?_,bd:=AAw,vis:=?_,eq:=e1 }
  .rw[O3]
   refine⟨H.nd,AD,λx hx y hy=>?_⟩
   grind
  .intro x hx
   rcases B4.1 hx with hx|hx
   .have:=H.Nj x hx
    omega
   grind
  .simp[H.len]
  .intro i x hx
   by_cases hi:i<φ.length
   .rw[CT hi] at hx
    rw[CT (by rw[H.len]; omega)];exact H.Kl i x hx
   .rw[EO AA] at hx
    rw[EO (by rw[H.len]; omega),H.len]
    grind
  all_goals grind
 | false=>
  obtain⟨g2,hg2⟩:∃g2:Int->Int,g2=λi=>bif i==(φ.length:Int) then hole else i:=⟨_,rfl⟩
  have g2t:g2 (φ.length:Int)=hole:=AB;have g2f:∀i,i≠(φ.length:Int)->g2 i=i:=AB;obtain⟨b2,MU⟩:∃b2,b2=I5 b.bounds.length hole b1:=⟨_,rfl⟩;have hre:b2=Bs (λi=>var (g2 i)) b1:=by rw[MU,Jv,H.len,hg2]
  have AOT:bd b2=true:=by rw[hre]; exact Qy _ _ AAw
  have hne:∀i∈vis b1,i≠hole:=AB;have hg2v:∀i∈vis b1,(g2 i==hole)=(i==(φ.length:Int)):=AB
  have hv2:∀i∈vis b2,(0<=i/\i<φ.length)\/(i<0/\-i<=σ.length)\/(true=true/\i=hole):=by
   rw[hre,KY]
   grind
  have e2:p=tr (OU φ σ v) b2:=by
   rw[e1,hre,tr,tr,H9];refine Db _ λi hi=>?_
   by_cases hb:i=(φ.length:Int)
   .grind[M0]
   .rw[g2f i hb]
    rcases hv1 i hi with h|h
    .rw[Pb (.inl ⟨h.1,AA⟩) H.small]
     obtain⟨x,hx,_,e3⟩:=JQ (φ:=φ) (σ:=σ) (v:=0) (i:=i) h.1 AA AA;obtain⟨y,hy,_,e4⟩:=JQ (φ:=φ) (σ:=σ) (v:=v) (i:=i) h.1 AA AA
     grind
    grind[IQ]
  have hH2:Rl true v B (v+1) B.length σ ⟨b.bounds,b2⟩ p φ:=
   {nd:=H.nd,Nj:=H.Nj,len:=H.len,Kl:=H.Kl,small:=H.small,bd:=AOT,vis:=hv2,eq:=e2 }
  have hI2:oI (·==hole) b2=false:=by
   rw[hre,iE _ _ _ AAw,<-hI,H.len]
   grind[T9]
  have hcl2:(Ae b2).length=(Ae b.body).length:=by rw[hre,Dp,Bm,AYA]
  have M1:BX (·==(v:Int)) p=(Ae b2).count hole:=by
   rw[e2,UB _ _ _ AOT,List.count];refine List.countP_congr λi hi=>?_
   have hvi:=Mz _ i hi
   have:(OU φ σ v i=v)<->i=hole:=by
    constructor
    .intro h
     by_cases hh:i=hole
     .omega
     .exact absurd h (hH2.vD (.inl (YU v)) hσ hvi hh)
    grind[M0]
   grind
  have hle:(Ae b2).count hole<=(Ae b.body).length:=AB
  have hmul:(((Ae b2).count hole:Nat):Int)*w<=((Ae b.body).length:Int)*w:=by
   have:=B5 w hle;omega
  have step:=fill_eq (A8:=A8) (l:=Qx) (ex:=ex) (lo:=v) (AY v) hσ hex hw ((Ae b2).count hole) (Ae b.body).length ⟨b.bounds,b2⟩ p B φ hH2 hvl hI2 rfl hle AA;simp only[AK];rw[<-MU,M1];cases hh:Fb b2 with
  | none=>
   have hz:(Ae b2).count hole=0:=by grind[List.count_eq_zero,Fb]
   rw[hz] at step ⊢;exact step
  | some k=>
   have hz:(Ae b2).count hole≠0:=by
    rw[ne_eq,NR];intro hm;exact hm (A3 (Eh hh).1)
   obtain⟨c,hc⟩:∃c,(Ae b2).count hole=c+1:=⟨(Ae b2).count hole-1,AA⟩;rw[hc] at step ⊢
   assumption
end
theorem LF {k i:Int} {n:List UInt8} {ts:List Ty} (h:root k n i ts=true) :
  (k=0/\n=[]/\i=0/\ts=[])\/(k=1/\n=[]/\i=0/\ts=[])\/k=2\/(k=3/\n=[]/\i=0)\/(k=4/\n=[]/\i=0/\ts≠[])\/(k=5/\n=[]/\ts=[]/\0<=i)\/(k=6/\n=[]/\i=0/\∃b body,ts=[b,body]/\CP 0 b=true):=by
 unfold root at h;simp only[AH,De,HN] at h;obtain⟨⟨h1,h2⟩,h3⟩:=h;unfold shape at h3
 by_cases k0:k=0
 .grind
 by_cases k1:k=1
 .grind
 by_cases k2:k=2
 .omega
 by_cases k3:k=3
 .grind
 by_cases k4:k=4
 .grind
 by_cases k5:k=5
 .grind
 by_cases k6:k=6
 .subst k6
  simp at h1 h2 h3;refine .inr (.inr (.inr (.inr (.inr (.inr ⟨rfl,h1,h2,?_⟩)))));rcases ts with _|⟨b,_|⟨c,_|⟨d,l⟩⟩⟩ <;> simp at h3
  exact⟨_,_,rfl,h3⟩
 grind
theorem CB.of_map {α β γ:Type} {R:α->γ->Prop} {g:β->γ}:∀{l:List α} {m:List β},CB (λa b=>R a (g b)) l m->CB R l (m.map g)
 | [],[],_=>trivial
 | _::_,_::_,⟨h1,h2⟩=>⟨h1,h2.of_map⟩
 | [],_::_,h=>h.elim
 | _::_,[],h=>h.elim
section
variable {A8:Nat->Bool}
def CM (n:Nat):Prop:=(n:Int)<hole
def vI (A8:Nat->Bool) (f:Nat) (σ:List Nat) (t:Ty):Prop:=∀B,(∀x∈σ,x<B.length)->LC (λB' b p=>∃φ,Rl false 0 B' B.length B'.length σ b p φ) B (DG A8 f t) (A4 A8 f (inst σ 0 t) B)
def Ch (B':List Ty) (σ:List Nat):Nat->List Nat->List (List Br)->List (List Ty)->Prop
 | lo,[],[],[]=>lo<=B'.length
 | lo,w::ws,l::ls,ps::rs=>(∀b∈l,b.bounds.length<=w)/\∃mid,lo<=mid/\mid<=B'.length/\CB (λb p=>∃φ,Rl false 0 B' lo mid σ b p φ) l ps/\Ch B' σ mid ws ls rs
 | _,_,_,_=>False
theorem E5 {k:Int} (h6:k≠6) (σ:List Nat):∀(l:List Ty) (j:Nat),Dd σ 0 k j l=l.map (inst σ 0)
 | [],_=>rfl
 | t::l,j=>by
  have b6:(k==6)=false:=AB;have hb:EE k j=0:=by simp[EE,b6]
  rw[Dd,hb,Gr,E5 h6 σ l (j+1)];rfl
theorem lK {f:Nat} {σ:List Nat}:∀(ts:List Ty) (out:List (List Ty)) (B:List Ty),(∀x∈σ,x<B.length)->(∀t∈ts,vI A8 f σ t) ->
  match FR (ts.map (DG A8 f)),E4 (A4 A8 f) (ts.map (inst σ 0)) out B with
  | none,(none,B')=>B<+:B'
  | some ls,(some lps,B')=>∃rs,lps=out++rs/\B<+:B'/\Ch B' σ B.length (ts.map bw) ls rs
  | _,_=>False
 | [],out,B,_,_=>by
  simp only[Co,FR,E4];exact⟨[],AD,C9 _,AY _⟩
 | t::ts,out,B,hσ,h=>by
  have h0:=h t AD B hσ;simp only[CO];rw[E4];cases hr:DG A8 f t with
  | none=>
   rw[hr] at h0;rcases he:A4 A8 f (inst σ 0 t) B with ⟨r',B'⟩
   rw[he] at h0;cases r' with
   | some _=>exact h0.elim
   | none=>exact h0
  | some l=>
   rw[hr] at h0;rcases he:A4 A8 f (inst σ 0 t) B with ⟨r',B'⟩
   rw[he] at h0;cases r' with
   | none=>exact h0.elim
   | some ps=>
    obtain⟨hp,hall⟩:=h0;have ih:=lK ts (out++[ps]) B' (λx hx=>GI (hσ x hx) (GY hp)) (λt ht=>h t (FK _ ht));rw[FR];simp only;revert ih;cases FR (ts.map (DG A8 f)) <;> rcases E4 (A4 A8 f) (ts.map (inst σ 0)) (out++[ps]) B' with ⟨r2,B2⟩ <;> cases r2 <;> intro ih
    .grind
    .omega
    .omega
    .obtain⟨rs,h1,h2,h3⟩:=ih
     refine⟨ps::rs,AB,EZ hp h2,?_⟩;refine⟨λb hb=>(Cz f t l hr b hb).1,B'.length,GY hp,GY h2,?_,h3⟩;exact hall.mono λa b ⟨φ,hφ⟩=>⟨φ,hφ.mono h2 (AY _) (AY _) (AY _)⟩
theorem W9:∀(l:List Ty) (t:Ty),Bk (l++[t])=Bk l++Ae t
 | [],t=>by simp[Bk]
 | a::l,t=>by simp[Bk,W9 l t]
theorem b9:∀(l:List Ty) (t:Ty),DU (l++[t])=DU l++vis t
 | [],t=>by simp[DU]
 | a::l,t=>by simp[DU,b9 l t]
theorem lM:∀(l:List Ty) (t:Ty),My (l++[t])=(My l&&bd t)
 | [],t=>by simp[My]
 | a::l,t=>by simp[My,lM l t,Le]
theorem XA (f:Int->Ty):∀(l:List Ty) (t:Ty),B7 f (l++[t])=B7 f l++[Bs f t]
 | [],t=>by rfl
 | a::l,t=>by simp[B7,XA f l t]
theorem AAx (φ:Int->Nat) (l:List Ty) (t:Ty):UA φ (l++[t])=UA φ l++[tr φ t]:=XA _ l t
theorem tr3 (φ:Int->Nat) (n:List UInt8) (i:Int) (l:List Ty):tr φ (.mk 3 n i l)=.mk 3 n i (UA φ l):=AR
theorem AOU (n:List UInt8) (i:Int) (l:List Ty):vis (.mk 3 n i l)=DU l:=AR
theorem bd3 (n:List UInt8) (i:Int) (l:List Ty):bd (.mk 3 n i l)=My l:=AR
def TRl (B':List Ty) (σ:List Nat) (vJ mid N:Nat) (b:Br) (args:List Ty):Prop:=∃φ bs,Rl false 0 B' vJ mid σ b (.mk 3 [] 0 args) φ/\b.body=.mk 3 [] 0 bs/\φ.length<=N
theorem lN {B':List Ty} {σ:List Nat} {vJ lo mid N w:Nat} (hlo:vJ<=lo) (hmid:lo<=mid) (hm:mid<=B'.length) (hs:((N+w:Nat):Int)<hole):∀{out:List Br} {ZI:List (List Ty)} {l:List Br} {ps:List Ty},CB (TRl B' σ vJ lo N) out ZI ->
  (∀b∈l,b.bounds.length<=w)->CB (λb p=>∃φ,Rl false 0 B' lo mid σ b p φ) l ps->CB (TRl B' σ vJ mid (N+w)) (HC out l) (ZI.flatMap λp=>ps.map λx=>p++[x])
 | [],[],_,_,_,_,_=>trivial
 | [],_::_,_,_,h,_,_=>h.elim
 | _::_,[],_,_,h,_,_=>h.elim
 | b::out,args::ZI,l,ps,⟨h1,h2⟩,hw,h=>by
  have ih:=lN hlo hmid hm hs h2 hw h
  have one:CB (TRl B' σ vJ mid (N+w)) (l.map λc=>(⟨b.bounds++c.bounds,match b.body with
    | .mk _ _ _ args=>.mk 3 [] 0 (args++[G0 b.bounds.length c.body])⟩:Br)) (ps.map λx=>args++[x]):=by
   obtain⟨φ,bs,H,hb,hN⟩:=h1;clear ih;revert h hw;revert ps
   induction l with
   | nil=>intro ps _ h; cases ps with
    | nil=>trivial
    | cons _ _=>exact h.elim
   | cons c l ihl=>
    intro ps hw h;cases ps with
    | nil=>exact h.elim
    | cons q ps=>
     refine And.intro ?_ (ihl ps (λb hb=>hw b (FK _ hb)) h.2);obtain⟨ψ,Hc⟩:=h.1
     have hψ:ψ.length<=w:=by
      have:=hw c AD;rw[Hc.len] at this;omega
     have W7:φ.length+ψ.length<hole:=AA;obtain⟨gs,hgs⟩:∃gs:Int->Int,gs=λi=>bif decide (0<=i)&&!(i==hole) then i+φ.length else i:=⟨_,rfl⟩
     have eg:G0 φ.length=Bs λi=>var (gs i):=by grind[G0]
     have gn:∀i:Int,0<=i->i<ψ.length->gs i=i+φ.length:=AB;have gm:∀i:Int,i<0->gs i=i:=AB
     have e1:q=tr (OU (φ++ψ) σ 0) (G0 φ.length c.body):=by
      rw[Hc.eq,eg,tr,tr,H9];refine Db _ λi hi=>?_
      rcases Hc.vis i hi with h|h|h
      .rw[gn i h.1 h.2]
       obtain⟨x,hx,_⟩:=iI h.1 h.2;obtain⟨y,hy,_,e4⟩:=JQ (φ:=ψ) (σ:=σ) (v:=0) h.1 h.2 AA;obtain⟨z,hz,_,e5⟩:=JQ (φ:=φ++ψ) (σ:=σ) (v:=0) (i:=i+φ.length) AA AB AB;rw[e4,e5];have e6:(i+(φ.length:Int)).toNat=φ.length+i.toNat:=AA
       simp_all
      all_goals grind[IQ]
     have e2:(.mk 3 [] 0 args:Ty)=tr (OU (φ++ψ) σ 0) b.body:=by
      rw[H.eq];refine Db _ λi hi=>?_
      rw[Pb _ H.small];rcases H.vis i hi with h' | h' | h'
      all_goals omega
     have AYC:My bs=true:=by rw[<-bd3 [] 0 bs,<-hb]; exact H.bd
     have e3:args=UA (OU (φ++ψ) σ 0) bs:=by simp_all[tr3]
     refine⟨φ++ψ,bs++[G0 φ.length c.body],?_,?_,AB⟩
     .have eb:(match b.body with|.mk _ _ _ args=>.mk 3 [] 0 (args++[G0 b.bounds.length c.body]):Ty)=.mk 3 [] 0 (bs++[G0 φ.length c.body]):=by rw[hb,H.len]
      refine { nd:=?_,Nj:=?_,len:=?_,Kl:=?_,small:=?_,bd:=?_,vis:=?_,eq:=?_ }
      .rw[O3]
       refine⟨H.nd,Hc.nd,λx hx y hy=>?_⟩;have:=(H.Nj x hx).2;have:=(Hc.Nj y hy).1;omega
      .intro x hx
       rcases B4.1 hx with hx|hx
       .have:=H.Nj x hx
        omega
       .have:=Hc.Nj x hx
        omega
      .simp only[Bd,H.len,Hc.len]
      .intro i x hx
       show B'[x]?=(b.bounds++c.bounds)[i]?
       by_cases hi:i<φ.length
       .rw[CT hi] at hx
        rw[CT (by rw[H.len]; omega)];exact H.Kl i x hx
       .rw[EO AA] at hx
        rw[EO (by rw[H.len]; omega),H.len];exact Hc.Kl _ x hx
      .grind
      .show bd (match b.body with|.mk _ _ _ args=>.mk 3 [] 0 (args++[G0 b.bounds.length c.body]):Ty)=true
       rw[eb,bd3,lM,AYC,eg,Qy _ _ Hc.bd];rfl
      .intro i hi
       have hi':i∈vis (match b.body with|.mk _ _ _ args=>.mk 3 [] 0 (args++[G0 b.bounds.length c.body]):Ty):=hi;rw[eb,AOU,b9,B4] at hi';simp only[Bd];rcases hi' with hi' | hi'
       .have hv:i∈vis b.body:=by grind[AOU]
        rcases H.vis i hv with h' | h' | h'
        all_goals grind
       .rw[eg,KY] at hi'
        obtain⟨j,hj,rfl⟩:=CR.1 hi';rcases Hc.vis j hj with h' | h' | h'
        all_goals grind
      simp_all[tr3,AAx]
     .show(match b.body with|.mk _ _ _ args=>.mk 3 [] 0 (args++[G0 b.bounds.length c.body]):Ty)=_
      rw[hb,H.len]
  unfold HC at ih ⊢;rw[List.flatMap_cons,List.flatMap_cons];exact one.append ih
theorem AAy {B':List Ty} {σ:List Nat} {vJ:Nat} (ls:List (List Br)):∀{ws:List Nat} {rs:List (List Ty)} {lo N:Nat} {out:List Br} {ZI:List (List Ty)},vJ<=lo->Ch B' σ lo ws ls rs->CM (N+ws.sum)->CB (TRl B' σ vJ lo N) out ZI ->
  match Ie A8 ls out,DY A8 rs ZI with
  | none,none=>True
  | some r,some all=>CB (λb args=>∃φ,Rl false 0 B' vJ B'.length σ b (.mk 3 [] 0 args) φ) r all
  | _,_=>False:=by
 induction ls with
 | nil=>
  intro ws rs lo N out ZI hlo hc hs h;rcases ws with _|⟨w,ws⟩
  .rcases rs with _|⟨ps,rs⟩
   .rw[Ie,DY]
    exact h.mono λa b ⟨φ,bs,H,_,_⟩=>⟨φ,H.mono (C9 _) hc (AY _) hc⟩
   .exact hc.elim
  .exact hc.elim
 | cons l ls ih=>
  intro ws rs lo N out ZI hlo hc hs h;rcases ws with _|⟨w,ws⟩
  .exact hc.elim
  rcases rs with _|⟨ps,rs⟩
  .exact hc.elim
  obtain⟨hw,mid,h1,h2,h3,h4⟩:=hc;unfold CM at hs;rw[Ld] at hs;have hp:=lN hlo h1 h2 AA h hw h3;rw[Ie,DY,<-hp.length];cases A8 (HC out l).length with
  | true=>simp
  | false=>exact ih (BK hlo h1) h4 (by grind[CM]) hp
theorem cC {B':List Ty} {σ:List Nat}:∀{ws:List Nat} {ls:List (List Br)} {rs:List (List Ty)} {lo:Nat},Ch B' σ lo ws ls rs->ls.any List.isEmpty=rs.any List.isEmpty
 | [],[],[],_,_=>rfl
 | w::ws,l::ls,ps::rs,lo,⟨_,mid,_,_,h3,h4⟩=>by
  have hl:=h3.length;rw[O2,O2,cC h4]
  grind
 | [],_::_,_,_,h=>h.elim
 | [],[],_::_,_,h=>h.elim
 | _::_,[],_,_,h=>h.elim
 | _::_,_::_,[],_,h=>h.elim
theorem ZJ {f:Nat} {σ:List Nat}:∀(ts:List Ty) (out:List Ty) (ok:Bool) (B:List Ty),(∀x∈σ,x<B.length)->(∀t∈ts,vI A8 f σ t) ->
  match FR (ts.map (DG A8 f)),Gm (A4 A8 f) (ts.map (inst σ 0)) out ok B with
  | none,((_,ok'),B')=>B<+:B'/\ok'=false
  | some ls,((o,ok'),B')=>B<+:B'/\ok'=ok/\∃ps,o=out++ps/\CB (λb p=>∃φ,Rl false 0 B' B.length B'.length σ b p φ) ls.flatten ps
 | [],out,ok,B,_,_=>by
  rw[Co,Co,FR,Gm];exact⟨C9 _,rfl,[],AD,Ap⟩
 | t::ts,out,ok,B,hσ,h=>by
  have h0:=h t AD B hσ;simp only[CO];rw[Gm];cases hr:DG A8 f t with
  | none=>
   rw[hr] at h0;rcases he:A4 A8 f (inst σ 0 t) B with ⟨r',B'⟩
   rw[he] at h0;cases r' with
   | some _=>exact h0.elim
   | none=>
    have hp:B<+:B':=h0;have ih:=ZJ ts out false B' (λx hx=>GI (hσ x hx) (GY hp)) (λt ht=>h t (FK _ ht))
    grind[FR]
  | some l=>
   rw[hr] at h0;rcases he:A4 A8 f (inst σ 0 t) B with ⟨r',B'⟩
   rw[he] at h0;cases r' with
   | none=>exact h0.elim
   | some ps=>
    obtain⟨hp,hall⟩:=h0;have ih:=ZJ ts (out++ps) ok B' (λx hx=>GI (hσ x hx) (GY hp)) (λt ht=>h t (FK _ ht));rw[FR];simp only;revert ih;cases FR (ts.map (DG A8 f)) <;> rcases Gm (A4 A8 f) (ts.map (inst σ 0)) (out++ps) ok B' with ⟨⟨o2,ok2⟩,B2⟩ <;> intro ih
    .grind
    .obtain⟨h1,h2,qs,h3,h4⟩:=ih
     refine⟨EZ hp h1,h2,ps++qs,AB,?_⟩;rw[NM];refine CB.append ?_ ?_
     .exact hall.mono λa b ⟨φ,hφ⟩=>⟨φ,hφ.mono h1 (AY _) (AY _) (GY h1)⟩
     .exact h4.mono λa b ⟨φ,hφ⟩=>⟨φ,hφ.mono (C9 _) (AY _) (GY hp) (AY _)⟩
theorem Fg {u:Nat} {k:Int} (h6:k≠6):∀{l:List Ty} {j:Nat} {t:Ty},EF u k j l=true->t∈l->CP u t=true
 | a::l,j,t,h,ht=>by
  have b6:(k==6)=false:=AB;have hb:EE k j=0:=by simp[EE,b6]
  simp only[EF,AH,hb,Gr] at h;rcases A5.1 ht with rfl|ht
  .grind
  .exact Fg h6 h.2 ht
theorem Bw:∀{l:List Ty} {a:Ty},BC l=true->a∈l->valid a=true
 | b::l,a,h1,h=>by
  simp only[BC,AH] at h1;rcases A5.1 h with rfl|h
  .grind
  .exact Bw h1.2 h
theorem ZK (hb0:A8 0=false) (QS:A8 1=false):∀(f:Nat) (t:Ty) (σ:List Nat),valid t=true->CP σ.length t=true->σ.Nodup->CM (bw t)->vI A8 f σ t:=by
 intro f
 induction f with
 | zero=>
  intro t σ _ _ _ _ B _;rw[DG,A4];exact C9 _
 | succ f ZL=>
  intro t σ hv hc hn hs B hB;obtain⟨k,n,i,ts⟩:=t;have LY:=hv;simp only[valid,AH] at hv;have leaf:∀{p:Ty} {b:Br},Rl false 0 B B.length B.length σ b p []->LC (λB' b p=>∃φ,Rl false 0 B' B.length B'.length σ b p φ) B (some [b]) (some [p],B):=λH=>⟨C9 _,⟨[],H⟩,Ap⟩
  rcases LF hv.1 with ⟨rfl,rfl,rfl,rfl⟩|⟨rfl,rfl,rfl,rfl⟩|rfl|⟨rfl,rfl,rfl⟩|⟨rfl,rfl,rfl,hne⟩|⟨rfl,rfl,rfl,h0⟩|⟨rfl,rfl,rfl,b,body,rfl,hcb⟩
  .rw[DG,inst,Dd]
   simp only[show((0:Int)==5)=false from rfl,AK];rw[A4];simp only[CW,D6,AM,QS,AK];refine leaf { nd:=Et,Nj:=λx hx=>AB,len:=rfl,Kl:=λi x hx=>AB,small:=(by simp[hole]),bd:=?_,vis:=λi hi=>(by grind[vis]),eq:=?_ }
   all_goals rfl
  .rw[DG,inst,Dd]
   simp only[show((1:Int)==5)=false from rfl,AK];rw[A4];simp only[show((1:Int)==0)=false from rfl,show((1:Int)==2)=false from rfl,show((1:Int)==7)=false from rfl,show((1:Int)==3)=false from rfl,show((1:Int)==4)=false from rfl,show((1:Int)==5)=false from rfl,show((1:Int)==6)=false from rfl,KH,AK,hb0];exact⟨C9 _,Ap⟩
  .have hp:plain (.mk 2 n i ts)=true:=by grind[plain,Rw]
   obtain⟨q1,q2⟩:=OT σ _ LY hp hc;have e:A4 A8 (f+1) (inst σ 0 (.mk 2 n i ts)) B=(some [inst σ 0 (.mk 2 n i ts)],B):=by grind[inst,A4]
   rw[DG,e];simp only[show((2:Int)==0)=false from rfl,CW,D6,AM,AK];have hb:bd (.mk 2 n i ts)=true:=Be;refine leaf { nd:=Et,Nj:=λx hx=>AB,len:=rfl,Kl:=λi x hx=>AB,small:=(by simp[hole]),bd:=?_,vis:=λj hj=>?_,eq:=?_ }
   .simp[*,Lz,Qy]
   .rw[Lz,KY] at hj
    obtain⟨j',hj',rfl⟩:=CR.1 hj;have:=Qz _ _ LY hc j' hj';omega
   .rw[q2,Lz,tr,tr,H9]
    refine Db _ λj hj=>?_
    have:=Qz _ _ LY hc j hj
    grind[IQ]
  .have Ff:=DZ hc AI
   have ih:∀t∈ts,vI A8 f σ t:=λt ht=>ZL t σ (Bw hv.2 ht) (Fg AI Ff ht) hn (by
    have:bw t<=(z8 ts).sum:=by simp[*,Fi,Dx,Eb]
    grind[CM,bw])
   have hq:=lK (A8:=A8) ts [] B hB ih;rw[DG,inst];simp only[show((3:Int)==5)=false from rfl,AK];rw[A4,E5 AI];simp only[show((3:Int)==0)=false from rfl,show((3:Int)==2)=false from rfl,show((3:Int)==7)=false from rfl,show((3:Int)==4)=false from rfl,show((3:Int)==5)=false from rfl,KH,AK,CW,AM];cases ha:FR (ts.map (DG A8 f)) with
   | none=>
    rw[ha] at hq;rcases he:E4 (A4 A8 f) (ts.map (inst σ 0)) [] B with ⟨r',B'⟩
    rw[he] at hq;cases r' with
    | some _=>grind
    | none=>exact hq
   | some ls=>
    rw[ha] at hq;rcases he:E4 (A4 A8 f) (ts.map (inst σ 0)) [] B with ⟨r',B'⟩
    rw[he] at hq;cases r' with
    | none=>grind
    | some lps=>
     obtain⟨rs,h1,h2,h3⟩:=hq;simp only[Cm] at h1;subst h1;simp only;rw[<-cC h3];cases hem:ls.any List.isEmpty with
     | true=>exact⟨h2,Ap⟩
     | false=>
      simp only[AK];have hw:CM (0+(ts.map bw).sum):=by grind[bw,Fi]
      have hcb:=AAy (A8:=A8) ls (vJ:=B.length) (out:=[⟨[],.mk 3 [] 0 []⟩]) (ZI:=[[]]) (AY _) h3 hw (by
       refine And.intro ?_ Ap;refine⟨[],[],{ nd:=Et,Nj:=λx hx=>AB,len:=rfl,Kl:=λi x hx=>AB,small:=(by simp[hole]),bd:=?_,vis:=λi hi=>(by grind[vis,DU]),eq:=?_ },rfl,AY _⟩
       all_goals rfl)
      cases ht:Ie A8 ls [⟨[],.mk 3 [] 0 []⟩] with
      | none=>
       rw[ht] at hcb;cases hcc:DY A8 lps [[]] with
       | none=>exact h2
       | some _=>grind
      | some r=>
       rw[ht] at hcb;cases hcc:DY A8 lps [[]] with
       | none=>grind
       | some all=>
        rw[hcc] at hcb
        have M3:A8 all.length=false:=by
         have gen:∀(rs:List (List Ty)) (out:List (List Ty)) (all:List (List Ty)),A8 out.length=false->DY A8 rs out=some all->A8 all.length=false:=by
          intro rs
          induction rs with
          | nil=>grind[DY]
          | cons ps rs ih=>
           grind[DY]
         grind
        simp only[M3,AK];refine⟨h2,?_⟩
        grind[CB.of_map]
  .have Ff:=DZ hc AI
   have ih:∀t∈ts,vI A8 f σ t:=λt ht=>ZL t σ (Bw hv.2 ht) (Fg AI Ff ht) hn (by
    have:bw t<=(z8 ts).sum:=by simp[*,Fi,Dx,Eb]
    grind[CM,bw])
   have hq:=ZJ (A8:=A8) ts [] true B hB ih;rw[DG,inst];simp only[show((4:Int)==5)=false from rfl,AK];rw[A4,E5 AI];simp only[show((4:Int)==0)=false from rfl,show((4:Int)==2)=false from rfl,show((4:Int)==7)=false from rfl,show((4:Int)==3)=false from rfl,show((4:Int)==5)=false from rfl,KH,AK,CW,AM];cases ha:FR (ts.map (DG A8 f)) with
   | none=>
    rw[ha] at hq;rcases he:Gm (A4 A8 f) (ts.map (inst σ 0)) [] true B with ⟨⟨o,ok⟩,B'⟩
    rw[he] at hq;obtain⟨h1,rfl⟩:=hq
    assumption
   | some ls=>
    rw[ha] at hq;rcases he:Gm (A4 A8 f) (ts.map (inst σ 0)) [] true B with ⟨⟨o,ok⟩,B'⟩
    rw[he] at hq;obtain⟨h1,rfl,ps,h2,h3⟩:=hq;simp only[Cm] at h2;subst h2;simp only[CZ,<-h3.length];cases A8 ls.flatten.length with
    | true=>exact h1
    | false=>exact⟨h1,h3⟩
  .have hp:plain (var i)=true:=by rfl
   obtain⟨q1,q2⟩:=OT σ _ LY hp hc;have hi:=LB hc;obtain⟨w,hw⟩:∃w,σ[i.toNat]?=some w:=⟨_,Au AA⟩;have ei:inst σ 0 (var i)=ph w:=by grind[Bs]
   rw[DG,ei,A4];simp only[show((5:Int)==0)=false from rfl,show((5:Int)==2)=false from rfl,show((7:Int)==0)=false from rfl,show((7:Int)==2)=false from rfl,CW,Dv,AM,AK,QS];refine leaf { nd:=Et,Nj:=λx hx=>AB,len:=rfl,Kl:=λi x hx=>AB,small:=(by simp[hole]),bd:=?_,vis:=λj hj=>?_,eq:=?_ }
   .rfl
   .rw[qD,Bs] at hj
    grind[vis]
   .rw[qD,Bs]
    grind[Bs,IQ]
  .simp only[BC,AH,Lf] at hv
   have Ff:=DZ hc AI;simp only[EF,AH,Lf,show EE 6 0=0 from rfl,show EE 6 1=1 from rfl] at Ff;have fQ:bw b<=bw (.mk 6 [] 0 [b,body])/\bw body+1+cv body*bw b<=bw (.mk 6 [] 0 [b,body]):=by grind[bw,z8,MR,ex7]
   unfold CM at hs;have ihB:=ZL b [] hv.2.1 AA Et (by grind[CM]);have hsub:sub B.length 0 (inst σ 1 body)=inst (B.length::σ) 0 body:=Jt B.length σ body 0 hv.2.2 AB;have hnot:B.length∉σ:=λh=>absurd (hB _ h) AA
   have ihY:=ZL body (B.length::σ) hv.2.2 AB (Sh.2 ⟨hnot,hn⟩) (by grind[CM]) (B++[b]) AB;have hib:inst σ 0 b=b:=JP σ b 0 hv.2.1 hcb;rw[DG,inst];simp only[show((6:Int)==5)=false from rfl,AK,Dd,show EE 6 0=0 from rfl,show EE 6 (0+1)=1 from rfl,Gr,CQ,hib];rw[A4];simp only[show((6:Int)==0)=false from rfl,show((6:Int)==2)=false from rfl,show((6:Int)==7)=false from rfl,show((6:Int)==3)=false from rfl,show((6:Int)==4)=false from rfl,show((6:Int)==5)=false from rfl,KH,AK,CW,AM,bX];rw[hsub];have hpB:B<+:B++[b]:=List.prefix_append _ _;cases hr:DG A8 f body with
   | none=>
    rw[hr] at ihY;rcases he:A4 A8 f (inst (B.length::σ) 0 body) (B++[b]) with ⟨r',B'⟩
    rw[he] at ihY;cases r' with
    | some _=>exact ihY.elim
    | none=>exact EZ hpB ihY
   | some l=>
    rw[hr] at ihY;rcases he:A4 A8 f (inst (B.length::σ) 0 body) (B++[b]) with ⟨r',B'⟩
    rw[he] at ihY;cases r' with
    | none=>exact ihY.elim
    | some ps=>
     obtain⟨hp,hall⟩:=ihY;have QU:(B++[b]).length=B.length+1:=AD;rw[QU] at hall;have gM:B'[B.length]?=some b:=Ly hp AD
     have hex:∀A,LC (λB' c q=>∃ψ,Rl false 0 B' A.length B'.length [] c q ψ) A (DG A8 f b) (A4 A8 f b A):=by
      intro A;have:=ihB A (λx hx=>by grind)
      grind[JP]
     have hw:∀r,DG A8 f b=some r->∀c∈r,c.bounds.length<=bw b:=λr hr c hc=>(Cz f b r hr c hc).1
     have hsz:∀c∈l,c.bounds.length<=bw body/\(Ae c.body).length<=cv body:=Cz f body l hr
     have step:=iH (A8:=A8) (Q:=λB' b p=>∃φ,Rl false 0 B' B.length B'.length σ b p φ) (λA A' a q hA ⟨φ,h⟩=>⟨φ,h.mono hA (AY _) (AY _) (GY hA)⟩)
      (S:=λc q=>c∈l/\∃ψ,Rl false 0 B' (B.length+1) B'.length (B.length::σ) c q ψ) (g:=E3 A8 (DG A8 f b) b) (g':=B6 A8 (A4 A8 f b) B.length) (B0:=B') (by
       rintro c q A hA ⟨Ff,φ,hφ⟩;have hc:=hsz c Ff;rw[hφ.len] at hc;have hφ':=hφ.mono hA (AY _) (AY _) (GY hA);have hm:(Ae c.body).length*bw b<=cv body*bw b:=B5 _ hc.2;have hm':(((Ae c.body).length:Nat):Int)*(bw b:Nat)<=(cv body:Nat)*(bw b:Nat):=AA;have hq:(((bw body+1+cv body*bw b:Nat)):Int)<hole:=AA;have hq':((bw body:Nat):Int)+1+(cv body:Nat)*(bw b:Nat)<hole:=AA;exact AAv hnot hex hw hφ' (Ly hA gM) AA) l ps [] [] B' (C9 _) (by
       have:∀{l':List Br} {ps:List Ty},(∀c∈l',c∈l)->CB (λc q=>∃ψ,Rl false 0 B' (B.length+1) B'.length (B.length::σ) c q ψ) l' ps->CB (λc q=>c∈l/\∃ψ,Rl false 0 B' (B.length+1) B'.length (B.length::σ) c q ψ) l' ps:=by
        intro l'
        induction l' with
        | nil=>intro ps _ h; cases ps with
         | nil=>trivial
         | cons _ _=>exact h.elim
        | cons a l' ih=>intro ps hm h; cases ps with
         | nil=>exact h.elim
         | cons q ps=>exact⟨⟨hm a AD,h.1⟩,ih (λc hc=>hm c (FK _ hc)) h.2⟩
       grind) Ap
     simp only
     have AOV:∀(m:List Ty) (out:List Ty) (A:List Ty),A8 out.length=false->∀r A',CY A8 (B6 A8 (A4 A8 f b) B.length) m out A=(some r,A')->A8 r.length=false:=by
      intro m
      induction m with
      | nil=>grind[CY]
      | cons q m ih=>
       grind[CY]
     have hbg:=AOV ps [] B' hb0;revert step;rcases hcs:CY A8 (B6 A8 (A4 A8 f b) B.length) ps [] B' with ⟨r2,B2⟩
     have hpp:B<+:B':=EZ hpB hp;cases Iy A8 (E3 A8 (DG A8 f b) b) l [] <;> cases r2 <;> intro step
     .exact EZ hpp step
     .exact step.elim
     .assumption
     .rename_i r1 r2
      simp only[hbg r2 B2 hcs,AK];exact⟨EZ hpp step.1,step.2⟩
end
mutual
def occs:Ty->List Int->List Int
 | .mk k _ i ts,l=>bif k==5 then(bif l.contains i then l else l++[i]) else bif k==2||k==3 then E6 ts l else l
def E6:List Ty->List Int->List Int
 | [],l=>l
 | t::ts,l=>E6 ts (occs t l)
end
def SK (l:List Int):Nat->Nat->Ty->Ty
 | 0,_,t=>t
 | f+1,j,t=>SK l f (j+1) (I5 (l.getD j 0) (hole+1+j) t)
def SL:Nat->Nat->Ty->Ty
 | 0,_,t=>t
 | f+1,j,t=>SL f (j+1) (I5 (hole+1+j) j t)
def aN:Ty:=.mk 0 [] 0 []
def Dq (b:Br):Br:=⟨(occs b.body []).map λi=>b.bounds.getD i.toNat aN,SL (occs b.body []).length 0 (SK (occs b.body []) (occs b.body []).length 0 b.body)⟩
mutual
def LG (N:Nat):Ty->List Nat->Ty×List Nat
 | .mk k n i ts,o=>bif k==7&&decide (i<N) then(match o.findIdx? (·==i.toNat) with
   | some j=>(var j,o)
   | none=>(var o.length,o++[i.toNat]))
  else(.mk k n i (G2 N ts o).1,(G2 N ts o).2)
def G2 (N:Nat):List Ty->List Nat->List Ty×List Nat
 | [],o=>([],o)
 | t::l,o=>((LG N t o).1::(G2 N l (LG N t o).2).1,(G2 N l (LG N t o).2).2)
end
def HY (B:List Ty) (p:Ty):Br:=⟨(LG B.length p []).2.map λx=>B.getD x aN,(LG B.length p []).1⟩
mutual
theorem XB (N:Nat):∀(t:Ty) (o:List Nat),valid t=true->LG N t o=(t,o)
 | .mk k n i ts,o,h=>by
  have b7:(k==7)=false:=by grind[G1]
  simp only[valid,AH] at h;rw[LG,b7];simp only[Gt,AK,UG N ts o h.2]
theorem UG (N:Nat):∀(l:List Ty) (o:List Nat),BC l=true->G2 N l o=(l,o)
 | [],_,_=>rfl
 | t::l,o,h=>by
  simp only[BC,AH] at h;rw[G2,XB N t o h.1];simp only[UG N l o h.2]
end
mutual
theorem UH:∀(t:Ty) (l:List Int),l<+:occs t l
 | .mk k _ i ts,l=>by
  rw[occs];cases (k==5) with
  | true=>
   grind
  | false=>
   cases (k==2||k==3) with
   | true=>exact JY ts l
   | false=>simp
theorem JY:∀(ts:List Ty) (l:List Int),l<+:E6 ts l
 | [],l=>C9 _
 | t::ts,l=>(UH t l).trans (JY ts _)
end
mutual
theorem HZ:∀(t:Ty) (l:List Int),∀i∈occs t l,i∈l\/i∈vis t
 | .mk k _ j ts,l,i,hi=>by
  rw[occs] at hi;rw[vis];cases b5:(k==5) with
  | true=>
   grind
  | false=>
   rw[b5] at hi;cases b:(k==2||k==3) with
   | true=>
    rw[b] at hi;exact XC ts l i hi
   | false=>
    grind
theorem XC:∀(ts:List Ty) (l:List Int),∀i∈E6 ts l,i∈l\/i∈DU ts
 | [],l,i,hi=>.inl hi
 | t::ts,l,i,hi=>by
  rw[DU,B4];rcases XC ts _ i hi with h|h
  .rcases HZ t l i h with h|h
   all_goals grind
  grind
end
mutual
theorem Ih:∀(t:Ty) (l:List Int),∀i∈vis t,i∈occs t l
 | .mk k _ j ts,l,i,hi=>by
  rw[vis] at hi;rw[occs];cases b5:(k==5) with
  | true=>
   grind
  | false=>
   rw[b5] at hi;cases b:(k==2||k==3) with
   | true=>
    rw[b] at hi;exact XD ts l i hi
   | false=>
    grind
theorem XD:∀(ts:List Ty) (l:List Int),∀i∈DU ts,i∈E6 ts l
 | [],l,i,hi=>by cases hi
 | t::ts,l,i,hi=>by
  rw[DU,B4] at hi;rcases hi with hi|hi
  .exact(JY ts _).subset (Ih t l i hi)
  .exact XD ts _ i hi
end
mutual
theorem FT:∀(t:Ty) (l:List Int),l.Nodup->(occs t l).Nodup
 | .mk k _ j ts,l,hl=>by
  rw[occs];cases (k==5) with
  | true=>
   grind
  | false=>
   cases (k==2||k==3) with
   | true=>exact Ry ts l hl
   | false=>grind
theorem Ry:∀(ts:List Ty) (l:List Int),l.Nodup->(E6 ts l).Nodup
 | [],l,hl=>hl
 | t::ts,l,hl=>Ry ts _ (FT t l hl)
end
mutual
theorem lO:∀(t:Ty) (l:List Int),vis t=[]->occs t l=l
 | .mk k _ j ts,l,hv=>by
  rw[vis] at hv;rw[occs];cases b5:(k==5) with
  | true=>grind
  | false=>
   rw[b5] at hv;cases b:(k==2||k==3) with
   | true=>rw[b] at hv; exact cD ts l hv
   | false=>rfl
theorem cD:∀(ts:List Ty) (l:List Int),DU ts=[]->E6 ts l=l
 | [],l,_=>rfl
 | t::ts,l,hv=>by
  rw[DU,kA] at hv;rw[E6,lO t l hv.1,cD ts l hv.2]
end
def pos (L:List Int) (i:Int):Nat:=L.idxOf i
theorem L1 {L:List Int} (hn:L.Nodup) {j:Nat} {i:Int} (h:L[j]?=some i):pos L i=j:=by
 obtain⟨h1,h2⟩:=BH.1 h;have hm:i∈L:=A3 h;have h3:L.idxOf i<L.length:=kB hm
 have h4:L[L.idxOf i]?=some i:=by
  rw[Au h3,List.getElem_idxOf]
 exact(List.getElem?_inj h3 hn).1 (h4.trans h.symm)
section
variable {N:Nat} {U:Int->Nat} {L:List Int} (hL:L.Nodup) (hinj:∀i∈L,∀j∈L,U i=U j->i=j) (hN:∀i∈L,U i<N)
include hL hinj hN
mutual
theorem lQ:∀(b:Ty) (l:List Int),pl b=true->occs b l<+:L->LG N (tr U b) (l.map U)=(Bs (λi=>var (pos L i)) b,(occs b l).map U)
 | .mk k n i ts,l,h,hp=>by
  cases b5:(k==5) with
  | true=>
   rw[tr,Bs,Bs,occs,b5];simp only[AM]
   have hi:i∈L:=by
    have:i∈occs (.mk k n i ts) l:=Ih _ l i (by grind[vis])
    grind
   have hNi:=hN i hi;rw[LG];have hlt:((U i:Nat):Int)<N:=AA;rw[Ar hlt];simp only[CW,Fo,AM,Int.toNat_natCast];have hpre:l<+:L:=(UH _ l).trans hp;cases hc:l.contains i with
   | true=>
    have hm:i∈l:=AB;obtain⟨j,hj⟩:=List.getElem?_of_mem hm
    have hjL:L[j]?=some i:=by
     obtain⟨m,rfl⟩:=hpre
     grind
    have hf:(l.map U).findIdx? (·==U i)=some j:=by
     rw[kC];have hjl:=(BH.1 hj).1;refine⟨AB,AB,λa ha=>?_⟩;simp only[List.getElem_map,HN];intro he;have hal:a<l.length:=AA
     have haL:L[a]?=some l[a]:=by
      obtain⟨m,rfl⟩:=hpre
      grind
     grind[List.getElem?_inj]
    grind[L1]
   | false=>
    have hm:i∉l:=AB
    have hjL:L[l.length]?=some i:=by
     rw[occs,b5,hc] at hp;simp only[AM,AK] at hp;obtain⟨m,rfl⟩:=hp;simp
    grind[L1]
  | false=>
   cases b2:(k==2) with
   | true=>
    have h2:k=2:=AB;subst h2;rw[pl] at h;rw[occs] at hp ⊢;have:=cE ts l AB AB
    grind[Bs,LG]
   | false=>
    grind[pl,JO,XB,Nh,lO,ZE]
theorem cE:∀(ts:List Ty) (l:List Int),WA ts=true->E6 ts l<+:L->G2 N (UA U ts) (l.map U)=(B7 (λi=>var (pos L i)) ts,(E6 ts l).map U)
 | [],l,_,_=>rfl
 | t::ts,l,h,hp=>by
  simp only[WA,AH] at h;have _h:=hL;have _h:=hinj;have _h:=hN;have h1:=lQ t l h.1 ((JY ts _).trans hp);rw[UA,B7,G2,h1];simp only;rw[show B7 (λi=>ph (U i)) ts=UA U ts from rfl,cE ts (occs t l) h.2 hp];rfl
end
end
section
variable {N:Nat} {U:Int->Nat} {L:List Int} (hL:L.Nodup) (hinj:∀i∈L,∀j∈L,U i=U j->i=j) (hN:∀i∈L,U i<N)
include hL hinj hN
mutual
theorem iJ:∀(b:Ty) (l:List Int),bd b=true->occs b l<+:L->LG N (tr U b) (l.map U)=(Bs (λi=>var (pos L i)) b,(occs b l).map U)
 | .mk k n i ts,l,h,hp=>by
  cases b3:(k==3) with
  | true=>
   have h3:k=3:=AB;subst h3;rw[bd] at h;rw[occs] at hp ⊢;have:=lR ts l AB AB
   grind[Bs,LG]
  | false=>
   grind[pl,bd,lQ]
theorem lR:∀(ts:List Ty) (l:List Int),My ts=true->E6 ts l<+:L->G2 N (UA U ts) (l.map U)=(B7 (λi=>var (pos L i)) ts,(E6 ts l).map U)
 | [],l,_,_=>rfl
 | t::ts,l,h,hp=>by
  simp only[My,AH] at h;have _h:=hL;have _h:=hinj;have _h:=hN;have h1:=iJ t l h.1 ((JY ts _).trans hp);rw[UA,B7,G2,h1];simp only;rw[show B7 (λi=>ph (U i)) ts=UA U ts from rfl,lR ts (occs t l) h.2 hp];rfl
end
end
mutual
theorem UI:∀t:Ty,bd t=true->Bs (λi=>var i) t=t
 | .mk k n i ts,h=>by
  rw[Bs];rw[bd] at h;cases b5:(k==5) with
  | true=>
   grind
  | false=>
   rw[b5] at h;cases b2:(k==2) with
   | true=>
    rw[b2] at h;simp only[AK,AM,D6] at h ⊢;rw[Q1 ts h]
   | false=>
    rw[b2] at h;cases b3:(k==3) with
    | true=>
     rw[b3] at h;simp only[AK,AM,Dv] at h ⊢;rw[XE ts h]
    | false=>simp
theorem XE:∀l:List Ty,My l=true->B7 (λi=>var i) l=l
 | [],_=>rfl
 | t::l,h=>by
  simp only[My,AH] at h;rw[B7,UI t h.1,XE l h.2]
theorem vK:∀t:Ty,pl t=true->Bs (λi=>var i) t=t
 | .mk k n i ts,h=>by
  rw[Bs];rw[pl] at h;cases b5:(k==5) with
  | true=>
   grind
  | false=>
   rw[b5] at h;cases b2:(k==2) with
   | true=>
    rw[b2] at h;simp only[AK,AM,D6] at h ⊢;rw[Q1 ts h]
   | false=>
    rw[b2] at h;have hc:SJ (.mk k n i ts)=true:=AB;have e:=JO (.mk k n i ts) (λi=>var i) hc
    grind[Bs]
theorem Q1:∀l:List Ty,WA l=true->B7 (λi=>var i) l=l
 | [],_=>rfl
 | t::l,h=>by
  simp only[WA,AH] at h;rw[B7,vK t h.1,Q1 l h.2]
end
theorem lS (n m:Int) (g:Int->Int) (t:Ty):I5 n m (Bs (λi=>var (g i)) t)=Bs (λi=>var (bif g i==n then m else g i)) t:=by
 rw[Jv,H9]
theorem cG {l:List Int}:∀(f j:Nat) (g:Int->Int) (t:Ty),∃g':Int->Int,SK l f j (Bs (λi=>var (g i)) t)=Bs (λi=>var (g' i)) t /\
  ∀i,(∀q,l[q]?=some (g i)->q<f+j->j<=q->l.Nodup->(∀x∈l,x<hole)->q<l.length->f+j<=l.length->g' i=hole+1+q)/\((∀q,j<=q->q<f+j->l.getD q 0≠g i)->g' i=g i)
 | 0,j,g,t=>⟨g,rfl,λi=>⟨λq _ h1 h2=>by omega,λ_=>rfl⟩⟩
 | f+1,j,g,t=>by
  rw[SK,lS];obtain⟨g',h1,h2⟩:=cG (l:=l) f (j+1) (λi=>bif g i==l.getD j 0 then hole+1+j else g i) t;refine⟨g',h1,λi=>⟨λq hq q1 q2 hn hh ql hf=>?_,λhno=>?_⟩⟩
  all_goals grind[List.getElem_mem,List.getElem?_inj]
theorem cH:∀(f j:Nat) (g:Int->Int) (t:Ty),∃g':Int->Int,SL f j (Bs (λi=>var (g i)) t)=Bs (λi=>var (g' i)) t /\
  ∀i,(∀q:Nat,g i=hole+1+q->j<=q->q<f+j->(f+j:Nat)<hole->g' i=q)/\(g i<hole->g' i=g i)
 | 0,j,g,t=>⟨g,rfl,λi=>⟨λq _ h1 h2=>by omega,λ_=>rfl⟩⟩
 | f+1,j,g,t=>by
  rw[SL,lS];obtain⟨g',h1,h2⟩:=cH f (j+1) (λi=>bif g i==hole+1+j then j else g i) t;refine⟨g',h1,λi=>⟨λq hq q1 q2 hf=>?_,λhlt=>?_⟩⟩
  all_goals grind
theorem iK {b:Ty} (hb:bd b=true) (hv:∀i∈vis b,0<=i/\i<hole) (hl:CM (occs b []).length):SL (occs b []).length 0 (SK (occs b []) (occs b []).length 0 b)=Bs (λi=>var (pos (occs b []) i)) b:=by
 have hn:=FT b [] Et
 have hm:∀i∈occs b [],i<hole:=λi hi=>by
  rcases HZ b [] i hi with h|h
  all_goals grind
 have e0:b=Bs (λi=>var i) b:=(UI b hb).symm;obtain⟨g1,h1,h2⟩:=cG (l:=occs b []) (occs b []).length 0 (λi=>i) b;obtain⟨g2,h3,h4⟩:=cH (occs b []).length 0 g1 b
 have e1:SK (occs b []) (occs b []).length 0 b=Bs (λi=>var (g1 i)) b:=by
  rw[<-h1,<-e0]
 rw[e1,h3];refine Db _ λi hi=>?_
 have hmem:=Ih b [] i hi;obtain⟨q,hq⟩:=List.getElem?_of_mem hmem;have hql:=(BH.1 hq).1;have:=(h2 i).1 q hq AA AA hn hm hql AA;have:=(h4 i).1 q this AA AA hl
 grind[L1]
theorem iL {B:List Ty} {lo hi:Nat} {b:Br} {p:Ty} {φ:List Nat} (H:Rl false 0 B lo hi [] b p φ) (hB:hi<=B.length) (hl:CM (occs b.body []).length):HY B p=Dq b:=by
 have hv:∀i∈vis b.body,0<=i/\i<φ.length:=by
  intro i hi;rcases H.vis i hi with h|h|h
  all_goals grind
 have hn:=FT b.body [] Et
 have hmem:∀i∈occs b.body [],0<=i/\i<φ.length:=λi hi=>by
  rcases HZ b.body [] i hi with h|h
  all_goals grind
 have hs:=H.small;have Kt:∀i∈occs b.body [],∃x,φ[i.toNat]?=some x/\x∈φ/\OU φ [] 0 i=x:=λi hi=>JQ (hmem i hi).1 (hmem i hi).2 AA
 have key:=iJ (N:=B.length) (U:=OU φ [] 0) (L:=occs b.body []) hn (by
  intro i hi j hj he;obtain⟨x,hx,_,ex⟩:=Kt i hi;obtain⟨y,hy,_,ey⟩:=Kt j hj;rw[ex,ey] at he;subst he;have h1:=hmem i hi;have h2:=hmem j hj;have:=(List.getElem?_inj AA H.nd).1 (hx.trans hy.symm);omega) (by
  intro i hi;obtain⟨x,hx,hm,ex⟩:=Kt i hi;rw[ex];have:=H.Nj x hm;omega) b.body [] H.bd (C9 _)
 simp only[Co] at key;rw[<-H.eq] at key;have e2:=iK H.bd (λi hi=>by grind) hl;unfold HY Dq;rw[key,e2];simp only[Ox];congr 1;refine YN λi hi=>?_
 obtain⟨x,hx,_,ex⟩:=Kt i hi;simp only[Function.comp_apply];rw[ex,Sl,Sl,H.Kl _ _ hx]
attribute [local simp] Ia Mt Js KW ER Fh Eo wO setCells IM D5 DF Ce E2 alive DX KF Tl gY HW JM HI Ib Lr JN oY kj okB oZ oa oc od og fP oh oo oq ot ou ow oz o5 o6 o7 o8 okF o9 pE pF pG pH V7 pI Qm Qn Qo Qp pJ pK pL pM pN pO pP pQ pR pS Hu pT kn pU pV pW pX pY pZ pg pn pq pz Cp
section
variable {R:Nat->Option (List PV)}
mutual
theorem lT:∀(t:Ty),size t<2 ^ 38->ZC t->∀(x:AV),A7 t x->Af (env R) 73 [x] λr=>r=BB (valid t)
 | .mk k n i ts,h,ho,x,hx=>by
  obtain⟨a,rfl,ha⟩:=hx;simp only[size] at h;simp only[ZC] at ho;have hs:Ac ts<2 ^ 38:=AA;have hn:=ho.1;have ih:=cJ ts hs ho.2
  suffices H:∀Post:AV->Prop,Post (BB (valid (.mk k n i ts)))->AC7 R 0 0 0 (.agg [AG k,SS n,AG i,a]) ⟨[],[]⟩ (QP Post) from
   e73 (u0:=.agg [AG k,SS n,AG i,a]) (by simp[ha.close]) (H _ rfl)
  intro Post hP;refine AOX ?_;simp only[valid] at hP;unfold root at hP;cases b2:(k==2) with
  | true=>
   have e2:k=2:=AB;subst e2
   by_cases hi:i=0
   .subst hi
    simp[ha.ok,ha.BA,Aa]
    grind[Qw]
   .have bi:(i==0)=false:=by grind
    rw[bi] at hP;simpa[QP,QI,ha.ok,ha.BA,Aa,hi,bne,bi] using hP
  | false=>
   have e2:¬ k=2:=AB;rw[b2] at hP
   by_cases hn0:n=[]
   .subst hn0
    cases b5:(k==5) with
    | true=>
     have e5:k=5:=AB;subst e5;simp[ha.ok,ha.BA,Aa]
     grind[Qw]
    | false=>
     have e5:¬ k=5:=AB;rw[b5] at hP
     by_cases hi:i=0
     .subst hi
      simp[ha.ok,ha.BA,Aa,e2,e5,bne,b2,b5]
      grind[Qw]
     .have bi:(i==0)=false:=by grind
      rw[bi] at hP;simpa[QP,QI,ha.ok,ha.BA,Aa,e2,e5,hi,bne,b2,b5,bi] using hP
   .have bn:(n==[])=false:=by grind
    rw[bn] at hP;simpa[QP,QI,ha.ok,ha.BA,Aa,e2,hn0,bne,b2,bn] using hP
theorem cJ:∀(l:List Ty),Ac l<2 ^ 38->SI l->∀t∈l,Af (env R) 73 [.agg ((Aj t).map .pv)] λr=>r=BB (valid t)
 | [],_,_,_,h=>by cases h
 | e::l,ho,hk,a,h=>by
  simp only[Ac] at ho;simp only[SI] at hk;rcases A5.1 h with h' | h'
  .rw[h']
   exact lT e AA hk.1 _ (A7.Bi e)
  .exact cJ l AA hk.2 a h'
end
theorem UJ {t:Ty} (h:size t<2 ^ 38) (ho:ZC t) {x:AV} (hx:A7 t x):Af (env R) 42 [x] λr=>r=AG (verdict t):=by
 have e1:=Qq (R:=R) t AA x hx;have e2:=Ts (R:=R) t AA x hx;have e3:=MP (R:=R) t h ho x hx;have hv:verdict t=bif decide (200<size t)||decide (12<depth t) then 4 else bif valid t then 0 else 2:=rfl
 generalize hz:size t=z at *;generalize hd:depth t=d at *;generalize hw:valid t=w at *;obtain⟨k,n,i,ts⟩:=t;obtain⟨a,rfl,ha⟩:=hx;refine e42 (u0:=.agg [AG k,SS n,AG i,a]) (by simp[ha.close]) (AC8 ?_);simp[ha.ok];refine AL e1 ?_;rintro v rfl
 have fin:∀b:Bool,b=(decide (200<z)||decide (12<d))->ER (BB b) (QP (λr=>r=AG (verdict (.mk k n i ts))) (AG 4) ⟨[[AG k,SS n,AG i,a]],[]⟩)
   (D5 (env R) ⟨[[AG k,SS n,AG i,a]],[]⟩ (some 4) (.ptr 0 0) λsH=>He (env R) (Ce (env R) 42 0 0 0) (.func (.func 86) [] []) [sH] ⟨[[AG k,SS n,AG i,a]],[]⟩ λa14 iM=>Lr a14 λa15=>ER a15 (QP (λr=>r=AG (verdict (.mk k n i ts))) (AG 2) iM) (AC9 R 0 0 0 iM (QP λr=>r=AG (verdict (.mk k n i ts))))):=by
  rintro b rfl;cases hb:(decide (200<z)||decide (12<d)) with
  | true=>simp[*,QP]
  | false=>
   simp;refine AL e3 ?_;rintro v rfl;cases w with
   | false=>simp[*,QP]
   | true=>
    simp;refine AOZ ?_;simp[*,QP]
 by_cases c1:200<z
 .have qE:(200<(z:Int)):=by omega
  have qH:¬ ((z:Int)<=200):=AA;have:=fin true AB;simpa[qE,qH] using this
 .have qE:¬ (200<(z:Int)):=by omega
  have qH:((z:Int)<=200):=AA;simp[qE,qH];refine AL e2 ?_;rintro v rfl
  by_cases c2:12<d
  .have c2':(12<(d:Int)):=by omega
   have c2n:¬ ((d:Int)<=12):=AA;have:=fin true AB;simpa[qE,qH,c2',c2n] using this
  .have c2':¬ (12<(d:Int)):=by omega
   have c2n:((d:Int)<=12):=AA;have:=fin false AB;simpa[qE,qH,c2',c2n] using this
theorem WB {t:Ty} (h:size t<2 ^ 60) (ho:ZC t) {x:AV} (hx:A7 t x):Af (env R) 42 [x] λr=>r=AG (verdict t):=by
 by_cases hs:size t<2 ^ 38
 .grind[UJ]
 have e1:=Qq (R:=R) t AA x hx;have hv:verdict t=4:=by grind[verdict]
 rw[hv];generalize hz:size t=z at *;obtain⟨k,n,i,ts⟩:=t;obtain⟨a,rfl,ha⟩:=hx;refine e42 (u0:=.agg [AG k,SS n,AG i,a]) (by simp[ha.close]) (AC8 ?_);simp[ha.ok];refine AL e1 ?_;rintro v rfl;have qE:(200<(z:Int)):=AA;have qH:¬ ((z:Int)<=200):=AA;simp[*,QP]
theorem SM {t:Ty} (h:size t<2 ^ 38) (ho:ZC t) {x:AV} (hx:A7 t x):Af (env R) 30 [x] λr=>r=AG (verdict t):=by
 have e1:=OP (R:=R) t AA x hx;have e2:=Rq (R:=R) t AA x hx;have e3:=lT (R:=R) t h ho x hx;have hv:verdict t=bif decide (200<size t)||decide (12<depth t) then 4 else bif valid t then 0 else 2:=rfl
 generalize hz:size t=z at *;generalize hd:depth t=d at *;generalize hw:valid t=w at *;obtain⟨k,n,i,ts⟩:=t;obtain⟨a,rfl,ha⟩:=hx;refine e30 (u0:=.agg [AG k,SS n,AG i,a]) (by simp[ha.close]) (ADA ?_);simp[ha.ok];refine AL e1 ?_;rintro v rfl
 have fin:∀b:Bool,b=(decide (200<z)||decide (12<d))->ER (BB b) (QP (λr=>r=AG (verdict (.mk k n i ts))) (AG 4) ⟨[[AG k,SS n,AG i,a]],[]⟩)
   (D5 (env R) ⟨[[AG k,SS n,AG i,a]],[]⟩ (some 4) (.ptr 0 0) λsH=>He (env R) (Ce (env R) 30 0 0 0) (.func (.func 73) [] []) [sH] ⟨[[AG k,SS n,AG i,a]],[]⟩ λa14 iM=>Lr a14 λa15=>ER a15 (QP (λr=>r=AG (verdict (.mk k n i ts))) (AG 2) iM) (ADB R 0 0 0 iM (QP λr=>r=AG (verdict (.mk k n i ts))))):=by
  rintro b rfl;cases hb:(decide (200<z)||decide (12<d)) with
  | true=>simp[*,QP]
  | false=>
   simp;refine AL e3 ?_;rintro v rfl;cases w with
   | false=>simp[*,QP]
   | true=>
    simp;refine AOa ?_;simp[*,QP]
 by_cases c1:200<z
 .have qE:(200<(z:Int)):=by omega
  have qH:¬ ((z:Int)<=200):=AA;have:=fin true AB;simpa[qE,qH] using this
 .have qE:¬ (200<(z:Int)):=by omega
  have qH:((z:Int)<=200):=AA;simp[qE,qH];refine AL e2 ?_;rintro v rfl
  by_cases c2:12<d
  .have c2':(12<(d:Int)):=by omega
   have c2n:¬ ((d:Int)<=12):=AA;have:=fin true AB;simpa[qE,qH,c2',c2n] using this
  .have c2':¬ (12<(d:Int)):=by omega
   have c2n:((d:Int)<=12):=AA;have:=fin false AB;simpa[qE,qH,c2',c2n] using this
theorem UK {t:Ty} (h:size t<2 ^ 60) (ho:ZC t) {x:AV} (hx:A7 t x):Af (env R) 30 [x] λr=>r=AG (verdict t):=by
 by_cases hs:size t<2 ^ 38
 .grind[SM]
 have e1:=OP (R:=R) t AA x hx;have hv:verdict t=4:=by grind[verdict]
 rw[hv];generalize hz:size t=z at *;obtain⟨k,n,i,ts⟩:=t;obtain⟨a,rfl,ha⟩:=hx;refine e30 (u0:=.agg [AG k,SS n,AG i,a]) (by simp[ha.close]) (ADA ?_);simp[ha.ok];refine AL e1 ?_;rintro v rfl;have qE:(200<(z:Int)):=AA;have qH:¬ ((z:Int)<=200):=AA;simp[*,QP]
end
theorem Ak {b:Bool} {s:AQ} {W:(AV->AQ->Prop)->Prop} {K:AV->AQ->Prop} (h:W K):Tl (BB b) b s W K:=⟨λ_=>h,λh=>absurd rfl h⟩
theorem Kn {b c:Bool} {s:AQ} {W:(AV->AQ->Prop)->Prop} {K:AV->AQ->Prop} (hn:b≠c) (h:K (.tuple []) s):Tl (BB b) c s W K:=⟨λh=>absurd h hn,λ_=>h⟩
theorem Cr {s:AQ} {W:(AV->AQ->Prop)->Prop} {K:AV->AQ->Prop} (h:K (.tuple []) s):Tl (BB true) false s W K:=Kn AI h
theorem B8 {s:AQ} {W:(AV->AQ->Prop)->Prop} {K:AV->AQ->Prop} (h:K (.tuple []) s):Tl (BB false) true s W K:=Kn AI h
theorem A9 {A B:Prop} (h:A):ER (BB true) A B:=⟨λ_=>h,λh=>by cases h⟩
theorem Ay {A B:Prop} (h:B):ER (BB false) A B:=⟨λh=>(by cases h),λ_=>h⟩
theorem pk {c:Bool} {a b:AV} {K:AV->Prop} (h:K (bif c then a else b)):HW (BB c) a b K:=h
theorem A0 {k:IntKind} {a b:Int} {K:AV->Prop} (h:K (BB (a==b))):DX k .eql (.pv (.sc (.int k a))) (.pv (.sc (.int k b))) K:=⟨⟨rfl,rfl⟩,h⟩
theorem EM {k:IntKind} {a b:Int} {K:AV->Prop} (h:K (BB (a != b))):DX k .neq (.pv (.sc (.int k a))) (.pv (.sc (.int k b))) K:=⟨⟨rfl,rfl⟩,h⟩
theorem Ao {a b:Int} {K:AV->Prop} (h:K (BB (a<b))):DX .i64 .lss (AG a) (AG b) K:=⟨⟨rfl,rfl⟩,h⟩
theorem ZM {a b:Int} {K:AV->Prop} (h:K (BB (a<=b))):DX .i64 .leq (AG a) (AG b) K:=⟨⟨rfl,rfl⟩,h⟩
theorem F8 {a b:Int} {K:AV->Prop} (h:K (BB (a>b))):DX .i64 .gtr (AG a) (AG b) K:=⟨⟨rfl,rfl⟩,h⟩
theorem Ko {a b:Int} {K:AV->Prop} (h:K (BB (a>=b))):DX .i64 .geq (AG a) (AG b) K:=⟨⟨rfl,rfl⟩,h⟩
theorem Ba {a b:Int} {K:AV->Prop} (h1:-(2 ^ 63)<=a+b) (h2:a+b<2 ^ 63) (h:K (AG (a+b))):DX .i64 .add (AG a) (AG b) K:=⟨⟨rfl,rfl⟩,CS h1 h2 h⟩
theorem Hf {a b:Int} {K:AV->Prop} (h1:-(2 ^ 63)<=a-b) (h2:a-b<2 ^ 63) (h:K (AG (a-b))):DX .i64 .sub (AG a) (AG b) K:=⟨⟨rfl,rfl⟩,CS h1 h2 h⟩
theorem Hg {z ps cs:_} {K:AV->Prop} (hf:Eo z ps=some cs) (h:K (.agg cs)):Fh z ps K:=by
 simp only[Fh,hf,wO];exact h
theorem nt {b:Bool} {K:AV->Prop} (h:K (BB !b)):Lr (BB b) K:=h
theorem B9 {l:List AV} {i:Nat} {v:AV} {K:AV->Prop} (hi:l[i]?=some v) (h:K v):JM (.tuple l) i K:=by
 simp only[JM,wO,hi];exact h
theorem Bx {s:AQ} {v:AV} {cs:List AV} {K:AV->AQ->Prop} (hc:cellsOf v=cs) (ho:cs.all BD=true) (h:K (.ptr s.bs.length 0) ⟨s.bs++[cs],s.ts⟩):Mt s v K:=by
 unfold Mt;rw[hc];exact⟨ho,h⟩
theorem Bj {s:AQ} {cs:List AV} {K:AV->AQ->Prop} (h:K (.ptr s.bs.length 0) ⟨s.bs++[cs],s.ts⟩):Ia s cs K:=h
theorem AX {s:AQ} {id:Nat} {c:AV} {cs:List AV} (h:s.bs[id]?=some (c::cs)):alive s id=true:=by
 simp[alive,h]
theorem C1 {s:AQ} {id off:Nat} {K:AV->Prop} (ha:alive s id=true) (h:K (.ptr id off)):JN s (.ptr id off) K:=⟨ha,h⟩
theorem AO {s:AQ} {id off d:Nat} {K:AV->Prop} (ha:alive s id=true) (h:K (.ptr id (off+d))):E2 s (.ptr id off) d K:=⟨ha,h⟩
theorem AZ {E:Env} {s:AQ} {id off:Nat} {cs:List AV} {v:AV} {K:AV->Prop} (hb:s.bs[id]?=some cs) (hv:cs[off]?=some v) (h:K v):D5 E s none (.ptr id off) K:=by
 simp only[D5,hb,wO,DF,hv];exact h
theorem Ag {E:Env} {s:AQ} {id k:Nat} {cs:List AV} {K:AV->Prop} (hb:s.bs[id]?=some cs) (hk:cs.length=k) (h:K (.agg cs)):D5 E s (some k) (.ptr id 0) K:=by
 simp only[D5,hb,wO,DF,JC];refine⟨AA,?_⟩;rw[CU AA];exact h
theorem Aq {s:AQ} {a:AV} {n:Nat} {K:AV->Prop} (hl:BA s a=some n) (h:K (AG n)):HI s a K:=by
 simp only[HI,hl,wO];exact h
theorem AHB {a b:List UInt8} {K:AV->Prop} (hl:a.length+b.length<2 ^ 63) (h:K (SS (a++b))):KF .add (SS a) (SS b) K:=by
 simp only[KF];exact⟨by simpa using hl,by simpa using h⟩
theorem sln {w:List UInt8} {K:AV->Prop} (h:K (AG w.length)):Ib (SS w) K:=Be
theorem six {w:List UInt8} {i:Int} {c:UInt8} {K:AV->Prop} (h0:0<=i) (hc:w[i.toNat]?=some c) (h:K (.pv (.sc (.int .u8 c.toNat)))):Wx (SS w) (AG i) K:=⟨h0,c,hc,h⟩
theorem Bq {L:BL} {s:AQ} {id k:Nat} {cs old:List AV} {K:AQ->Prop} (hb:s.bs[id]?=some old) (hk:cs.length=k) (ho:old.length=k) (h0:0<k) (hro:L.ro<=id) (hok:cs.all BD=true) (hn:L.n0<=id\/Iq cs=true) (h:K ⟨s.bs.set id cs,s.ts⟩):IM L s k (.ptr id 0) (.agg cs) K:=by
 have hce:cellsOf (.agg cs)=cs:=rfl
 have qI:∀(a b:List AV),a.length=b.length->setCells a 0 b=b:=by
  intro a b hab
  have gen:∀(b pre old:List AV),old.length=b.length->setCells (pre++old) pre.length b=pre++b:=by
   intro b
   induction b with
   | nil=>intro pre old h; cases old with
    | nil=>rfl
    | cons _ _=>grind
   | cons x b ih=>
    intro pre old h;cases old with
    | nil=>grind
    | cons y old=>
     have:=ih (pre++[x]) old AB
     simp_all[setCells]
  simpa using gen b [] a hab
 simp only[IM,hb,wO,hce];refine⟨⟨hk,AA,hro,hok,hn,AA⟩,?_⟩;rw[qI old cs AA];exact h
theorem qJ {P:Program} {t:TypeId} (ht:P.underlying t=some .string) (c:UInt8) (w:List UInt8):quick P (Instr.sliceAt t (.string ⟨(c::w).toArray⟩) (some (.int .i64 1)) none none)=some (.string ⟨w.toArray⟩):=by
 unfold Instr.sliceAt;refine Cl (JZ ht) ?_;simp only;unfold Instr.slice;refine Cl (JZ ht) ?_;have hs:(1:Int)<=((⟨(c::w).toArray⟩:ByteArray).size:Int):=by grind[ByteArray.size]
 simp only[Instr.sliceBounds,Instr.sliceBound,asIntOf,hs,Option.isSome_none,DN,I8,pure_bind,Lf,Gs];have e:(⟨(c::w).toArray⟩:ByteArray).extract 1 (⟨(c::w).toArray⟩:ByteArray).size=⟨w.toArray⟩:=by simp[*,ByteArray.ext_iff,ByteArray.size]
 show quick P (pure (Value.string ((⟨(c::w).toArray⟩:ByteArray).extract 1 (⟨(c::w).toArray⟩:ByteArray).size)))=_
 rw[e];rfl
theorem qK {E:Env} {L:BL} {s:AQ} {lk:Lk} {o:Oper} {K:AV->AQ->Prop} {t:TypeId} {x:Operand} {c:UInt8} {w:List UInt8} (ho:o.op=.slice t x (some (.const (.int .i64 1))) none none) (ht:E.P.underlying t=some .string) (hx:Iz lk x=some (SS (c::w)))
  (h:K (SS w) s):lU E L s lk o K:=by
 refine⟨SS w,s,λU hA=>?_,h⟩;have ex:=CV hA hx
 have h1:Ev U o.op.operands.toList=true:=by
  have e:o.op.operands.toList=[x,.const (.int .i64 1)]:=by rw[ho]; rfl
  rw[e];have e1:Am U (.const (.int .i64 1))=.pv (.sc (.int .i64 1)):=rfl
  grind[Ev,Hl]
 have h2:C4 E U o=some (SS w):=by
  have:quick E.P (execOp (λz=>(Hl (Am U z)).getD undef) o)=some (.value (.string ⟨w.toArray⟩)):=by
   unfold execOp;rw[ho];have e1:Am U (.const (.int .i64 1))=.pv (.sc (.int .i64 1)):=rfl;simp only[ex,e1,Hl,II,NQ,Option.map_none];exact Cl (qJ ht c w) rfl
  simp only[C4,h1,Gs,this];rfl
 grind[QW,Ci]
theorem qL {E:Env} {L:BL} {s:AQ} {lk:Lk} {o:Oper} {K:AV->AQ->Prop} {t c:TypeId} {x:Operand} (ho:o.op=.binOp .eql t x (.const .nilIface) c) (hx:Iz lk x=some (.pv (.sc .nilIface)))
  (hq:quick E.P (do eqGuard .eql t x (.const .nilIface) .nilIface .nilIface; binOp .eql t .nilIface .nilIface)=some (.bool true)) (h:K (BB true) s):lU E L s lk o K:=by
 refine⟨BB true,s,λU hA=>?_,h⟩;have ex:=CV hA hx;have e1:Am U (.const .nilIface)=.pv (.sc .nilIface):=rfl
 have h1:Ev U o.op.operands.toList=true:=by
  have e:o.op.operands.toList=[x,.const .nilIface]:=by rw[ho]; rfl
  grind[Ev,Hl]
 have h2:C4 E U o=some (BB true):=by
  have:quick E.P (execOp (λz=>(Hl (Am U z)).getD undef) o)=some (.value (.bool true)):=by
   unfold execOp;rw[ho];simp only[ex,e1,Hl,II];exact Cl hq rfl
  simp only[C4,h1,Gs,this];rfl
 grind[Ir,EI,sameKind,rowsOf,JE,Ci]
theorem XF:∀(f n:Nat) (acc:List UInt8),acc.length<(LH (f+1) n acc).length/\(LH (f+1) n acc).length<=acc.length+f+1
 | 0,n,acc=>by grind[LH]
 | f+1,n,acc=>by
  rw[LH];cases Nat.blt n 10 with
  | true=>simp
  | false=>
   have:=XF f (n / 10) (UInt8.ofNat (48+n % 10)::acc)
   grind
theorem UL (n:Nat):0<(HK n).length/\(HK n).length<=20:=by grind[XF,HK]
mutual
def ren:Ty->Ty
 | .mk k n i ts=>bif k==7 then .mk 2 (36::HK i.toNat) 0 [] else .mk k n i (CA ts)
def CA:List Ty->List Ty
 | []=>[]
 | t::l=>ren t::CA l
end
theorem Bo:∀l:List Ty,CA l=l.map ren
 | []=>rfl
 | t::l=>by rw[CA,Bo l]; rfl
mutual
def FH (N:Nat):Ty->Bool
 | .mk k n i ts=>bif k==7 then ts.isEmpty&&(decide (0<=i)&&decide (i<N)) else !(n.head?==some 36)&&(decide (n.length<2 ^ 40)&&Gc N ts)
def Gc (N:Nat):List Ty->Bool
 | []=>true
 | t::l=>FH N t&&Gc N l
end
structure Pc (R:RT):Prop where
 ito:∀n:Nat,n<2 ^ 40->Af (env R) 123 [AG n] λv=>v=SS (HK n)
 ato:∀n:Nat,n<2 ^ 40->Af (env R) 124 [SS (HK n)] λv=>v=.tuple [AG n,.pv (.sc .nilIface)]
section
variable {R:RT}
theorem AAz {c:UInt8} {w:List UInt8} (h:((c::w).head?==some 36)=false):(((c.toNat:Int)) != 36)=true:=by
 simp only[List.head?_cons] at h;have:c≠36:=AB;simp only[bne_iff_ne,ne_eq];intro h1;apply this;have h2:c.toNat=36:=AA;exact UInt8.toNat_inj.1 h2
theorem N8 (hn:Pc R) {N:Nat} (hN:N<=2 ^ 40) {k i:Int} {n:List UInt8} {ts:List Ty} (ht:FH N (.mk k n i ts)=true) {x:AV} (hx:A7 (ren (.mk k n i ts)) x) :
  Af (env R) 92 [x] λr=>r=bif k==7 then .tuple [AG i,BB true] else .tuple [AG 0,BB false]:=by
 rw[ren] at hx;rw[FH] at ht
 have go:∀(k' i':Int) (n':List UInt8) (a:AV) (rows:List (List PV)),A2 a rows->(∀Post:AV->Prop,Post (bif k==7 then .tuple [AG i,BB true] else .tuple [AG 0,BB false])->ADC R 0 0 0 (.agg [AG k',SS n',AG i',a]) ⟨[],[]⟩ (QP Post)) ->
   Af (env R) 92 [.agg [AG k',SS n',AG i',a]] λr=>r=bif k==7 then .tuple [AG i,BB true] else .tuple [AG 0,BB false]:=by
  intro k' i' n' a rows ha h;exact e92 (u0:=.agg [AG k',SS n',AG i',a]) (by simp[ha.close]) (h _ rfl)
 cases b7:(k==7) with
 | true=>
  rw[b7] at hx ht;simp only[AM,AH,Cy] at hx ht;obtain⟨a,rfl,ha⟩:=hx;have hd:=UL i.toNat;have go':=go 2 0 (36::HK i.toNat) a _ ha;rw[b7] at go';refine go' λPost hP=>ADE (Bx rfl (by simp[ha.ok]) (AO rfl (AZ rfl rfl (EM ?_))))
  refine Ak (AO rfl (Ak (AZ rfl rfl (Ak (sln (Ak (Ao (pk ?_))))))));have h2:¬ (((36::HK i.toNat).length:Nat):Int)<2:=AB;rw[Az h2];refine Ak (AO rfl (Ak (AZ rfl rfl (Ak (six (c:=36) AA rfl (Ak (EM (pk (Ay ?_)))))))));refine AOb (AO rfl (AZ rfl rfl ?_));refine qK (t:=9) (x:=.tmp 23) AR AW rfl ?_;refine AL (hn.ato i.toNat AA) ?_;rintro v rfl;refine B9 rfl (B9 rfl (qL (t:=136) (c:=136) (x:=.tmp 29) AR rfl AW ?_));have e:((i.toNat:Nat):Int)=i:=AA;rw[e];exact⟨_,AR,hP⟩
 | false=>
  rw[b7] at hx ht;simp only[AK,AH,Cy] at hx ht;obtain⟨a,rfl,ha⟩:=hx;have go':=go k i n a _ ha;rw[b7] at go';refine go' λPost hP=>ADE (Bx rfl (by simp[ha.ok]) (AO rfl (AZ rfl rfl (EM ?_))))
  have fin:∀(s:AQ),QP Post (.tuple [AG 0,BB false]) s:=λs=>⟨_,AR,hP⟩
  by_cases h2:k=2
  .subst h2
   refine Ak (AO rfl (Ak (AZ rfl rfl (Ak (sln (Ak (Ao (pk ?_))))))))
   by_cases hl:(n.length:Int)<2
   .simp[*]
   .rw[Az hl]
    obtain⟨c,w,rfl⟩:=NU (l:=n) AB;have hne:=AAz (c:=c) (w:=w) AB
    simp_all[six]
  .have hb:(k != 2)=true:=by grind
   simp[*]
abbrev phA (v:Nat):AV:=.agg [AG 2,SS (36::HK v),AG 0,.AE []]
theorem LI (hn:Pc R) (v:Nat) (hv:v<2 ^ 40):Af (env R) 90 [AG v] λr=>r=phA v:=by
 have hd:=UL v;refine e90 (u0:=AG v) AD (AOc ?_);refine AL (hn.ito v hv) ?_;rintro _ rfl;refine AHB AB (Hg rfl ?_);refine Bq (old:=[AG 0,SS [],AG 0,.AE []]) rfl rfl rfl AI (AN _) rfl (.inl (AN _)) ?_;refine Ag rfl rfl ?_;exact⟨phA v,AR,rfl⟩
theorem BI.app {s:AQ} (h:BI s) {b:List AV} (hb:Ah (s.bs.length+1) b=true):BI ⟨s.bs++[b],s.ts⟩:=by
 intro c hc;simp only[Bd,Bt,Bz];rcases B4.1 hc with hc|hc
 .exact Bp AA c (h c hc)
 grind
theorem JR {rr:Bool} {s:AQ} (hs:BI s) {m:List (List AV)} {p:PV} {Post:AV->AQ->Prop} (h:Post (.pv p) s):QM rr s.bs.length Post (.pv p) ⟨s.bs++m,s.ts⟩:=by
 have e:(s.bs++m).take s.bs.length=s.bs:=AD;refine ADF ?_ ?_
 .simp only[e]
  rw[C3];exact hs
 simp[*]
theorem AA0 {α:Type} {row:α->List PV} (hrow:∀a,(row a).length=4) {f:FuncId} {cs:List AV} {g:α->Bool} {ts:List α} {y:AV} (hy:A2 y (ts.map row)) (hl:ts.length<2 ^ 60) {s:AQ} (hf:∀t∈ts,∀L,BW (env R) L f (.agg ((row t).map .pv)::cs) s (BB (g t)) s) {n0 ro rt:Nat} {QR:QT} :
  ∀(j q:Nat),q+j=ts.length->(∀i:Int,decide (0<=i)=(ts.drop q).any g->QR (AG i) s)->Y8 R n0 ro rt y (.func (.func f) [] cs) (AG ts.length) (AG q) s QR:=by
 intro j
 induction j with
 | zero=>
  intro q hi hP;refine Qu (Ao ?_);have h1:¬ ((q:Int)<ts.length):=AA;rw[Az h1];refine Ay (gv ?_);have h2:ts.drop q=[]:=CH AA;rw[h2] at hP;exact hP (-1) AD
 | succ j D1=>
  intro q hi hP;refine Qu (Ao ?_);have h1:((q:Int)<ts.length):=AA;rw[Ar h1];refine A9 (gw ?_);obtain⟨t,ht⟩:∃t,ts[q]?=some t:=⟨_,Au AA⟩;have hd:=drop_cons ht;rw[hd] at hP;refine BM hy (row:=row t) AA (by simp[ht]) (hrow t) AA ?_;have hc:=hf t (A3 ht)
  have e4:∀K:AV->Prop,K (.agg ((row t).map .pv))->D5 (env R) s (some 4) (.Cw (row t) 0) K:=by
   intro K hK;simp only[D5,DF,JC];refine⟨by rw[Bm,hrow]; omega,?_⟩;rw[CU (by rw[Bm,hrow]; omega)];exact hK
  refine e4 _ ?_;refine⟨BB (g t),s,hc _,?_⟩;cases hg:g t with
  | true=>simp[*]
  | false=>
   refine Ay (hO (Ba AA AA ?_));simp only[O2,hg,GL] at hP;have:=D1 (q+1) AA hP;simpa using this
theorem ZN {α:Type} {row:α->List PV} (hrow:∀a,(row a).length=4) {f:FuncId} {cs:List AV} {g:α->Bool} {ts:List α} {y:AV} (hy:A2 y (ts.map row)) (hl:ts.length<2 ^ 60) {s:AQ} (hs:BI s) (hcs:DK cs=false) (hf:∀t∈ts,∀L,BW (env R) L f (.agg ((row t).map .pv)::cs) s (BB (g t)) s) (L:BL) :
  BW (env R) L 94 [y,.func (.func f) [] cs] s (BB (ts.any g)) s:=by
 have hi:∀L,∃i:Int,decide (0<=i)=ts.any g/\BW (env R) L 125 [y,.func (.func f) [] cs] s (AG i) s:=by
  intro L
  obtain⟨v,s',⟨i,rfl,rfl,h⟩,hc⟩:=AOd (R:=R) (L:=L) (s:=s) (t0:=y) (t1:=.func (.func f) [] cs) (Post:=λv s'=>∃i:Int,v=AG i/\s'=s/\decide (0<=i)=ts.any g) (by grind[DK,Fx]) (hY (Aq (n:=ts.length) (by rw[hy.BA,Bm]) (AA0 hrow hy hl hf ts.length 0 AA λi h=>by
   have:=JR (rr:=L.rr 125) hs (m:=[]) (p:=.sc (.int .i64 i)) (Post:=λv s'=>∃i:Int,v=AG i/\s'=s/\decide (0<=i)=ts.any g) ⟨i,rfl,rfl,AB⟩
   simp_all)))
  grind
 obtain⟨v,s',⟨rfl,rfl⟩,hc⟩:=m94 (R:=R) (L:=L) (s:=s) (t0:=y) (t1:=.func (.func f) [] cs) (Post:=λv s'=>v=BB (ts.any g)/\s'=s) (by grind[DK,Fx]) (ue (by
  obtain⟨i,h,hc⟩:=hi (Ce (env R) 94 0 L.ro L.rt);refine⟨AG i,s,hc,Ko ?_⟩;have:=JR (rr:=L.rr 94) hs (m:=[]) (p:=.sc (.bool (ts.any g))) (Post:=λv s'=>v=BB (ts.any g)/\s'=s) ⟨rfl,rfl⟩
  simp_all))
 omega
theorem DE (t:Ty):((Aj t).map AV.pv).all BD=true:=by cases t; rfl
mutual
theorem Rz (hn:Pc R) {N:Nat} (hN:N<=2 ^ 40) (v:Nat):∀(t:Ty) (inv:Bool),size t<2 ^ 60->FH N t=true->∀(x:AV),A7 (ren t) x->Af (env R) 62 [x,AG v,BB inv] λr=>r=BB (DT v inv t)
 | .mk k n i ts,inv,h,ht,x,hx=>by
  have hv:=N8 hn hN ht hx;have ht':=ht;rw[FH] at ht;rw[ren] at hx;rw[DT];simp only[size] at h;cases b7:(k==7) with
  | true=>
   rw[b7] at hx hv ht;simp only[AM,AH,Cy] at hx hv ht;obtain⟨a,rfl,ha⟩:=hx;refine e62 (u0:=.agg [AG 2,SS (36::HK i.toNat),AG 0,a]) (u1:=AG v) (u2:=BB inv) (by simp[ha.close]) (ADG ?_);refine Bx rfl (by simp[ha.ok]) (Bx rfl rfl (Bx rfl rfl (Ag rfl rfl (AL hv ?_))));rintro _ rfl;refine B9 rfl (B9 rfl (A9 (AZ rfl rfl (A0 ?_))));simp only[AM];cases he:(i==(v:Int)) with
   | true=>exact Ak (AZ rfl rfl (Ak (nt (pk ⟨_,Hu,by cases inv <;> rfl⟩))))
   | false=>exact B8 (B8 (pk ⟨_,Hu,by cases inv <;> rfl⟩))
  | false=>
   rw[b7] at hx hv ht;simp only[AK,AH,Cy] at hx hv ht;obtain⟨a,rfl,ha⟩:=hx;have ih:=Pd hn hN v ts (inv&&!(k==2)) AA ht.2.2;refine e62 (u0:=.agg [AG k,SS n,AG i,a]) (u1:=AG v) (u2:=BB inv) (by simp[ha.close]) (ADG ?_);refine Bx rfl (by simp[ha.ok]) (Bx rfl rfl (Bx rfl rfl (Ag rfl rfl (AL hv ?_))));rintro _ rfl;refine B9 rfl (B9 rfl (Ay (AOe (AO rfl (AZ rfl rfl ?_)))))
   have hs:BI ⟨[[AG k,SS n,AG i,a],[AG v],[BB inv]],[]⟩:=by
    intro b hb;simp only[A5,Ep,Er] at hb;rcases hb with rfl|rfl|rfl <;> simp[Ah,Aw,ha.Aw]
   have hsz:=BV ts
   have Nd:A2 a (ts.map λt=>Aj (ren t)):=by
    rw[Ic,Bo,Ox] at ha;exact ha
   refine⟨_,_,ZN (λt=>Al (ren t)) (g:=λt=>DT v (inv&&!(k==2)) t) (f:=103) (cs:=[.ptr 1 0,.ptr 2 0,.ptr 0 0]) Nd AA hs AR ?_ _,?_⟩
   .intro t hm L
    have hc:=ih t hm
    obtain⟨w,s',⟨rfl,rfl⟩,hcc⟩:=AYE (R:=R) (L:=L) (s:=⟨[[AG k,SS n,AG i,a],[AG v],[BB inv]],[]⟩) (t0:=.agg ((Aj (ren t)).map .pv)) (t1:=.ptr 1 0) (t2:=.ptr 2 0) (t3:=.ptr 0 0) (Post:=λw s'=>w=BB (DT v (inv&&!(k==2)) t)/\s'=⟨[[AG k,SS n,AG i,a],[AG v],[BB inv]],[]⟩) (by simp[DK,Fx]) (AHC (by
     generalize hr:(Aj (ren t)).map AV.pv=r at hc;have hrl:r.length=4:=by grind[Al]
     have hro:r.all BD=true:=by grind[DE]
     refine Bx rfl hro (Ag rfl hrl (AZ rfl rfl (AZ rfl rfl ?_)))
     have fin:∀(b:Bool) (s1:AQ),s1=⟨[[AG k,SS n,AG i,a],[AG v],[BB inv],r],[]⟩->b=(inv&&!(k==2))->He (env R) (Ce (env R) 103 0 L.ro L.rt) (.func (.func 62) [] []) [.agg r,AG v,BB b] s1 (λa14 qN=>QM (L.rr 103) 3 (λw s'=>w=BB (DT v (inv&&!(k==2)) t)/\s'=⟨[[AG k,SS n,AG i,a],[AG v],[BB inv]],[]⟩) a14 qN):=by
      rintro b s1 rfl rfl;refine AL hc ?_;rintro _ rfl;exact JR (s:=⟨[[AG k,SS n,AG i,a],[AG v],[BB inv]],[]⟩) hs (m:=[r]) (p:=.sc (.bool _)) ⟨rfl,rfl⟩
     cases inv with
     | true=>simp_all[bne]
     | false=>simp_all))
    omega
   .refine⟨_,Hu,?_⟩
    have:∀l:List Ty,l.any (λt=>DT v (inv&&!(k==2)) t)=F7 v (inv&&!(k==2)) l:=by
     intro l
     induction l with
     | nil=>rfl
     | cons e l ih=>grind[F7]
    grind
theorem Pd (hn:Pc R) {N:Nat} (hN:N<=2 ^ 40) (v:Nat):∀(l:List Ty) (inv:Bool),Ac l<2 ^ 60->Gc N l=true->∀t∈l,Af (env R) 62 [.agg ((Aj (ren t)).map .pv),AG v,BB inv] λr=>r=BB (DT v inv t)
 | [],_,_,_,_,h=>by cases h
 | e::l,inv,h,ht,t,hm=>by
  simp only[Ac] at h;simp only[Gc,AH] at ht;rcases A5.1 hm with h' | h'
  .rw[h']
   exact Rz hn hN v e inv AA ht.1 _ (A7.Bi _)
  .exact Pd hn hN v l inv AA ht.2 t h'
end
end
theorem Af.told {E:Env} {f:FuncId} {fn:Func} {T:BL->List AV->AQ->Option (AV×AQ)} {args:List AV} {v:AV} {Post:AV->Prop} (hfn:E.P.funcs[f]?=some fn) (hc:E.clone f=true) (ht:E.told f=some T) (h:∀L s,T L args s=some (v,s)) (hp:Post v):Af E f args Post:=by
 refine⟨v,hp,λL s=>⟨1,λm hm=>?_⟩⟩;obtain⟨m,rfl⟩:∃k,m=k+1:=⟨m-1,AA⟩
 grind[EC,PC]
theorem cK {d:Nat} (h:d<10):(UInt8.ofNat (48+d)).toNat=48+d:=by grind[UInt8.toNat_ofNat']
theorem cL:∀(f k n:Nat) (acc:List UInt8),0<k->n<10 ^ k->(LH f n acc).length<=acc.length+k
 | 0,k,n,acc,_,_=>by simp[LH]
 | f+1,k,n,acc,hk,hn=>by
  rw[LH];cases hb:Nat.blt n 10 with
  | true=>
   grind
  | false=>
   have h10:¬ n<10:=λh=>by grind[Nat.blt,Nat.ble_eq_true_of_le]
   obtain⟨j,rfl⟩:∃j,k=j+1:=⟨k-1,AA⟩;rw[Sm] at hn;have hj:0<j:=AB;have:=cL f j (n / 10) (UInt8.ofNat (48+n % 10)::acc) hj AA
   grind
theorem UM {d a:Nat} (h:d<10) (l:List UInt8):LJ (UInt8.ofNat (48+d)::l) a=LJ l (a*10+d):=by grind[LJ,cK,Nat.ble_eq_true_of_le]
theorem UN:∀(f n:Nat) (acc:List UInt8),n<10 ^ f->LJ (LH f n acc) 0=LJ acc n
 | 0,n,acc,h=>by
  have:n=0:=AA;subst this;rfl
 | f+1,n,acc,h=>by
  rw[LH];cases hb:Nat.blt n 10 with
  | true=>
   have h10:n<10:=Gv hb
   grind[UM]
  | false=>
   rw[Sm] at h;simp only[AK];rw[UN f (n / 10) _ AA,UM AA]
   grind
theorem num {R:RT}:Pc R:=by
 refine⟨λn hn=>?_,λn hn=>?_⟩
 .refine Af.told (fn:=Tryz.f123) (T:=oQ) Tryz.func123 AR AR (λL s=>?_) rfl
  show(bif Nat.blt n 1099511627776 then some (SS (HK n),s) else none:Option (AV×AQ))=_
  grind[Nat.blt,Nat.ble_eq_true_of_le]
 .have hl:=UL n
  have Sr:(HK n).length<=18:=by
   have:=cL 20 18 n [] AI (GI hn AI)
   assumption
  have hu:LJ (HK n) 0=some n:=UN 20 n [] (GI hn AI);refine Af.told (fn:=Tryz.f124) (T:=gU) Tryz.func124 AR AR (λL s=>?_) rfl
  grind[gU,Nat.ble_eq_true_of_le]
end Go.Proofs.YtpgfpakdnijngaaGreatDoor
