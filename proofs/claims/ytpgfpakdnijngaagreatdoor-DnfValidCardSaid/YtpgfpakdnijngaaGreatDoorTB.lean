/-
  Branches: the program's and the reference's are alike: bounds that are put in, eliminated variables.
-/
import Derived.Test.YtpgfpakdnijngaaGreatDoorTA
import Derived.Test.YtpgfpakdnijngaaGreatDoorW1
import Derived.Test.YtpgfpakdnijngaaGreatDoorWpH
import Derived.Laws.Strings3
set_option linter.all false
namespace Go.Proofs.YtpgfpakdnijngaaGreatDoor
open Go.Tel
def CE {α β:Type} (R:α->β->Prop):List α->List β->Prop
 | [],[]=>True
 | a::l,b::m=>R a b/\CE R l m
 | _,_=>False
section
variable {α β:Type}
theorem CE.mono {R S:α->β->Prop} (h:∀a b,R a b->S a b):∀{l:List α} {m:List β},CE R l m->CE S l m
 | [],[],_=>trivial
 | _::_,_::_,⟨h1,h2⟩=>⟨h _ _ h1,h2.mono h⟩
 | [],_::_,h=>h.elim
 | _::_,[],h=>h.elim
theorem CE.length {R:α->β->Prop}:∀{l:List α} {m:List β},CE R l m->l.length=m.length
 | [],[],_=>rfl
 | _::_,_::_,⟨_,h⟩=>by simp[h.length]
 | [],_::_,h=>h.elim
 | _::_,[],h=>h.elim
theorem CE.append {R:α->β->Prop}:∀{l l':List α} {m m':List β},CE R l m->CE R l' m'->CE R (l++l') (m++m')
 | [],_,[],_,_,h=>h
 | _::_,_,_::_,_,⟨h1,h2⟩,h=>⟨h1,h2.append h⟩
 | [],_,_::_,_,h,_=>h.elim
 | _::_,_,[],_,h,_=>h.elim
end
def MS {α:Type} (Q:List Ty->α->Ty->Prop) (B:List Ty):Option (List α)->F9->Prop
 | none,(none,B')=>B<+:B'
 | some r,(some ps,B')=>B<+:B'/\CE (Q B') r ps
 | _,_=>False
theorem Ec {A B C:List Ty} (h:A<+:B) (h':B<+:C):A<+:C:=h.trans h'
theorem Ns {A B:List Ty} (h:A<+:B) {i:Nat} {t:Ty} (hi:A[i]?=some t):B[i]?=some t:=by
 obtain⟨C,rfl⟩:=h
 grind
theorem GZ {A B:List Ty} (h:A<+:B):A.length<=B.length:=h.length_le
section
variable (BC:Nat->Bool)
theorem jU {α β γ:Type} {Q:List Ty->γ->Ty->Prop} (hQ:∀B B' a b,B<+:B'->Q B a b->Q B' a b) {S:α->β->Prop} {g:α->Option (List γ)} {g':β->List Ty->F9} {B0:List Ty}
  (hg:∀a b B,B0<+:B->S a b->MS Q B (g a) (g' b B)):∀(l:List α) (m:List β) (out:List γ) (out':List Ty) (B:List Ty),B0<+:B->CE S l m->CE (Q B) out out'->MS Q B (I6 BC g l out) (Cj BC g' m out' B)
 | [],[],out,out',B,_,_,h=>⟨C4 _,h⟩
 | [],_::_,_,_,_,_,h,_=>h.elim
 | _::_,[],_,_,_,_,h,_=>h.elim
 | a::l,b::m,out,out',B,hB,⟨h1,h2⟩,h=>by
  have hs:=hg a b B hB h1;rw[I6,Cj];cases hr:g a with
  | none=>
   rw[hr] at hs;rcases dJ:g' b B with ⟨r',B'⟩
   rw[dJ] at hs;cases r' with
   | some _=>exact hs.elim
   | none=>omega
  | some r=>
   rw[hr] at hs;rcases dJ:g' b B with ⟨r',B'⟩
   rw[dJ] at hs;cases r' with
   | none=>exact hs.elim
   | some ps=>
    obtain⟨hp,ha⟩:=hs;have hall:CE (Q B') (out++r) (out'++ps):=(h.mono λa b=>hQ _ _ a b hp).append ha;have hl:(out++r).length=(out'++ps).length:=hall.length
    show MS Q B (bif BC (out++r).length then none else _) (bif BC (out'++ps).length then(none,B') else _)
    rw[<-hl];cases BC (out++r).length with
    | true=>exact hp
    | false=>
     have:=jU hQ hg l m (out++r) (out'++ps) B' (Ec hB hp) h2 hall;simp only[AL];revert this;cases I6 BC g l (out++r) <;> obtain⟨r2,B2⟩:=Cj BC g' m (out'++ps) B' <;> cases r2 <;> intro this
     .exact Ec hp this
     .exact this
     .exact this
     .exact⟨Ec hp this.1,this.2⟩
end
def Pz (φ σ:List Nat) (v:Nat) (i:Int):Nat:=bif i==hole then v else bif decide (0<=i) then φ.getD i.toNat 0 else σ.getD (-1-i).toNat 0
theorem M5 {φ σ:List Nat} {v:Nat}:Pz φ σ v hole=v:=AR
theorem mQ {φ σ:List Nat} {v x:Nat} {i:Nat} (h:φ[i]?=some x) (hs:φ.length<hole):Pz φ σ v (i:Int)=x:=by grind[Pz]
theorem Ig {φ σ:List Nat} {v:Nat} {i:Int} (h:i<0):Pz φ σ v i=σ.getD (-1-i).toNat 0:=by
 have hne:(i==hole)=false:=by grind[hole]
 grind[Pz]
structure Rl (h:Bool) (v:Nat) (B:List Ty) (lo hi:Nat) (σ:List Nat) (b:Br) (p:Ty) (φ:List Nat):Prop where
 nd:φ.Nodup
 O6:∀x∈φ,lo<=x/\x<hi
 len:b.bounds.length=φ.length
 LO:∀(i x:Nat),φ[i]?=some x->B[x]?=b.bounds[i]?
 small:φ.length<hole
 bd:bd b.body=true
 vis:∀i∈vis b.body,(0<=i/\i<φ.length)\/(i<0/\-i<=σ.length)\/(h=true/\i=hole)
 eq:p=tr (Pz φ σ v) b.body
theorem Rl.mono {h:Bool} {v:Nat} {B B':List Ty} {lo lo' hi hi':Nat} {σ:List Nat} {b:Br} {p:Ty} {φ:List Nat} (H:Rl h v B lo hi σ b p φ) (hB:B<+:B') (hb:hi<=B.length) (h1:lo'<=lo) (h2:hi<=hi'):Rl h v B' lo' hi' σ b p φ:=
 {H with
  O6:=λx hx=>by have:=H.O6 x hx; omega
  LO:=λi x hx=>by
   have h3:=H.LO i x hx;have h4:=(H.O6 x (A5 hx)).2
   grind[Ns] }
theorem jV {φ:List Nat} {i:Int} (h0:0<=i) (h1:i<φ.length):∃x,φ[i.toNat]?=some x/\x∈φ:=by simp[*]
theorem Rl.wL {h:Bool} {v:Nat} {B:List Ty} {lo hi:Nat} {σ:List Nat} {b:Br} {p:Ty} {φ:List Nat} (H:Rl h v B lo hi σ b p φ) {w:Nat} (hw:w<lo\/hi<=w) (hσ:w∉σ) {i:Int} (hi:i∈Proofs.YtpgfpakdnijngaaGreatDoor.vis b.body) (hh:i≠hole):Pz φ σ v i≠w:=by
 rcases H.vis i hi with ⟨h0,h1⟩|⟨h0,h1⟩|⟨_,h1⟩
 .obtain⟨x,hx,hm⟩:=jV h0 h1
  have:=H.O6 x hm
  grind[Pz]
 .rw[Ig h0]
  obtain⟨x,hx⟩:∃x,σ[(-1-i).toNat]?=some x:=⟨_,Ay AA⟩;simp only[List.getD,hx,JI];rintro rfl;exact hσ (A5 hx)
 omega
theorem Ei {l:List Int} {k:Nat} (h:l.findIdx? (·==hole)=some k):l[k]?=some hole/\∀i∈l.take k,i≠hole:=by grind[List.findIdx?_eq_some_iff_getElem,List.getElem_of_mem]
theorem Ug {l:List Int} {k:Nat} (h:l[k]?=some hole) (hn:∀i∈l.take k,i≠hole):l.count hole=(l.drop (k+1)).count hole+1/\(l.take k).count hole=0:=by grind[List.drop_eq_getElem_cons,List.take_append_drop]
theorem P0 {φ ψ σ:List Nat} {v:Nat} {i:Int} (h:(0<=i/\i<φ.length)\/(i<0)\/i=hole) (hs:φ.length<hole):Pz (φ++ψ) σ v i=Pz φ σ v i:=by
 rcases h with ⟨h0,h1⟩|h|rfl
 .grind[Pz]
 all_goals grind[Ig,M5]
theorem APS {B:List Ty} {lo hi:Nat} {c:Br} {q:Ty} {φ ψ σ:List Nat} {v w:Nat} (H:Rl false w B lo hi [] c q ψ) (hs:φ.length+ψ.length<hole):q=tr (Pz (φ++ψ) σ v) (Hr φ.length c.body) /\
  (∀i∈vis (Hr φ.length c.body),φ.length<=i/\i<φ.length+ψ.length)/\bd (Hr φ.length c.body)=true/\Al (Hr φ.length c.body)=(Al c.body).map λi=>bif decide (0<=i)&&!(i==hole) then i+φ.length else i:=by
 have hv:∀i∈vis c.body,0<=i/\i<ψ.length:=by
  intro i hi;rcases H.vis i hi with h|h|h
  all_goals grind
 have eg:Hr φ.length=Bh λi=>var (bif decide (0<=i)&&!(i==hole) then i+φ.length else i):=by grind[Hr]
 have hg:∀i∈vis c.body,(bif decide (0<=i)&&!(i==hole) then i+(φ.length:Int) else i)=i+φ.length:=AB;rw[eg];refine⟨?_,?_,RF _ _ H.bd,EL _ _⟩
 .rw[H.eq,tr,tr,IK]
  refine Dg _ λi hi=>?_
  have hi':=hv i hi;rw[hg i hi];obtain⟨x,hx,_⟩:=jV hi'.1 hi'.2;have e1:Pz ψ [] w i=x:=by grind[mQ]
  have e2:Pz (φ++ψ) σ v (i+φ.length)=x:=by
   have hx':(φ++ψ)[φ.length+i.toNat]?=some x:=AB;have:=mQ (σ:=σ) (v:=v) hx' AB
   grind
  rw[e1,e2]
 .rw[L7]
  grind
section
variable {BC:Nat->Bool}
def wM (BC:Nat->Bool) (l:Option (List Br)) (h fR:Nat) (b:Br):Option (List Br):=match h with
 | 0=>some [b]
 | _+1=>match l with
  | none=>none
  | some r=>EK BC r fR b
theorem fill_eq {l:Option (List Br)} {ex:List Ty->F9} {v lo:Nat} {σ:List Nat} {w:Nat} (hlo:lo<=v) (hσ:v∉σ)
  (hex:∀B,MS (λB' c q=>∃ψ,Rl false 0 B' B.length B'.length [] c q ψ) B l (ex B)) (hw:∀r,l=some r->∀c∈r,c.bounds.length<=w) :
  ∀(h fR:Nat) (b:Br) (p:Ty) (B:List Ty) (φ:List Nat),Rl true v B (v+1) B.length σ b p φ->v<B.length->oI (·==hole) b.body=false->(Al b.body).count hole=h->h<=fR->φ.length+h*w<hole ->
   MS (λB' b p=>∃φ,Rl false 0 B' lo B'.length σ b p φ) B (wM BC l h fR b) (CQ BC ex v h p B):=by
 intro h
 induction h with
 | zero=>
  intro fR b p B φ H hv hI h0 hf hs;rw[CQ,wM]
  suffices G:Rl false 0 B lo B.length σ b p φ from⟨C4 _,⟨φ,G⟩,Ai⟩
  have hno:∀i∈vis b.body,i≠hole:=by
   rintro i hi rfl;rcases Xh b.body H.bd _ hi with h|h
   all_goals grind
  refine { nd:=H.nd,O6:=λx hx=>?_,len:=H.len,LO:=H.LO,small:=H.small,bd:=H.bd,vis:=λi hi=>?_,eq:=?_ }
  .have:=H.O6 x hx
   omega
  .rcases H.vis i hi with h|h|h
   all_goals grind
  .rw[H.eq]
   grind[Dg,Pz]
 | succ h ih=>
  intro fR b p B φ H hv hI h0 hf hs;have hmem:hole∈Al b.body:=List.count_pos_iff.1 AA
  have Z1:Cw v false p=true:=by
   rw[H.eq,v8 _ _ _ H.bd,Dk]
   grind[M5]
  rw[CQ,Z1];simp only[AN];have hx:=hex B;cases hl:l with
  | none=>
   rw[hl] at hx;rcases dJ:ex B with ⟨r',B'⟩
   rw[dJ] at hx;cases r' with
   | some _=>exact hx.elim
   | none=>exact hx
  | some r=>
   rw[hl] at hx;rcases dJ:ex B with ⟨r',B'⟩
   rw[dJ] at hx;cases r' with
   | none=>exact hx.elim
   | some ps=>
    obtain⟨hp,hall⟩:=hx;obtain⟨f,rfl⟩:∃f,fR=f+1:=⟨fR-1,AA⟩
    obtain⟨k,hk⟩:∃k,Fh b.body=some k:=by
     cases hh:Fh b.body with
     | some k=>simp
     | none=>
      grind[Fh]
    obtain⟨Te,hk2⟩:=Ei hk;obtain⟨OU,Sg⟩:=Ug Te hk2;rw[show wM BC (some r) (h+1) (f+1) b=EK BC r (f+1) b from rfl];simp only;rw[EK,hk];simp only
    have step:=jU (BC:=BC) (Q:=λB' b p=>∃φ,Rl false 0 B' lo B'.length σ b p φ) (λA A' a q hA ⟨φ,h⟩=>⟨φ,h.mono hA (AY _) (AY _) (GZ hA)⟩)
     (S:=λc q=>c∈r/\∃ψ,Rl false 0 B' B.length B'.length [] c q ψ) (g:=λc=>EK BC r f (DV b k c)) (g':=λc B=>CQ BC ex v h (Ky (·==(v:Int)) c p 0) B) (B0:=B') ?_ r ps [] [] B' (C4 _) ?_ Ai
    .revert step
     cases I6 BC (λc=>EK BC r f (DV b k c)) r [] <;> obtain⟨r2,B2⟩:=Cj BC (λc B=>CQ BC ex v h (Ky (·==(v:Int)) c p 0) B) ps [] B' <;> cases r2 <;> intro step
     .exact Ec hp step
     .exact step
     .exact step
     .exact⟨Ec hp step.1,step.2⟩
    .rintro c q A hA ⟨hcr,ψ,hψ⟩
     have E6:=hw r hl c hcr;rw[hψ.len] at E6;have hmul:(h+1)*w=h*w+w:=by rw[EO,S8]
     have Xj:φ.length+ψ.length<hole:=AA;obtain⟨s1,s2,s3,s4⟩:=APS (φ:=φ) (σ:=σ) (v:=v) hψ Xj;have hkl:k<(Al b.body).length:=(BA.1 Te).1
     have e0:p=tr (Pz (φ++ψ) σ v) b.body:=by
      rw[H.eq];refine Dg _ λi hi=>?_
      rw[P0 _ H.small];rcases H.vis i hi with h' | h' | h'
      all_goals omega
     have e1:Ky (·==(v:Int)) q p 0=tr (Pz (φ++ψ) σ v) (M3 (Hr φ.length c.body) b.body k):=by
      rw[s1,e0];refine(ADx _ _ _ _ k 0 H.bd ⟨hole,Te,by simp[M5]⟩ ?_).symm;rw[List.countP_eq_zero];intro i hi;have wN:=Pu b.body i (List.mem_of_mem_take hi);have hne:=H.wL (w:=v) (.inl (S9 v)) hσ wN (hk2 i hi)
      have:=P0 (ψ:=ψ) (σ:=σ) (v:=v) (φ:=φ) (i:=i) (by
       rcases H.vis i wN with h' | h' | h'
       all_goals omega) H.small
      grind
     have hno:hole∉vis (Hr φ.length c.body):=λhh=>by grind
     have hnc:(Al (Hr φ.length c.body)).count hole=0:=Nb.2 λhm=>hno (Pu _ _ hm)
     have hBB:B<+:A:=Ec hp hA;have key:=ih f (DV b k c) (Ky (·==(v:Int)) q p 0) A (φ++ψ) ?_ (Fo hv (GZ hBB)) ?_ ?_ AA AB
     .rw[hl] at key
      cases h with
      | zero=>
       have hz:Fh (DV b k c).body=none:=by
        have hz0:(Al (DV b k c).body).count hole=0:=by
         show(Al (M3 (Hr b.bounds.length c.body) b.body k)).count hole=0
         rw[H.len,Py _ _ _ hkl,TA,TA,Sg,hnc];omega
        grind[Fh]
       have e:EK BC r f (DV b k c)=some [DV b k c]:=by
        cases f with
        | zero=>rfl
        | succ f=>rw[EK,hz]
       show MS _ A (EK BC r f (DV b k c)) _
       rw[e];exact key
      | succ h=>exact key
     .refine { nd:=?_,O6:=?_,len:=?_,LO:=?_,small:=?_,bd:=?_,vis:=?_,eq:=?_ }
      .rw[ZB]
       refine⟨H.nd,hψ.nd,λx hx y hy=>?_⟩;have:=(H.O6 x hx).2;have:=(hψ.O6 y hy).1;omega
      .intro x hx
       have hAl:=GZ hBB;have hAl':=GZ hA;rcases B7.1 hx with hx|hx
       .have:=H.O6 x hx
        omega
       .have:=hψ.O6 x hx
        omega
      .simp only[DV,Bo,H.len,hψ.len]
      .intro i x hx
       show A[x]?=(b.bounds++c.bounds)[i]?
       by_cases hi:i<φ.length
       .rw[CX hi] at hx
        rw[CX (by rw[H.len]; omega)];have:=H.LO i x hx;have hxl:=(H.O6 x (A5 hx)).2
        grind[Ns]
       .rw[Ey AA] at hx
        rw[Ey (by rw[H.len]; omega),H.len];have:=hψ.LO _ x hx;have hxl:=(hψ.O6 x (A5 hx)).2
        grind[Ns]
      .grind
      .show bd (M3 (Hr b.bounds.length c.body) b.body k)=true
       rw[H.len];exact ADz _ s3 _ _ H.bd
      .intro i hi
       have hi':i∈vis (M3 (Hr b.bounds.length c.body) b.body k):=hi;rw[H.len] at hi';rw[Bo];rcases wC _ _ _ i hi' with h' | h'
       .rcases H.vis i h' with h'' | h'' | h''
        all_goals grind
       grind
      .rw[e1]
       show _=tr (Pz (φ++ψ) σ v) (M3 (Hr b.bounds.length c.body) b.body k)
       rw[H.len]
     .show oI (·==hole) (M3 (Hr b.bounds.length c.body) b.body k)=false
      rw[H.len];cases hh:oI (·==hole) (M3 (Hr φ.length c.body) b.body k) with
      | false=>rfl
      | true=>
       rcases ADy _ _ _ _ hh with h' | h'
       all_goals grind[wJ]
     .show(Al (M3 (Hr b.bounds.length c.body) b.body k)).count hole=h
      rw[H.len,Py _ _ _ hkl,TA,TA,Sg,hnc];omega
    .have:∀{r':List Br} {ps:List Ty},(∀c∈r',c∈r)->CE (λc q=>∃ψ,Rl false 0 B' B.length B'.length [] c q ψ) r' ps->CE (λc q=>c∈r/\∃ψ,Rl false 0 B' B.length B'.length [] c q ψ) r' ps:=by
      intro r'
      induction r' with
      | nil=>intro ps _ h; cases ps with
       | nil=>trivial
       | cons _ _=>exact h.elim
      | cons a r' ih=>intro ps hm h; cases ps with
       | nil=>exact h.elim
       | cons q ps=>exact⟨⟨hm a AD,h.1⟩,ih (λc hc=>hm c (FP _ hc)) h.2⟩
     grind
end
def ex6:List Nat->Nat
 | [b,c]=>c*(b+1)
 | _=>0
mutual
def cv:Ty->Nat
 | .mk k _ _ ts=>bif k==6 then ex6 (MT ts) else bif k==3||k==4 then(MT ts).sum else 1
def MT:List Ty->List Nat
 | []=>[]
 | t::l=>cv t::MT l
end
def ex7:List Nat->List Nat->Nat
 | [b,c],[_,cc]=>c+1+(cc+1)*b
 | _,_=>0
mutual
def bw:Ty->Nat
 | .mk k _ _ ts=>bif k==6 then ex7 (bwl ts) (MT ts) else bif k==3||k==4 then(bwl ts).sum else 0
def bwl:List Ty->List Nat
 | []=>[]
 | t::l=>bw t::bwl l
end
section
variable {BC:Nat->Bool}
theorem J0 {α β:Type} {g:α->Option (List β)}:∀{l:List α} {out r:List β},I6 BC g l out=some r->∀d∈r,d∈out\/∃a∈l,∃s,g a=some s/\d∈s
 | [],out,r,h,d,hd=>by grind[I6]
 | a::l,out,r,h,d,hd=>by
  rw[I6] at h;cases hg:g a with
  | none=>grind
  | some s=>
   rw[hg] at h;simp only at h;cases hb:BC (out++s).length with
   | true=>grind
   | false=>
    rw[hb] at h;rcases J0 h d hd with h' | ⟨a',h1,s',h2,h3⟩
    all_goals grind
theorem dK (n:Nat) (b:Ty):(Al (Hr n b)).length=(Al b).length:=by
 have eg:Hr n=Bh λi=>var (bif decide (0<=i)&&!(i==hole) then i+n else i):=by grind[Hr]
 simp[*,EL]
theorem Kz (n:Nat):Hw n=Bh λi=>var (bif i==-1 then(n:Int) else bif decide (i<0) then i+1 else i):=by grind[Hw]
theorem J1 (n m:Int):JE n m=Bh λi=>var (bif i==n then m else i):=by grind[JE]
theorem L8:rM=Bh λi=>var (-1-i):=rfl
theorem Uh {l:List Br} {w u:Nat} (hl:∀c∈l,c.bounds.length<=w/\(Al c.body).length<=u):∀(f:Nat) (b:Br) (r:List Br),EK BC l f b=some r ->
  ∀d∈r,d.bounds.length<=b.bounds.length+f*w/\(Al d.body).length<=(Al b.body).length+f*u
 | 0,b,r,h,d,hd=>by grind[EK]
 | f+1,b,r,h,d,hd=>by
  rw[EK] at h;have m1:(f+1)*w=f*w+w:=by rw[EO,S8]
  have m2:(f+1)*u=f*u+u:=by rw[EO,S8]
  cases hk:Fh b.body with
  | none=>
   grind
  | some k=>
   rw[hk] at h;rcases J0 h d hd with h' | ⟨c,h1,s,h2,h3⟩
   .grind
   .have:=Uh hl f _ s h2 d h3
    have hc:=hl c h1;have hkl:k<(Al b.body).length:=(BA.1 (Ei hk).1).1
    grind[DV,Py,dK]
theorem dL {RE:Option (List Br)} {bound:Ty} {b:Br} {w u:Nat} (hl:∀l,RE=some l->∀c∈l,c.bounds.length<=w/\(Al c.body).length<=u) {r:List Br} (h:E9 BC RE bound b=some r) :
  ∀d∈r,d.bounds.length<=b.bounds.length+1+(Al b.body).length*w/\(Al d.body).length<=(Al b.body).length*(u+1):=by
 intro d hd;have ec:(Al (Hw b.bounds.length b.body)).length=(Al b.body).length:=by simp[*,Kz,EL]
 have ec2:∀m,(Al (JE b.bounds.length m (Hw b.bounds.length b.body))).length=(Al b.body).length:=λm=>by simp[*,J1,EL]
 have hm:(Al b.body).length<=(Al b.body).length*(u+1):=Nat.le_mul_of_pos_right _ AA;have hm2:(Al b.body).length*(u+1)=(Al b.body).length+(Al b.body).length*u:=AB;unfold E9 at h;cases hI:oI (·==(b.bounds.length:Int)) (Hw b.bounds.length b.body) with
 | true=>
  grind
 | false=>
  rw[hI] at h;simp only[AL] at h;cases hh:Fh (JE b.bounds.length hole (Hw b.bounds.length b.body)) with
  | none=>
   grind
  | some k=>
   rw[hh] at h;cases hb:RE with
   | none=>grind
   | some l=>
    rw[hb] at h;have:=Uh (hl l hb) _ _ r h d hd
    grind
theorem Iu {α β:Type} {g:α->Option β}:∀{ts:List α} {ls:List β},Fb (ts.map g)=some ls->CE (λt l=>g t=some l) ts ls
 | [],ls,h=>by
  simp only[Cd,Fb,BN] at h;subst h
  trivial
 | t::ts,ls,h=>by
  simp only[CP] at h;cases hg:g t with
  | none=>grind[Fb]
  | some a=>
   rw[hg,Fb] at h;cases hr:Fb (ts.map g) with
   | none=>grind
   | some r=>
    rw[hr] at h;simp only[BN] at h;subst h;exact⟨hg,Iu hr⟩
theorem Xk:∀{ls:List (List Br)} {ws us:List Nat} {out r:List Br} {N M:Nat},(CE (λl w=>∀c∈l,c.bounds.length<=w) ls ws)->(CE (λl w=>∀c∈l,(Al c.body).length<=w) ls us) ->
  (∀b∈out,b.bounds.length<=N/\(Al b.body).length<=M/\∃args,b.body=.mk 3 [] 0 args)->Ir BC ls out=some r->∀d∈r,d.bounds.length<=N+ws.sum/\(Al d.body).length<=M+us.sum
 | [],[],[],out,r,N,M,_,_,ho,h,d,hd=>by grind[Ir]
 | [],_::_,_,_,_,_,_,h,_,_,_,_,_=>h.elim
 | [],[],_::_,_,_,_,_,_,h,_,_,_,_=>h.elim
 | _::_,[],_,_,_,_,_,h,_,_,_,_,_=>h.elim
 | _::_,_::_,[],_,_,_,_,_,h,_,_,_,_=>h.elim
 | l::ls,w::ws,u::us,out,r,N,M,⟨hw,hws⟩,⟨hu,hus⟩,ho,h,d,hd=>by
  rw[Ir] at h;cases hb:BC (HN out l).length with
  | true=>grind
  | false=>
   rw[hb] at h;have:=Xk (N:=N+w) (M:=M+u) hws hus ?_ h d hd
   .grind
   .intro b hb'
    unfold HN at hb';obtain⟨b0,h0,h1⟩:=Nc.1 hb';obtain⟨c,h2,rfl⟩:=Cv.1 h1;obtain⟨q1,q2,args,q3⟩:=ho b0 h0;have:=hw c h2;have:=hu c h2;rw[q3];refine⟨AB,?_,_,rfl⟩
    have ea:Bs (args++[Hr b0.bounds.length c.body])=Bs args++Al (Hr b0.bounds.length c.body):=by
     have:∀(l:List Ty) (t:Ty),Bs (l++[t])=Bs l++Al t:=by
      intro l t
      induction l with
      | nil=>simp[Bs]
      | cons a l ih=>grind[Bs]
     grind
    grind[Al,dK]
theorem RH:∀l:List Ty,MT l=l.map cv
 | []=>rfl
 | t::l=>by rw[MT,RH l]; rfl
theorem Fl:∀l:List Ty,bwl l=l.map bw
 | []=>rfl
 | t::l=>by rw[bwl,Fl l]; rfl
theorem CE.Hl {α β γ:Type} {R:α->β->Prop} {S:β->γ->Prop} {g:α->γ}:∀{l:List α} {m:List β},(∀a b,a∈l->R a b->S b (g a))->CE R l m->CE S m (l.map g)
 | [],[],_,_=>trivial
 | a::l,b::m,h,⟨h1,h2⟩=>⟨h a b AD h1,h2.Hl λa b ha=>h a b (FP _ ha)⟩
 | [],_::_,_,h=>h.elim
 | _::_,[],_,h=>h.elim
theorem CE.LP {α β:Type} {R:α->β->Prop}:∀{l:List α} {m:List β},CE R l m->∀b∈m,∃a∈l,R a b
 | [],[],_,b,h=>by cases h
 | a::l,c::m,⟨h1,h2⟩,b,h=>by
  rcases A3.1 h with rfl|h
  .grind
  .obtain⟨a',h3,h4⟩:=h2.LP b h
   grind
 | [],_::_,h,_,_=>h.elim
 | _::_,[],h,_,_=>h.elim
theorem Dz:∀{l:List Nat} {n:Nat},n∈l->n<=l.sum
 | a::l,n,h=>by
  rw[Ln];rcases A3.1 h with rfl|h
  .omega
  .have:=Dz h
   omega
theorem DC:∀(f:Nat) (t:Ty) (l:List Br),DK BC f t=some l->∀c∈l,c.bounds.length<=bw t/\(Al c.body).length<=cv t
 | 0,t,l,h,c,hc=>by grind[DK]
 | f+1,.mk k n i ts,l,h,c,hc=>by
  rw[DK] at h;rw[bw,cv]
  by_cases k0:k=0
  .grind[Al]
  have b0:(k==0)=false:=AB;rw[b0] at h;simp only[AL] at h;cases b25:(k==2||k==5) with
  | true=>
   rw[b25] at h;simp only[AN,BN] at h;subst h;rw[Dl.1 hc];have b6:(k==6)=false:=AB;have b34:(k==3||k==4)=false:=AB;rw[b6,b34];simp only[AL,L8,EL,Bt,B6,AY,true_and]
   grind[Al]
  | false=>
   rw[b25] at h;simp only[AL] at h
   by_cases k3:k=3
   .subst k3
    simp only[CZ,AN] at h;cases hs:Fb (ts.map (DK BC f)) with
    | none=>grind
    | some ls=>
     rw[hs] at h;simp only at h;have ha:=Iu hs;cases he:ls.any List.isEmpty with
     | true=>grind
     | false=>
      rw[he] at h;have q1:CE (λl w=>∀c∈l,c.bounds.length<=w) ls (ts.map bw):=ha.Hl λt l _ hg c hc=>(DC f t l hg c hc).1
      have q2:CE (λl w=>∀c∈l,(Al c.body).length<=w) ls (ts.map cv):=ha.Hl λt l _ hg c hc=>(DC f t l hg c hc).2
      have:=Xk (N:=0) (M:=0) q1 q2 (λb hb=>by simp_all[Al,Bs]) h c hc
      grind[Fl,RH]
   have b3:(k==3)=false:=AB;rw[b3] at h;simp only[AL] at h
   by_cases k4:k=4
   .subst k4
    simp only[CZ,AN] at h;cases hs:Fb (ts.map (DK BC f)) with
    | none=>grind
    | some ls=>
     rw[hs] at h;simp only at h;have ha:=Iu hs;cases hb:BC ls.flatten.length with
     | true=>grind
     | false=>
      rw[hb] at h;simp only[AL,BN] at h;subst h;obtain⟨l',h1,h2⟩:=TB.1 hc;obtain⟨t,h3,h4⟩:=ha.LP l' h1;have:=DC f t l' h4 c h2;have s1:bw t<=(bwl ts).sum:=by simp[*,Fl,Dz,Ed]
      have s2:cv t<=(MT ts).sum:=by simp[*,RH,Dz,Ed]
      grind
   have b4:(k==4)=false:=AB;rw[b4] at h;simp only[AL] at h
   by_cases k6:k=6
   .subst k6
    simp only[CZ,AN] at h ⊢;rcases ts with _|⟨b,_|⟨body,_|⟨z,r⟩⟩⟩
    .cases h; grind
    .cases h; grind
    .simp only[dA] at h
     cases hb:DK BC f body with
     | none=>grind
     | some l0=>
      rw[hb] at h;simp only at h;simp only[MT,bwl,ex6,ex7];rcases J0 h c hc with h' | ⟨a,h1,s,h2,h3⟩
      .grind
      .have i0:=DC f body l0 hb a h1
       have i1:=dL (λl hl c hc=>DC f b l hl c hc) h2 c h3;have m1:(Al a.body).length*bw b<=cv body*bw b:=B5 _ i0.2;have m2:(Al a.body).length*(cv b+1)<=cv body*(cv b+1):=B5 _ i0.2
       grind
    .cases h; grind
   grind
end
section
variable {BC:Nat->Bool}
theorem JX {φ σ:List Nat} {v:Nat} {i:Int} (h0:0<=i) (h1:i<φ.length) (hs:φ.length<=hole):∃x,φ[i.toNat]?=some x/\x∈φ/\Pz φ σ v i=x:=by grind[Pz]
theorem ABm {RE:Option (List Br)} {ex:List Ty->F9} {ER:Ty} {v:Nat} {σ:List Nat} {w:Nat} (hσ:v∉σ)
  (hex:∀B,MS (λB' c q=>∃ψ,Rl false 0 B' B.length B'.length [] c q ψ) B RE (ex B)) (hw:∀r,RE=some r->∀c∈r,c.bounds.length<=w)
  {b:Br} {p:Ty} {B:List Ty} {φ:List Nat} (H:Rl false 0 B (v+1) B.length (v::σ) b p φ) (hv:B[v]?=some ER) (hs:φ.length+1+(Al b.body).length*w<hole) :
  MS (λB' b p=>∃φ,Rl false 0 B' v B'.length σ b p φ) B (E9 BC RE ER b) (B8 BC ex v p B):=by
 have hvl:=(BA.1 hv).1;have hφ:(φ.length:Int)+1<hole:=AB;obtain⟨g1,hg1⟩:∃g1:Int->Int,g1=λi=>bif i==-1 then(φ.length:Int) else bif decide (i<0) then i+1 else i:=⟨_,rfl⟩
 obtain⟨b1,Qq⟩:∃b1,b1=Hw b.bounds.length b.body:=⟨_,rfl⟩;have hbi:b1=Bh (λi=>var (g1 i)) b.body:=by rw[Qq,Kz,H.len,hg1]
 have ABn:bd b1=true:=by rw[hbi]; exact RF _ _ H.bd
 have AZb:(Al b1).length=(Al b.body).length:=by rw[hbi,EL,Bt]
 have hv1:∀i∈vis b1,(0<=i/\i<φ.length+1)\/(i<0/\-i<=σ.length):=by
  rw[hbi,L7];intro j hj;obtain⟨i,hi,rfl⟩:=Cv.1 hj;rw[hg1];rcases H.vis i hi with h|h|h
  all_goals grind
 have hnv:v∉φ:=λhm=>by have:=(H.O6 v hm).1; omega
 have hφ':((φ++[v]).length:Int)<=hole:=AB
 have e1:p=tr (Pz (φ++[v]) σ 0) b1:=by
  rw[H.eq,hbi,tr,tr,IK];refine Dg _ λi hi=>?_
  rcases H.vis i hi with h|h|h
  .have e1:g1 i=i:=by grind
   rw[e1,P0 (.inl h) H.small];obtain⟨x,hx,_,e3⟩:=JX (σ:=v::σ) (v:=0) h.1 h.2 AA;obtain⟨y,hy,_,e4⟩:=JX (σ:=σ) (v:=0) h.1 h.2 AA
   grind
  .by_cases e:i=-1
   .subst e
    have e1:g1 (-1)=(φ.length:Int):=AB;obtain⟨y,hy,_,e4⟩:=JX (φ:=φ++[v]) (σ:=σ) (v:=0) (i:=(φ.length:Int)) AA AB hφ'
    simp_all[Ig]
   .have e1:g1 i=i+1:=by grind
    rw[e1,Ig h.1,Ig AA];have e5:(-1-i).toNat=(-1-(i+1)).toNat+1:=AA;simp[*]
  grind
 have key:∀i∈vis b1,(Pz (φ++[v]) σ 0 i==v)=(i==(φ.length:Int)):=by
  intro i hi;rw[PE,Gx,Gx];rcases hv1 i hi with h|h
  .obtain⟨y,hy,_,e4⟩:=JX (φ:=φ++[v]) (σ:=σ) (v:=0) h.1 AB hφ'
   grind
  .rw[Ig h.1]
   obtain⟨x,hx⟩:∃x,σ[(-1-i).toNat]?=some x:=⟨_,Ay AA⟩;simp only[List.getD,hx,JI];constructor
   .rintro rfl
    exact absurd (A5 hx) hσ
   omega
 have Z1:Cw v true p=oI (·==(b.bounds.length:Int)) b1:=by
  rw[e1,TT _ _ _ ABn,H.len]
  grind[Pv]
 unfold E9 B8;rw[Z1,<-Qq];cases hI:oI (·==(b.bounds.length:Int)) b1 with
 | true=>
  refine And.intro (C4 _) (And.intro ?_ Ai);refine⟨φ++[v],?_⟩;refine { nd:=?_,O6:=?_,len:=?_,LO:=?_,small:=?_,bd:=ABn,vis:=?_,eq:=e1 }
  .rw[ZB]
   refine⟨H.nd,AD,λx hx y hy=>?_⟩
   grind
  .intro x hx
   rcases B7.1 hx with hx|hx
   .have:=H.O6 x hx
    omega
   grind
  .simp[H.len]
  .intro i x hx
   by_cases hi:i<φ.length
   .rw[CX hi] at hx
    rw[CX (by rw[H.len]; omega)];exact H.LO i x hx
   .rw[Ey AA] at hx
    rw[Ey (by rw[H.len]; omega),H.len]
    grind
  all_goals grind
 | false=>
  obtain⟨g2,hg2⟩:∃g2:Int->Int,g2=λi=>bif i==(φ.length:Int) then hole else i:=⟨_,rfl⟩
  have g2t:g2 (φ.length:Int)=hole:=AB;have g2f:∀i,i≠(φ.length:Int)->g2 i=i:=AB;obtain⟨b2,Mk⟩:∃b2,b2=JE b.bounds.length hole b1:=⟨_,rfl⟩;have hre:b2=Bh (λi=>var (g2 i)) b1:=by rw[Mk,J1,H.len,hg2]
  have APU:bd b2=true:=by rw[hre]; exact RF _ _ ABn
  have hne:∀i∈vis b1,i≠hole:=AB;have hg2v:∀i∈vis b1,(g2 i==hole)=(i==(φ.length:Int)):=AB
  have hv2:∀i∈vis b2,(0<=i/\i<φ.length)\/(i<0/\-i<=σ.length)\/(true=true/\i=hole):=by
   rw[hre,L7]
   grind
  have e2:p=tr (Pz φ σ v) b2:=by
   rw[e1,hre,tr,tr,IK];refine Dg _ λi hi=>?_
   by_cases hb:i=(φ.length:Int)
   .grind[M5]
   .rw[g2f i hb]
    rcases hv1 i hi with h|h
    .rw[P0 (.inl ⟨h.1,AA⟩) H.small]
     obtain⟨x,hx,_,e3⟩:=JX (φ:=φ) (σ:=σ) (v:=0) (i:=i) h.1 AA AA;obtain⟨y,hy,_,e4⟩:=JX (φ:=φ) (σ:=σ) (v:=v) (i:=i) h.1 AA AA
     grind
    grind[Ig]
  have hH2:Rl true v B (v+1) B.length σ ⟨b.bounds,b2⟩ p φ:=
   {nd:=H.nd,O6:=H.O6,len:=H.len,LO:=H.LO,small:=H.small,bd:=APU,vis:=hv2,eq:=e2 }
  have hI2:oI (·==hole) b2=false:=by
   rw[hre,jS _ _ _ ABn,<-hI,H.len]
   grind[Pv]
  have hcl2:(Al b2).length=(Al b.body).length:=by rw[hre,EL,Bt,AZb]
  have RI:Bb (·==(v:Int)) p=(Al b2).count hole:=by
   rw[e2,jT _ _ _ APU,List.count];refine List.countP_congr λi hi=>?_
   have hvi:=Pu _ i hi
   have:(Pz φ σ v i=v)<->i=hole:=by
    constructor
    .intro h
     by_cases hh:i=hole
     .omega
     .exact absurd h (hH2.wL (.inl (S9 v)) hσ hvi hh)
    grind[M5]
   grind
  have hle:(Al b2).count hole<=(Al b.body).length:=AB
  have hmul:(((Al b2).count hole:Nat):Int)*w<=((Al b.body).length:Int)*w:=by
   have:=B5 w hle;omega
  have step:=fill_eq (BC:=BC) (l:=RE) (ex:=ex) (lo:=v) (AY v) hσ hex hw ((Al b2).count hole) (Al b.body).length ⟨b.bounds,b2⟩ p B φ hH2 hvl hI2 rfl hle AA;simp only[AL];rw[<-Mk,RI];cases hh:Fh b2 with
  | none=>
   have hz:(Al b2).count hole=0:=by grind[List.count_eq_zero,Fh]
   rw[hz] at step ⊢;exact step
  | some k=>
   have hz:(Al b2).count hole≠0:=by
    rw[ne_eq,Nb];intro hm;exact hm (A5 (Ei hh).1)
   obtain⟨c,hc⟩:∃c,(Al b2).count hole=c+1:=⟨(Al b2).count hole-1,AA⟩;rw[hc] at step ⊢
   assumption
end
theorem Ki {k i:Int} {n:List UInt8} {ts:List Ty} (h:root k n i ts=true) :
  (k=0/\n=[]/\i=0/\ts=[])\/(k=1/\n=[]/\i=0/\ts=[])\/k=2\/(k=3/\n=[]/\i=0)\/(k=4/\n=[]/\i=0/\ts≠[])\/(k=5/\n=[]/\ts=[]/\0<=i)\/(k=6/\n=[]/\i=0/\∃b body,ts=[b,body]/\CB 0 b=true):=by
 unfold root at h;simp only[AI,Dk,Gx] at h;obtain⟨⟨h1,h2⟩,h3⟩:=h;unfold shape at h3
 by_cases k0:k=0
 .grind
 by_cases k1:k=1
 .grind
 by_cases k2:k=2
 .omega
 by_cases k3:k=3
 .grind
 by_cases k4:k=4
 .grind
 by_cases k5:k=5
 .grind
 by_cases k6:k=6
 .subst k6
  simp at h1 h2 h3;refine .inr (.inr (.inr (.inr (.inr (.inr ⟨rfl,h1,h2,?_⟩)))));rcases ts with _|⟨b,_|⟨c,_|⟨d,l⟩⟩⟩ <;> simp at h3
  exact⟨_,_,rfl,h3⟩
 grind
theorem CE.of_map {α β γ:Type} {R:α->γ->Prop} {g:β->γ}:∀{l:List α} {m:List β},CE (λa b=>R a (g b)) l m->CE R l (m.map g)
 | [],[],_=>trivial
 | _::_,_::_,⟨h1,h2⟩=>⟨h1,h2.of_map⟩
 | [],_::_,h=>h.elim
 | _::_,[],h=>h.elim
section
variable {BC:Nat->Bool}
def CR (n:Nat):Prop:=(n:Int)<hole
def wQ (BC:Nat->Bool) (f:Nat) (σ:List Nat) (t:Ty):Prop:=∀B,(∀x∈σ,x<B.length)->MS (λB' b p=>∃φ,Rl false 0 B' B.length B'.length σ b p φ) B (DK BC f t) (BE BC f (inst σ 0 t) B)
def Ch (B':List Ty) (σ:List Nat):Nat->List Nat->List (List Br)->List (List Ty)->Prop
 | lo,[],[],[]=>lo<=B'.length
 | lo,w::ws,l::ls,ps::rs=>(∀b∈l,b.bounds.length<=w)/\∃mid,lo<=mid/\mid<=B'.length/\CE (λb p=>∃φ,Rl false 0 B' lo mid σ b p φ) l ps/\Ch B' σ mid ws ls rs
 | _,_,_,_=>False
theorem FB {k:Int} (h6:k≠6) (σ:List Nat):∀(l:List Ty) (j:Nat),Di σ 0 k j l=l.map (inst σ 0)
 | [],_=>rfl
 | t::l,j=>by
  have b6:(k==6)=false:=AB;have hb:ER k j=0:=by simp[ER,b6]
  rw[Di,hb,Gt,FB h6 σ l (j+1)];rfl
theorem mR {f:Nat} {σ:List Nat}:∀(ts:List Ty) (out:List (List Ty)) (B:List Ty),(∀x∈σ,x<B.length)->(∀t∈ts,wQ BC f σ t) ->
  match Fb (ts.map (DK BC f)),FA (BE BC f) (ts.map (inst σ 0)) out B with
  | none,(none,B')=>B<+:B'
  | some ls,(some lps,B')=>∃rs,lps=out++rs/\B<+:B'/\Ch B' σ B.length (ts.map bw) ls rs
  | _,_=>False
 | [],out,B,_,_=>by
  simp only[Cd,Fb,FA];exact⟨[],AD,C4 _,AY _⟩
 | t::ts,out,B,hσ,h=>by
  have h0:=h t AD B hσ;simp only[CP];rw[FA];cases hr:DK BC f t with
  | none=>
   rw[hr] at h0;rcases he:BE BC f (inst σ 0 t) B with ⟨r',B'⟩
   rw[he] at h0;cases r' with
   | some _=>exact h0.elim
   | none=>exact h0
  | some l=>
   rw[hr] at h0;rcases he:BE BC f (inst σ 0 t) B with ⟨r',B'⟩
   rw[he] at h0;cases r' with
   | none=>exact h0.elim
   | some ps=>
    obtain⟨hp,hall⟩:=h0;have ih:=mR ts (out++[ps]) B' (λx hx=>Fo (hσ x hx) (GZ hp)) (λt ht=>h t (FP _ ht));rw[Fb];simp only;revert ih;cases Fb (ts.map (DK BC f)) <;> rcases FA (BE BC f) (ts.map (inst σ 0)) (out++[ps]) B' with ⟨r2,B2⟩ <;> cases r2 <;> intro ih
    .grind
    .omega
    .omega
    .obtain⟨rs,h1,h2,h3⟩:=ih
     refine⟨ps::rs,AB,Ec hp h2,?_⟩;refine⟨λb hb=>(DC f t l hr b hb).1,B'.length,GZ hp,GZ h2,?_,h3⟩;exact hall.mono λa b ⟨φ,hφ⟩=>⟨φ,hφ.mono h2 (AY _) (AY _) (AY _)⟩
theorem Xl:∀(l:List Ty) (t:Ty),Bs (l++[t])=Bs l++Al t
 | [],t=>by simp[Bs]
 | a::l,t=>by simp[Bs,Xl l t]
theorem dM:∀(l:List Ty) (t:Ty),DJ (l++[t])=DJ l++vis t
 | [],t=>by simp[DJ]
 | a::l,t=>by simp[DJ,dM l t]
theorem mS:∀(l:List Ty) (t:Ty),M4 (l++[t])=(M4 l&&bd t)
 | [],t=>by simp[M4]
 | a::l,t=>by simp[M4,mS l t,Lo]
theorem Xm (f:Int->Ty):∀(l:List Ty) (t:Ty),Bq f (l++[t])=Bq f l++[Bh f t]
 | [],t=>by rfl
 | a::l,t=>by simp[Bq,Xm f l t]
theorem ABp (φ:Int->Nat) (l:List Ty) (t:Ty):Uc φ (l++[t])=Uc φ l++[tr φ t]:=Xm _ l t
theorem tr3 (φ:Int->Nat) (n:List UInt8) (i:Int) (l:List Ty):tr φ (.mk 3 n i l)=.mk 3 n i (Uc φ l):=AR
theorem APV (n:List UInt8) (i:Int) (l:List Ty):vis (.mk 3 n i l)=DJ l:=AR
theorem bd3 (n:List UInt8) (i:Int) (l:List Ty):bd (.mk 3 n i l)=M4 l:=AR
def TRl (B':List Ty) (σ:List Nat) (wR mid N:Nat) (b:Br) (args:List Ty):Prop:=∃φ bs,Rl false 0 B' wR mid σ b (.mk 3 [] 0 args) φ/\b.body=.mk 3 [] 0 bs/\φ.length<=N
theorem mT {B':List Ty} {σ:List Nat} {wR lo mid N w:Nat} (hlo:wR<=lo) (hmid:lo<=mid) (hm:mid<=B'.length) (hs:((N+w:Nat):Int)<hole):∀{out:List Br} {Z2:List (List Ty)} {l:List Br} {ps:List Ty},CE (TRl B' σ wR lo N) out Z2 ->
  (∀b∈l,b.bounds.length<=w)->CE (λb p=>∃φ,Rl false 0 B' lo mid σ b p φ) l ps->CE (TRl B' σ wR mid (N+w)) (HN out l) (Z2.flatMap λp=>ps.map λx=>p++[x])
 | [],[],_,_,_,_,_=>trivial
 | [],_::_,_,_,h,_,_=>h.elim
 | _::_,[],_,_,h,_,_=>h.elim
 | b::out,args::Z2,l,ps,⟨h1,h2⟩,hw,h=>by
  have ih:=mT hlo hmid hm hs h2 hw h
  have one:CE (TRl B' σ wR mid (N+w)) (l.map λc=>(⟨b.bounds++c.bounds,match b.body with
    | .mk _ _ _ args=>.mk 3 [] 0 (args++[Hr b.bounds.length c.body])⟩:Br)) (ps.map λx=>args++[x]):=by
   obtain⟨φ,bs,H,hb,hN⟩:=h1;clear ih;revert h hw;revert ps
   induction l with
   | nil=>intro ps _ h; cases ps with
    | nil=>trivial
    | cons _ _=>exact h.elim
   | cons c l ihl=>
    intro ps hw h;cases ps with
    | nil=>exact h.elim
    | cons q ps=>
     refine And.intro ?_ (ihl ps (λb hb=>hw b (FP _ hb)) h.2);obtain⟨ψ,Hc⟩:=h.1
     have hψ:ψ.length<=w:=by
      have:=hw c AD;rw[Hc.len] at this;omega
     have Xj:φ.length+ψ.length<hole:=AA;obtain⟨gs,hgs⟩:∃gs:Int->Int,gs=λi=>bif decide (0<=i)&&!(i==hole) then i+φ.length else i:=⟨_,rfl⟩
     have eg:Hr φ.length=Bh λi=>var (gs i):=by grind[Hr]
     have gn:∀i:Int,0<=i->i<ψ.length->gs i=i+φ.length:=AB;have gm:∀i:Int,i<0->gs i=i:=AB
     have e1:q=tr (Pz (φ++ψ) σ 0) (Hr φ.length c.body):=by
      rw[Hc.eq,eg,tr,tr,IK];refine Dg _ λi hi=>?_
      rcases Hc.vis i hi with h|h|h
      .rw[gn i h.1 h.2]
       obtain⟨x,hx,_⟩:=jV h.1 h.2;obtain⟨y,hy,_,e4⟩:=JX (φ:=ψ) (σ:=σ) (v:=0) h.1 h.2 AA;obtain⟨z,hz,_,e5⟩:=JX (φ:=φ++ψ) (σ:=σ) (v:=0) (i:=i+φ.length) AA AB AB;rw[e4,e5];have e6:(i+(φ.length:Int)).toNat=φ.length+i.toNat:=AA
       simp_all
      all_goals grind[Ig]
     have e2:(.mk 3 [] 0 args:Ty)=tr (Pz (φ++ψ) σ 0) b.body:=by
      rw[H.eq];refine Dg _ λi hi=>?_
      rw[P0 _ H.small];rcases H.vis i hi with h' | h' | h'
      all_goals omega
     have AZd:M4 bs=true:=by rw[<-bd3 [] 0 bs,<-hb]; exact H.bd
     have e3:args=Uc (Pz (φ++ψ) σ 0) bs:=by simp_all[tr3]
     refine⟨φ++ψ,bs++[Hr φ.length c.body],?_,?_,AB⟩
     .have eb:(match b.body with|.mk _ _ _ args=>.mk 3 [] 0 (args++[Hr b.bounds.length c.body]):Ty)=.mk 3 [] 0 (bs++[Hr φ.length c.body]):=by rw[hb,H.len]
      refine { nd:=?_,O6:=?_,len:=?_,LO:=?_,small:=?_,bd:=?_,vis:=?_,eq:=?_ }
      .rw[ZB]
       refine⟨H.nd,Hc.nd,λx hx y hy=>?_⟩;have:=(H.O6 x hx).2;have:=(Hc.O6 y hy).1;omega
      .intro x hx
       rcases B7.1 hx with hx|hx
       .have:=H.O6 x hx
        omega
       .have:=Hc.O6 x hx
        omega
      .simp only[Bo,H.len,Hc.len]
      .intro i x hx
       show B'[x]?=(b.bounds++c.bounds)[i]?
       by_cases hi:i<φ.length
       .rw[CX hi] at hx
        rw[CX (by rw[H.len]; omega)];exact H.LO i x hx
       .rw[Ey AA] at hx
        rw[Ey (by rw[H.len]; omega),H.len];exact Hc.LO _ x hx
      .grind
      .show bd (match b.body with|.mk _ _ _ args=>.mk 3 [] 0 (args++[Hr b.bounds.length c.body]):Ty)=true
       rw[eb,bd3,mS,AZd,eg,RF _ _ Hc.bd];rfl
      .intro i hi
       have hi':i∈vis (match b.body with|.mk _ _ _ args=>.mk 3 [] 0 (args++[Hr b.bounds.length c.body]):Ty):=hi;rw[eb,APV,dM,B7] at hi';simp only[Bo];rcases hi' with hi' | hi'
       .have hv:i∈vis b.body:=by grind[APV]
        rcases H.vis i hv with h' | h' | h'
        all_goals grind
       .rw[eg,L7] at hi'
        obtain⟨j,hj,rfl⟩:=Cv.1 hi';rcases Hc.vis j hj with h' | h' | h'
        all_goals grind
      simp_all[tr3,ABp]
     .show(match b.body with|.mk _ _ _ args=>.mk 3 [] 0 (args++[Hr b.bounds.length c.body]):Ty)=_
      rw[hb,H.len]
  unfold HN at ih ⊢;rw[List.flatMap_cons,List.flatMap_cons];exact one.append ih
theorem ABq {B':List Ty} {σ:List Nat} {wR:Nat} (ls:List (List Br)):∀{ws:List Nat} {rs:List (List Ty)} {lo N:Nat} {out:List Br} {Z2:List (List Ty)},wR<=lo->Ch B' σ lo ws ls rs->CR (N+ws.sum)->CE (TRl B' σ wR lo N) out Z2 ->
  match Ir BC ls out,Dy BC rs Z2 with
  | none,none=>True
  | some r,some all=>CE (λb args=>∃φ,Rl false 0 B' wR B'.length σ b (.mk 3 [] 0 args) φ) r all
  | _,_=>False:=by
 induction ls with
 | nil=>
  intro ws rs lo N out Z2 hlo hc hs h;rcases ws with _|⟨w,ws⟩
  .rcases rs with _|⟨ps,rs⟩
   .rw[Ir,Dy]
    exact h.mono λa b ⟨φ,bs,H,_,_⟩=>⟨φ,H.mono (C4 _) hc (AY _) hc⟩
   .exact hc.elim
  .exact hc.elim
 | cons l ls ih=>
  intro ws rs lo N out Z2 hlo hc hs h;rcases ws with _|⟨w,ws⟩
  .exact hc.elim
  rcases rs with _|⟨ps,rs⟩
  .exact hc.elim
  obtain⟨hw,mid,h1,h2,h3,h4⟩:=hc;unfold CR at hs;rw[Ln] at hs;have hp:=mT hlo h1 h2 AA h hw h3;rw[Ir,Dy,<-hp.length];cases BC (HN out l).length with
  | true=>simp
  | false=>exact ih (BM hlo h1) h4 (by grind[CR]) hp
theorem dN {B':List Ty} {σ:List Nat}:∀{ws:List Nat} {ls:List (List Br)} {rs:List (List Ty)} {lo:Nat},Ch B' σ lo ws ls rs->ls.any List.isEmpty=rs.any List.isEmpty
 | [],[],[],_,_=>rfl
 | w::ws,l::ls,ps::rs,lo,⟨_,mid,_,_,h3,h4⟩=>by
  have hl:=h3.length;rw[PI,PI,dN h4]
  grind
 | [],_::_,_,_,h=>h.elim
 | [],[],_::_,_,h=>h.elim
 | _::_,[],_,_,h=>h.elim
 | _::_,_::_,[],_,h=>h.elim
theorem Z3 {f:Nat} {σ:List Nat}:∀(ts:List Ty) (out:List Ty) (ok:Bool) (B:List Ty),(∀x∈σ,x<B.length)->(∀t∈ts,wQ BC f σ t) ->
  match Fb (ts.map (DK BC f)),HV (BE BC f) (ts.map (inst σ 0)) out ok B with
  | none,((_,ok'),B')=>B<+:B'/\ok'=false
  | some ls,((o,ok'),B')=>B<+:B'/\ok'=ok/\∃ps,o=out++ps/\CE (λb p=>∃φ,Rl false 0 B' B.length B'.length σ b p φ) ls.flatten ps
 | [],out,ok,B,_,_=>by
  rw[Cd,Cd,Fb,HV];exact⟨C4 _,rfl,[],AD,Ai⟩
 | t::ts,out,ok,B,hσ,h=>by
  have h0:=h t AD B hσ;simp only[CP];rw[HV];cases hr:DK BC f t with
  | none=>
   rw[hr] at h0;rcases he:BE BC f (inst σ 0 t) B with ⟨r',B'⟩
   rw[he] at h0;cases r' with
   | some _=>exact h0.elim
   | none=>
    have hp:B<+:B':=h0;have ih:=Z3 ts out false B' (λx hx=>Fo (hσ x hx) (GZ hp)) (λt ht=>h t (FP _ ht))
    grind[Fb]
  | some l=>
   rw[hr] at h0;rcases he:BE BC f (inst σ 0 t) B with ⟨r',B'⟩
   rw[he] at h0;cases r' with
   | none=>exact h0.elim
   | some ps=>
    obtain⟨hp,hall⟩:=h0;have ih:=Z3 ts (out++ps) ok B' (λx hx=>Fo (hσ x hx) (GZ hp)) (λt ht=>h t (FP _ ht));rw[Fb];simp only;revert ih;cases Fb (ts.map (DK BC f)) <;> rcases HV (BE BC f) (ts.map (inst σ 0)) (out++ps) ok B' with ⟨⟨o2,ok2⟩,B2⟩ <;> intro ih
    .grind
    .obtain⟨h1,h2,qs,h3,h4⟩:=ih
     refine⟨Ec hp h1,h2,ps++qs,AB,?_⟩;rw[NV];refine CE.append ?_ ?_
     .exact hall.mono λa b ⟨φ,hφ⟩=>⟨φ,hφ.mono h1 (AY _) (AY _) (GZ h1)⟩
     .exact h4.mono λa b ⟨φ,hφ⟩=>⟨φ,hφ.mono (C4 _) (AY _) (GZ hp) (AY _)⟩
theorem Fj {u:Nat} {k:Int} (h6:k≠6):∀{l:List Ty} {j:Nat} {t:Ty},EF u k j l=true->t∈l->CB u t=true
 | a::l,j,t,h,ht=>by
  have b6:(k==6)=false:=AB;have hb:ER k j=0:=by simp[ER,b6]
  simp only[EF,AI,hb,Gt] at h;rcases A3.1 ht with rfl|ht
  .grind
  .exact Fj h6 h.2 ht
theorem Bz:∀{l:List Ty} {a:Ty},A9 l=true->a∈l->valid a=true
 | b::l,a,h1,h=>by
  simp only[A9,AI] at h1;rcases A3.1 h with rfl|h
  .grind
  .exact Bz h1.2 h
theorem jW (hb0:BC 0=false) (Qq:BC 1=false):∀(f:Nat) (t:Ty) (σ:List Nat),valid t=true->CB σ.length t=true->σ.Nodup->CR (bw t)->wQ BC f σ t:=by
 intro f
 induction f with
 | zero=>
  intro t σ _ _ _ _ B _;rw[DK,BE];exact C4 _
 | succ f Z6=>
  intro t σ hv hc hn hs B hB;obtain⟨k,n,i,ts⟩:=t;have Lh:=hv;simp only[valid,AI] at hv;have leaf:∀{p:Ty} {b:Br},Rl false 0 B B.length B.length σ b p []->MS (λB' b p=>∃φ,Rl false 0 B' B.length B'.length σ b p φ) B (some [b]) (some [p],B):=λH=>⟨C4 _,⟨[],H⟩,Ai⟩
  rcases Ki hv.1 with ⟨rfl,rfl,rfl,rfl⟩|⟨rfl,rfl,rfl,rfl⟩|rfl|⟨rfl,rfl,rfl⟩|⟨rfl,rfl,rfl,hne⟩|⟨rfl,rfl,rfl,h0⟩|⟨rfl,rfl,rfl,b,body,rfl,hcb⟩
  .rw[DK,inst,Di]
   simp only[show((0:Int)==5)=false from rfl,AL];rw[BE];simp only[CZ,Dv,AN,Qq,AL];refine leaf { nd:=GM,O6:=λx hx=>AB,len:=rfl,LO:=λi x hx=>AB,small:=(by simp[hole]),bd:=?_,vis:=λi hi=>(by grind[vis]),eq:=?_ }
   all_goals rfl
  .rw[DK,inst,Di]
   simp only[show((1:Int)==5)=false from rfl,AL];rw[BE];simp only[show((1:Int)==0)=false from rfl,show((1:Int)==2)=false from rfl,show((1:Int)==7)=false from rfl,show((1:Int)==3)=false from rfl,show((1:Int)==4)=false from rfl,show((1:Int)==5)=false from rfl,show((1:Int)==6)=false from rfl,KU,AL,hb0];exact⟨C4 _,Ai⟩
  .have hp:plain (.mk 2 n i ts)=true:=by grind[plain,SD]
   obtain⟨q1,q2⟩:=Oe σ _ Lh hp hc;have e:BE BC (f+1) (inst σ 0 (.mk 2 n i ts)) B=(some [inst σ 0 (.mk 2 n i ts)],B):=by grind[inst,BE]
   rw[DK,e];simp only[show((2:Int)==0)=false from rfl,CZ,Dv,AN,AL];have hb:bd (.mk 2 n i ts)=true:=Ba;refine leaf { nd:=GM,O6:=λx hx=>AB,len:=rfl,LO:=λi x hx=>AB,small:=(by simp[hole]),bd:=?_,vis:=λj hj=>?_,eq:=?_ }
   .simp[*,L8,RF]
   .rw[L8,L7] at hj
    obtain⟨j',hj',rfl⟩:=Cv.1 hj;have:=RG _ _ Lh hc j' hj';omega
   .rw[q2,L8,tr,tr,IK]
    refine Dg _ λj hj=>?_
    have:=RG _ _ Lh hc j hj
    grind[Ig]
  .have E6:=Dd hc AK
   have ih:∀t∈ts,wQ BC f σ t:=λt ht=>Z6 t σ (Bz hv.2 ht) (Fj AK E6 ht) hn (by
    have:bw t<=(bwl ts).sum:=by simp[*,Fl,Dz,Ed]
    grind[CR,bw])
   have hq:=mR (BC:=BC) ts [] B hB ih;rw[DK,inst];simp only[show((3:Int)==5)=false from rfl,AL];rw[BE,FB AK];simp only[show((3:Int)==0)=false from rfl,show((3:Int)==2)=false from rfl,show((3:Int)==7)=false from rfl,show((3:Int)==4)=false from rfl,show((3:Int)==5)=false from rfl,KU,AL,CZ,AN];cases ha:Fb (ts.map (DK BC f)) with
   | none=>
    rw[ha] at hq;rcases he:FA (BE BC f) (ts.map (inst σ 0)) [] B with ⟨r',B'⟩
    rw[he] at hq;cases r' with
    | some _=>grind
    | none=>exact hq
   | some ls=>
    rw[ha] at hq;rcases he:FA (BE BC f) (ts.map (inst σ 0)) [] B with ⟨r',B'⟩
    rw[he] at hq;cases r' with
    | none=>grind
    | some lps=>
     obtain⟨rs,h1,h2,h3⟩:=hq;simp only[Cc] at h1;subst h1;simp only;rw[<-dN h3];cases hem:ls.any List.isEmpty with
     | true=>exact⟨h2,Ai⟩
     | false=>
      simp only[AL];have hw:CR (0+(ts.map bw).sum):=by grind[bw,Fl]
      have hcb:=ABq (BC:=BC) ls (wR:=B.length) (out:=[⟨[],.mk 3 [] 0 []⟩]) (Z2:=[[]]) (AY _) h3 hw (by
       refine And.intro ?_ Ai;refine⟨[],[],{ nd:=GM,O6:=λx hx=>AB,len:=rfl,LO:=λi x hx=>AB,small:=(by simp[hole]),bd:=?_,vis:=λi hi=>(by grind[vis,DJ]),eq:=?_ },rfl,AY _⟩
       all_goals rfl)
      cases ht:Ir BC ls [⟨[],.mk 3 [] 0 []⟩] with
      | none=>
       rw[ht] at hcb;cases hcc:Dy BC lps [[]] with
       | none=>exact h2
       | some _=>grind
      | some r=>
       rw[ht] at hcb;cases hcc:Dy BC lps [[]] with
       | none=>grind
       | some all=>
        rw[hcc] at hcb
        have Og:BC all.length=false:=by
         have gen:∀(rs:List (List Ty)) (out:List (List Ty)) (all:List (List Ty)),BC out.length=false->Dy BC rs out=some all->BC all.length=false:=by
          intro rs
          induction rs with
          | nil=>grind[Dy]
          | cons ps rs ih=>
           grind[Dy]
         grind
        simp only[Og,AL];refine⟨h2,?_⟩
        grind[CE.of_map]
  .have E6:=Dd hc AK
   have ih:∀t∈ts,wQ BC f σ t:=λt ht=>Z6 t σ (Bz hv.2 ht) (Fj AK E6 ht) hn (by
    have:bw t<=(bwl ts).sum:=by simp[*,Fl,Dz,Ed]
    grind[CR,bw])
   have hq:=Z3 (BC:=BC) ts [] true B hB ih;rw[DK,inst];simp only[show((4:Int)==5)=false from rfl,AL];rw[BE,FB AK];simp only[show((4:Int)==0)=false from rfl,show((4:Int)==2)=false from rfl,show((4:Int)==7)=false from rfl,show((4:Int)==3)=false from rfl,show((4:Int)==5)=false from rfl,KU,AL,CZ,AN];cases ha:Fb (ts.map (DK BC f)) with
   | none=>
    rw[ha] at hq;rcases he:HV (BE BC f) (ts.map (inst σ 0)) [] true B with ⟨⟨o,ok⟩,B'⟩
    rw[he] at hq;obtain⟨h1,rfl⟩:=hq
    assumption
   | some ls=>
    rw[ha] at hq;rcases he:HV (BE BC f) (ts.map (inst σ 0)) [] true B with ⟨⟨o,ok⟩,B'⟩
    rw[he] at hq;obtain⟨h1,rfl,ps,h2,h3⟩:=hq;simp only[Cc] at h2;subst h2;simp only[CY,<-h3.length];cases BC ls.flatten.length with
    | true=>exact h1
    | false=>exact⟨h1,h3⟩
  .have hp:plain (var i)=true:=by rfl
   obtain⟨q1,q2⟩:=Oe σ _ Lh hp hc;have hi:=LN hc;obtain⟨w,hw⟩:∃w,σ[i.toNat]?=some w:=⟨_,Ay AA⟩;have ei:inst σ 0 (var i)=ph w:=by grind[Bh]
   rw[DK,ei,BE];simp only[show((5:Int)==0)=false from rfl,show((5:Int)==2)=false from rfl,show((7:Int)==0)=false from rfl,show((7:Int)==2)=false from rfl,CZ,Du,AN,AL,Qq];refine leaf { nd:=GM,O6:=λx hx=>AB,len:=rfl,LO:=λi x hx=>AB,small:=(by simp[hole]),bd:=?_,vis:=λj hj=>?_,eq:=?_ }
   .rfl
   .rw[rM,Bh] at hj
    grind[vis]
   .rw[rM,Bh]
    grind[Bh,Ig]
  .simp only[A9,AI,Lp] at hv
   have E6:=Dd hc AK;simp only[EF,AI,Lp,show ER 6 0=0 from rfl,show ER 6 1=1 from rfl] at E6;have iH:bw b<=bw (.mk 6 [] 0 [b,body])/\bw body+1+cv body*bw b<=bw (.mk 6 [] 0 [b,body]):=by grind[bw,bwl,MT,ex7]
   unfold CR at hs;have ihB:=Z6 b [] hv.2.1 AA GM (by grind[CR]);have hsub:sub B.length 0 (inst σ 1 body)=inst (B.length::σ) 0 body:=Jz B.length σ body 0 hv.2.2 AB;have hnot:B.length∉σ:=λh=>absurd (hB _ h) AA
   have ihY:=Z6 body (B.length::σ) hv.2.2 AB (S7.2 ⟨hnot,hn⟩) (by grind[CR]) (B++[b]) AB;have hib:inst σ 0 b=b:=JW σ b 0 hv.2.1 hcb;rw[DK,inst];simp only[show((6:Int)==5)=false from rfl,AL,Di,show ER 6 0=0 from rfl,show ER 6 (0+1)=1 from rfl,Gt,CI,hib];rw[BE];simp only[show((6:Int)==0)=false from rfl,show((6:Int)==2)=false from rfl,show((6:Int)==7)=false from rfl,show((6:Int)==3)=false from rfl,show((6:Int)==4)=false from rfl,show((6:Int)==5)=false from rfl,KU,AL,CZ,AN,dA];rw[hsub];have hpB:B<+:B++[b]:=List.prefix_append _ _;cases hr:DK BC f body with
   | none=>
    rw[hr] at ihY;rcases he:BE BC f (inst (B.length::σ) 0 body) (B++[b]) with ⟨r',B'⟩
    rw[he] at ihY;cases r' with
    | some _=>exact ihY.elim
    | none=>exact Ec hpB ihY
   | some l=>
    rw[hr] at ihY;rcases he:BE BC f (inst (B.length::σ) 0 body) (B++[b]) with ⟨r',B'⟩
    rw[he] at ihY;cases r' with
    | none=>exact ihY.elim
    | some ps=>
     obtain⟨hp,hall⟩:=ihY;have Qh:(B++[b]).length=B.length+1:=AD;rw[Qh] at hall;have iu:B'[B.length]?=some b:=Ns hp AD
     have hex:∀A,MS (λB' c q=>∃ψ,Rl false 0 B' A.length B'.length [] c q ψ) A (DK BC f b) (BE BC f b A):=by
      intro A;have:=ihB A (λx hx=>by grind)
      grind[JW]
     have hw:∀r,DK BC f b=some r->∀c∈r,c.bounds.length<=bw b:=λr hr c hc=>(DC f b r hr c hc).1
     have hsz:∀c∈l,c.bounds.length<=bw body/\(Al c.body).length<=cv body:=DC f body l hr
     have step:=jU (BC:=BC) (Q:=λB' b p=>∃φ,Rl false 0 B' B.length B'.length σ b p φ) (λA A' a q hA ⟨φ,h⟩=>⟨φ,h.mono hA (AY _) (AY _) (GZ hA)⟩)
      (S:=λc q=>c∈l/\∃ψ,Rl false 0 B' (B.length+1) B'.length (B.length::σ) c q ψ) (g:=E9 BC (DK BC f b) b) (g':=B8 BC (BE BC f b) B.length) (B0:=B') (by
       rintro c q A hA ⟨E6,φ,hφ⟩;have hc:=hsz c E6;rw[hφ.len] at hc;have hφ':=hφ.mono hA (AY _) (AY _) (GZ hA);have hm:(Al c.body).length*bw b<=cv body*bw b:=B5 _ hc.2;have hm':(((Al c.body).length:Nat):Int)*(bw b:Nat)<=(cv body:Nat)*(bw b:Nat):=AA;have hq:(((bw body+1+cv body*bw b:Nat)):Int)<hole:=AA;have hq':((bw body:Nat):Int)+1+(cv body:Nat)*(bw b:Nat)<hole:=AA;exact ABm hnot hex hw hφ' (Ns hA iu) AA) l ps [] [] B' (C4 _) (by
       have:∀{l':List Br} {ps:List Ty},(∀c∈l',c∈l)->CE (λc q=>∃ψ,Rl false 0 B' (B.length+1) B'.length (B.length::σ) c q ψ) l' ps->CE (λc q=>c∈l/\∃ψ,Rl false 0 B' (B.length+1) B'.length (B.length::σ) c q ψ) l' ps:=by
        intro l'
        induction l' with
        | nil=>intro ps _ h; cases ps with
         | nil=>trivial
         | cons _ _=>exact h.elim
        | cons a l' ih=>intro ps hm h; cases ps with
         | nil=>exact h.elim
         | cons q ps=>exact⟨⟨hm a AD,h.1⟩,ih (λc hc=>hm c (FP _ hc)) h.2⟩
       grind) Ai
     simp only
     have APW:∀(m:List Ty) (out:List Ty) (A:List Ty),BC out.length=false->∀r A',Cj BC (B8 BC (BE BC f b) B.length) m out A=(some r,A')->BC r.length=false:=by
      intro m
      induction m with
      | nil=>grind[Cj]
      | cons q m ih=>
       grind[Cj]
     have hbg:=APW ps [] B' hb0;revert step;rcases hcs:Cj BC (B8 BC (BE BC f b) B.length) ps [] B' with ⟨r2,B2⟩
     have hpp:B<+:B':=Ec hpB hp;cases I6 BC (E9 BC (DK BC f b) b) l [] <;> cases r2 <;> intro step
     .exact Ec hpp step
     .exact step.elim
     .assumption
     .rename_i r1 r2
      simp only[hbg r2 B2 hcs,AL];exact⟨Ec hpp step.1,step.2⟩
end
mutual
def occs:Ty->List Int->List Int
 | .mk k _ i ts,l=>bif k==5 then(bif l.contains i then l else l++[i]) else bif k==2||k==3 then FC ts l else l
def FC:List Ty->List Int->List Int
 | [],l=>l
 | t::ts,l=>FC ts (occs t l)
end
def Ui (l:List Int):Nat->Nat->Ty->Ty
 | 0,_,t=>t
 | f+1,j,t=>Ui l f (j+1) (JE (l.getD j 0) (hole+1+j) t)
def Uj:Nat->Nat->Ty->Ty
 | 0,_,t=>t
 | f+1,j,t=>Uj f (j+1) (JE (hole+1+j) j t)
def bW:Ty:=.mk 0 [] 0 []
def EA (b:Br):Br:=⟨(occs b.body []).map λi=>b.bounds.getD i.toNat bW,Uj (occs b.body []).length 0 (Ui (occs b.body []) (occs b.body []).length 0 b.body)⟩
mutual
def K4 (N:Nat):Ty->List Nat->Ty×List Nat
 | .mk k n i ts,o=>bif k==7&&decide (i<N) then(match o.findIdx? (·==i.toNat) with
   | some j=>(var j,o)
   | none=>(var o.length,o++[i.toNat]))
  else(.mk k n i (G9 N ts o).1,(G9 N ts o).2)
def G9 (N:Nat):List Ty->List Nat->List Ty×List Nat
 | [],o=>([],o)
 | t::l,o=>((K4 N t o).1::(G9 N l (K4 N t o).2).1,(G9 N l (K4 N t o).2).2)
end
def JY (B:List Ty) (p:Ty):Br:=⟨(K4 B.length p []).2.map λx=>B.getD x bW,(K4 B.length p []).1⟩
mutual
theorem Xn (N:Nat):∀(t:Ty) (o:List Nat),valid t=true->K4 N t o=(t,o)
 | .mk k n i ts,o,h=>by
  have b7:(k==7)=false:=by grind[G8]
  simp only[valid,AI] at h;rw[K4,b7];simp only[Gv,AL,Uk N ts o h.2]
theorem Uk (N:Nat):∀(l:List Ty) (o:List Nat),A9 l=true->G9 N l o=(l,o)
 | [],_,_=>rfl
 | t::l,o,h=>by
  simp only[A9,AI] at h;rw[G9,Xn N t o h.1];simp only[Uk N l o h.2]
end
mutual
theorem Ul:∀(t:Ty) (l:List Int),l<+:occs t l
 | .mk k _ i ts,l=>by
  rw[occs];cases (k==5) with
  | true=>
   grind
  | false=>
   cases (k==2||k==3) with
   | true=>exact Je ts l
   | false=>simp
theorem Je:∀(ts:List Ty) (l:List Int),l<+:FC ts l
 | [],l=>C4 _
 | t::ts,l=>(Ul t l).trans (Je ts _)
end
mutual
theorem J2:∀(t:Ty) (l:List Int),∀i∈occs t l,i∈l\/i∈vis t
 | .mk k _ j ts,l,i,hi=>by
  rw[occs] at hi;rw[vis];cases b5:(k==5) with
  | true=>
   grind
  | false=>
   rw[b5] at hi;cases b:(k==2||k==3) with
   | true=>
    rw[b] at hi;exact Xo ts l i hi
   | false=>
    grind
theorem Xo:∀(ts:List Ty) (l:List Int),∀i∈FC ts l,i∈l\/i∈DJ ts
 | [],l,i,hi=>.inl hi
 | t::ts,l,i,hi=>by
  rw[DJ,B7];rcases Xo ts _ i hi with h|h
  .rcases J2 t l i h with h|h
   all_goals grind
  grind
end
mutual
theorem J3:∀(t:Ty) (l:List Int),∀i∈vis t,i∈occs t l
 | .mk k _ j ts,l,i,hi=>by
  rw[vis] at hi;rw[occs];cases b5:(k==5) with
  | true=>
   grind
  | false=>
   rw[b5] at hi;cases b:(k==2||k==3) with
   | true=>
    rw[b] at hi;exact Xp ts l i hi
   | false=>
    grind
theorem Xp:∀(ts:List Ty) (l:List Int),∀i∈DJ ts,i∈FC ts l
 | [],l,i,hi=>by cases hi
 | t::ts,l,i,hi=>by
  rw[DJ,B7] at hi;rcases hi with hi|hi
  .exact(Je ts _).subset (J3 t l i hi)
  .exact Xp ts _ i hi
end
mutual
theorem HA:∀(t:Ty) (l:List Int),l.Nodup->(occs t l).Nodup
 | .mk k _ j ts,l,hl=>by
  rw[occs];cases (k==5) with
  | true=>
   grind
  | false=>
   cases (k==2||k==3) with
   | true=>exact SG ts l hl
   | false=>grind
theorem SG:∀(ts:List Ty) (l:List Int),l.Nodup->(FC ts l).Nodup
 | [],l,hl=>hl
 | t::ts,l,hl=>SG ts _ (HA t l hl)
end
mutual
theorem mU:∀(t:Ty) (l:List Int),vis t=[]->occs t l=l
 | .mk k _ j ts,l,hv=>by
  rw[vis] at hv;rw[occs];cases b5:(k==5) with
  | true=>grind
  | false=>
   rw[b5] at hv;cases b:(k==2||k==3) with
   | true=>rw[b] at hv; exact dP ts l hv
   | false=>rfl
theorem dP:∀(ts:List Ty) (l:List Int),DJ ts=[]->FC ts l=l
 | [],l,_=>rfl
 | t::ts,l,hv=>by
  rw[DJ,lR] at hv;rw[FC,mU t l hv.1,dP ts l hv.2]
end
def pos (L:List Int) (i:Int):Nat:=L.idxOf i
theorem Kj {L:List Int} (hn:L.Nodup) {j:Nat} {i:Int} (h:L[j]?=some i):pos L i=j:=by
 obtain⟨h1,h2⟩:=BA.1 h;have hm:i∈L:=A5 h;have h3:L.idxOf i<L.length:=lS hm
 have h4:L[L.idxOf i]?=some i:=by
  rw[Ay h3,List.getElem_idxOf]
 exact(List.getElem?_inj h3 hn).1 (h4.trans h.symm)
section
variable {N:Nat} {U:Int->Nat} {L:List Int} (hL:L.Nodup) (hinj:∀i∈L,∀j∈L,U i=U j->i=j) (hN:∀i∈L,U i<N)
include hL hinj hN
mutual
theorem mV:∀(b:Ty) (l:List Int),pl b=true->occs b l<+:L->K4 N (tr U b) (l.map U)=(Bh (λi=>var (pos L i)) b,(occs b l).map U)
 | .mk k n i ts,l,h,hp=>by
  cases b5:(k==5) with
  | true=>
   rw[tr,Bh,Bh,occs,b5];simp only[AN]
   have hi:i∈L:=by
    have:i∈occs (.mk k n i ts) l:=J3 _ l i (by grind[vis])
    grind
   have hNi:=hN i hi;rw[K4];have hlt:((U i:Nat):Int)<N:=AA;rw[Aq hlt];simp only[CZ,Ft,AN,Int.toNat_natCast];have hpre:l<+:L:=(Ul _ l).trans hp;cases hc:l.contains i with
   | true=>
    have hm:i∈l:=AB;obtain⟨j,hj⟩:=ZC hm
    have hjL:L[j]?=some i:=by
     obtain⟨m,rfl⟩:=hpre
     grind
    have hf:(l.map U).findIdx? (·==U i)=some j:=by
     rw[lT];have hjl:=(BA.1 hj).1;refine⟨AB,AB,λa ha=>?_⟩;simp only[List.getElem_map,Gx];intro he;have hal:a<l.length:=AA
     have haL:L[a]?=some l[a]:=by
      obtain⟨m,rfl⟩:=hpre
      grind
     grind[List.getElem?_inj]
    grind[Kj]
   | false=>
    have hm:i∉l:=AB
    have hjL:L[l.length]?=some i:=by
     rw[occs,b5,hc] at hp;simp only[AN,AL] at hp;obtain⟨m,rfl⟩:=hp;simp
    grind[Kj]
  | false=>
   cases b2:(k==2) with
   | true=>
    have h2:k=2:=AB;subst h2;rw[pl] at h;rw[occs] at hp ⊢;have:=dQ ts l AB AB
    grind[Bh,K4]
   | false=>
    grind[pl,Ie,Xn,LM,mU,Zz]
theorem dQ:∀(ts:List Ty) (l:List Int),Wr ts=true->FC ts l<+:L->G9 N (Uc U ts) (l.map U)=(Bq (λi=>var (pos L i)) ts,(FC ts l).map U)
 | [],l,_,_=>rfl
 | t::ts,l,h,hp=>by
  simp only[Wr,AI] at h;have _h:=hL;have _h:=hinj;have _h:=hN;have h1:=mV t l h.1 ((Je ts _).trans hp);rw[Uc,Bq,G9,h1];simp only;rw[show Bq (λi=>ph (U i)) ts=Uc U ts from rfl,dQ ts (occs t l) h.2 hp];rfl
end
end
section
variable {N:Nat} {U:Int->Nat} {L:List Int} (hL:L.Nodup) (hinj:∀i∈L,∀j∈L,U i=U j->i=j) (hN:∀i∈L,U i<N)
include hL hinj hN
mutual
theorem Z7:∀(b:Ty) (l:List Int),bd b=true->occs b l<+:L->K4 N (tr U b) (l.map U)=(Bh (λi=>var (pos L i)) b,(occs b l).map U)
 | .mk k n i ts,l,h,hp=>by
  cases b3:(k==3) with
  | true=>
   have h3:k=3:=AB;subst h3;rw[bd] at h;rw[occs] at hp ⊢;have:=mW ts l AB AB
   grind[Bh,K4]
  | false=>
   grind[pl,bd,mV]
theorem mW:∀(ts:List Ty) (l:List Int),M4 ts=true->FC ts l<+:L->G9 N (Uc U ts) (l.map U)=(Bq (λi=>var (pos L i)) ts,(FC ts l).map U)
 | [],l,_,_=>rfl
 | t::ts,l,h,hp=>by
  simp only[M4,AI] at h;have _h:=hL;have _h:=hinj;have _h:=hN;have h1:=Z7 t l h.1 ((Je ts _).trans hp);rw[Uc,Bq,G9,h1];simp only;rw[show Bq (λi=>ph (U i)) ts=Uc U ts from rfl,mW ts (occs t l) h.2 hp];rfl
end
end
mutual
theorem P1:∀t:Ty,bd t=true->Bh (λi=>var i) t=t
 | .mk k n i ts,h=>by
  rw[Bh];rw[bd] at h;cases b5:(k==5) with
  | true=>
   grind
  | false=>
   rw[b5] at h;cases b2:(k==2) with
   | true=>
    rw[b2] at h;simp only[AL,AN,Dv] at h ⊢;rw[RJ ts h]
   | false=>
    rw[b2] at h;cases b3:(k==3) with
    | true=>
     rw[b3] at h;simp only[AL,AN,Du] at h ⊢;rw[Xq ts h]
    | false=>simp
theorem Xq:∀l:List Ty,M4 l=true->Bq (λi=>var i) l=l
 | [],_=>rfl
 | t::l,h=>by
  simp only[M4,AI] at h;rw[Bq,P1 t h.1,Xq l h.2]
theorem wS:∀t:Ty,pl t=true->Bh (λi=>var i) t=t
 | .mk k n i ts,h=>by
  rw[Bh];rw[pl] at h;cases b5:(k==5) with
  | true=>
   grind
  | false=>
   rw[b5] at h;cases b2:(k==2) with
   | true=>
    rw[b2] at h;simp only[AL,AN,Dv] at h ⊢;rw[RJ ts h]
   | false=>
    rw[b2] at h;have hc:Sl (.mk k n i ts)=true:=AB;have e:=Ie (.mk k n i ts) (λi=>var i) hc
    grind[Bh]
theorem RJ:∀l:List Ty,Wr l=true->Bq (λi=>var i) l=l
 | [],_=>rfl
 | t::l,h=>by
  simp only[Wr,AI] at h;rw[Bq,wS t h.1,RJ l h.2]
end
theorem mX (n m:Int) (g:Int->Int) (t:Ty):JE n m (Bh (λi=>var (g i)) t)=Bh (λi=>var (bif g i==n then m else g i)) t:=by
 rw[J1,IK]
theorem dR {l:List Int}:∀(f j:Nat) (g:Int->Int) (t:Ty),∃g':Int->Int,Ui l f j (Bh (λi=>var (g i)) t)=Bh (λi=>var (g' i)) t /\
  ∀i,(∀q,l[q]?=some (g i)->q<f+j->j<=q->l.Nodup->(∀x∈l,x<hole)->q<l.length->f+j<=l.length->g' i=hole+1+q)/\((∀q,j<=q->q<f+j->l.getD q 0≠g i)->g' i=g i)
 | 0,j,g,t=>⟨g,rfl,λi=>⟨λq _ h1 h2=>by omega,λ_=>rfl⟩⟩
 | f+1,j,g,t=>by
  rw[Ui,mX];obtain⟨g',h1,h2⟩:=dR (l:=l) f (j+1) (λi=>bif g i==l.getD j 0 then hole+1+j else g i) t;refine⟨g',h1,λi=>⟨λq hq q1 q2 hn hh ql hf=>?_,λhno=>?_⟩⟩
  all_goals grind[List.getElem_mem,List.getElem?_inj]
theorem dS:∀(f j:Nat) (g:Int->Int) (t:Ty),∃g':Int->Int,Uj f j (Bh (λi=>var (g i)) t)=Bh (λi=>var (g' i)) t /\
  ∀i,(∀q:Nat,g i=hole+1+q->j<=q->q<f+j->(f+j:Nat)<hole->g' i=q)/\(g i<hole->g' i=g i)
 | 0,j,g,t=>⟨g,rfl,λi=>⟨λq _ h1 h2=>by omega,λ_=>rfl⟩⟩
 | f+1,j,g,t=>by
  rw[Uj,mX];obtain⟨g',h1,h2⟩:=dS f (j+1) (λi=>bif g i==hole+1+j then j else g i) t;refine⟨g',h1,λi=>⟨λq hq q1 q2 hf=>?_,λhlt=>?_⟩⟩
  all_goals grind
theorem wT {b:Ty} (hb:bd b=true) (hv:∀i∈vis b,0<=i/\i<hole) (hl:CR (occs b []).length):Uj (occs b []).length 0 (Ui (occs b []) (occs b []).length 0 b)=Bh (λi=>var (pos (occs b []) i)) b:=by
 have hn:=HA b [] GM
 have hm:∀i∈occs b [],i<hole:=λi hi=>by
  rcases J2 b [] i hi with h|h
  all_goals grind
 have e0:b=Bh (λi=>var i) b:=(P1 b hb).symm;obtain⟨g1,h1,h2⟩:=dR (l:=occs b []) (occs b []).length 0 (λi=>i) b;obtain⟨g2,h3,h4⟩:=dS (occs b []).length 0 g1 b
 have e1:Ui (occs b []) (occs b []).length 0 b=Bh (λi=>var (g1 i)) b:=by
  rw[<-h1,<-e0]
 rw[e1,h3];refine Dg _ λi hi=>?_
 have hmem:=J3 b [] i hi;obtain⟨q,hq⟩:=ZC hmem;have hql:=(BA.1 hq).1;have:=(h2 i).1 q hq AA AA hn hm hql AA;have:=(h4 i).1 q this AA AA hl
 grind[Kj]
theorem wU {B:List Ty} {lo hi:Nat} {b:Br} {p:Ty} {φ:List Nat} (H:Rl false 0 B lo hi [] b p φ) (hB:hi<=B.length) (hl:CR (occs b.body []).length):JY B p=EA b:=by
 have hv:∀i∈vis b.body,0<=i/\i<φ.length:=by
  intro i hi;rcases H.vis i hi with h|h|h
  all_goals grind
 have hn:=HA b.body [] GM
 have hmem:∀i∈occs b.body [],0<=i/\i<φ.length:=λi hi=>by
  rcases J2 b.body [] i hi with h|h
  all_goals grind
 have hs:=H.small;have LK:∀i∈occs b.body [],∃x,φ[i.toNat]?=some x/\x∈φ/\Pz φ [] 0 i=x:=λi hi=>JX (hmem i hi).1 (hmem i hi).2 AA
 have key:=Z7 (N:=B.length) (U:=Pz φ [] 0) (L:=occs b.body []) hn (by
  intro i hi j hj he;obtain⟨x,hx,_,ex⟩:=LK i hi;obtain⟨y,hy,_,ey⟩:=LK j hj;rw[ex,ey] at he;subst he;have h1:=hmem i hi;have h2:=hmem j hj;have:=(List.getElem?_inj AA H.nd).1 (hx.trans hy.symm);omega) (by
  intro i hi;obtain⟨x,hx,hm,ex⟩:=LK i hi;rw[ex];have:=H.O6 x hm;omega) b.body [] H.bd (C4 _)
 simp only[Cd] at key;rw[<-H.eq] at key;have e2:=wT H.bd (λi hi=>by grind) hl;unfold JY EA;rw[key,e2];simp only[PB];congr 1;refine Y6 λi hi=>?_
 obtain⟨x,hx,_,ex⟩:=LK i hi;simp only[Function.comp_apply];rw[ex,TC,TC,H.LO _ _ hx]
attribute [local simp] IJ Mx Jw Kh Dc Fk Ew wO setCells HM Df DQ CT DY alive DI KQ UI jG Hi JU Gk Ip L2 JV qD mC okB qE qH qI qJ qK iG qL qN qO qP qQ qR qT qU qV qW qX okF qY qZ qa qb qc Q0 qd Q1 Q2 Q3 Q4 qe qf qg qh qi qj qm qo qp qq GX qt mD qu qv qw qx qy rA rC rD rF rH CD
section
variable {R:Nat->Option (List PV)}
mutual
theorem mY:∀(t:Ty),size t<2 ^ 38->RB t->∀(x:AV),A8 t x->Ae (env R) 73 [x] λr=>r=BB (valid t)
 | .mk k n i ts,h,ho,x,hx=>by
  obtain⟨a,rfl,ha⟩:=hx;simp only[size] at h;simp only[RB] at ho;have hs:Ac ts<2 ^ 38:=AA;have hn:=ho.1;have ih:=dU ts hs ho.2
  suffices H:∀Post:AV->Prop,Post (BB (valid (.mk k n i ts)))->AD3 R 0 0 0 (.agg [AG k,SS n,AG i,a]) ⟨[],[]⟩ (QP Post) from
   e73 (u0:=.agg [AG k,SS n,AG i,a]) (by simp[ha.close]) (H _ rfl)
  intro Post hP;refine APY ?_;simp only[valid] at hP;unfold root at hP;cases b2:(k==2) with
  | true=>
   have e2:k=2:=AB;subst e2
   by_cases hi:i=0
   .subst hi
    simp[ha.ok,ha.BD,Ab]
    grind[RD]
   .have bi:(i==0)=false:=by grind
    rw[bi] at hP;simpa[QP,QI,ha.ok,ha.BD,Ab,hi,bne,bi] using hP
  | false=>
   have e2:¬ k=2:=AB;rw[b2] at hP
   by_cases hn0:n=[]
   .subst hn0
    cases b5:(k==5) with
    | true=>
     have e5:k=5:=AB;subst e5;simp[ha.ok,ha.BD,Ab]
     grind[RD]
    | false=>
     have e5:¬ k=5:=AB;rw[b5] at hP
     by_cases hi:i=0
     .subst hi
      simp[ha.ok,ha.BD,Ab,e2,e5,bne,b2,b5]
      grind[RD]
     .have bi:(i==0)=false:=by grind
      rw[bi] at hP;simpa[QP,QI,ha.ok,ha.BD,Ab,e2,e5,hi,bne,b2,b5,bi] using hP
   .have bn:(n==[])=false:=by grind
    rw[bn] at hP;simpa[QP,QI,ha.ok,ha.BD,Ab,e2,hn0,bne,b2,bn] using hP
theorem dU:∀(l:List Ty),Ac l<2 ^ 38->Sk l->∀t∈l,Ae (env R) 73 [.agg ((Ah t).map .pv)] λr=>r=BB (valid t)
 | [],_,_,_,h=>by cases h
 | e::l,ho,hk,a,h=>by
  simp only[Ac] at ho;simp only[Sk] at hk;rcases A3.1 h with h' | h'
  .rw[h']
   exact mY e AA hk.1 _ (A8.Bk e)
  .exact dU l AA hk.2 a h'
end
theorem Um {t:Ty} (h:size t<2 ^ 38) (ho:RB t) {x:AV} (hx:A8 t x):Ae (env R) 42 [x] λr=>r=AG (verdict t):=by
 have e1:=Q5 (R:=R) t AA x hx;have e2:=UN (R:=R) t AA x hx;have e3:=MR (R:=R) t h ho x hx;have hv:verdict t=bif decide (200<size t)||decide (12<depth t) then 4 else bif valid t then 0 else 2:=rfl
 generalize hz:size t=z at *;generalize hd:depth t=d at *;generalize hw:valid t=w at *;obtain⟨k,n,i,ts⟩:=t;obtain⟨a,rfl,ha⟩:=hx;refine e42 (u0:=.agg [AG k,SS n,AG i,a]) (by simp[ha.close]) (AD4 ?_);simp[ha.ok];refine AH e1 ?_;rintro v rfl
 have fin:∀b:Bool,b=(decide (200<z)||decide (12<d))->Dc (BB b) (QP (λr=>r=AG (verdict (.mk k n i ts))) (AG 4) ⟨[[AG k,SS n,AG i,a]],[]⟩)
   (Df (env R) ⟨[[AG k,SS n,AG i,a]],[]⟩ (some 4) (.ptr 0 0) λtV=>D0 (env R) (CT (env R) 42 0 0 0) (.func (.func 86) [] []) [tV] ⟨[[AG k,SS n,AG i,a]],[]⟩ λa14 jX=>L2 a14 λa15=>Dc a15 (QP (λr=>r=AG (verdict (.mk k n i ts))) (AG 2) jX) (AD5 R 0 0 0 jX (QP λr=>r=AG (verdict (.mk k n i ts))))):=by
  rintro b rfl;cases hb:(decide (200<z)||decide (12<d)) with
  | true=>simp[*,QP]
  | false=>
   simp;refine AH e3 ?_;rintro v rfl;cases w with
   | false=>simp[*,QP]
   | true=>
    simp;refine APa ?_;simp[*,QP]
 by_cases c1:200<z
 .have rN:(200<(z:Int)):=by omega
  have rO:¬ ((z:Int)<=200):=AA;have:=fin true AB;simpa[rN,rO] using this
 .have rN:¬ (200<(z:Int)):=by omega
  have rO:((z:Int)<=200):=AA;simp[rN,rO];refine AH e2 ?_;rintro v rfl
  by_cases c2:12<d
  .have c2':(12<(d:Int)):=by omega
   have c2n:¬ ((d:Int)<=12):=AA;have:=fin true AB;simpa[rN,rO,c2',c2n] using this
  .have c2':¬ (12<(d:Int)):=by omega
   have c2n:((d:Int)<=12):=AA;have:=fin false AB;simpa[rN,rO,c2',c2n] using this
theorem OI {t:Ty} (h:size t<2 ^ 60) (ho:RB t) {x:AV} (hx:A8 t x):Ae (env R) 42 [x] λr=>r=AG (verdict t):=by
 by_cases hs:size t<2 ^ 38
 .grind[Um]
 have e1:=Q5 (R:=R) t AA x hx;have hv:verdict t=4:=by grind[verdict]
 rw[hv];generalize hz:size t=z at *;obtain⟨k,n,i,ts⟩:=t;obtain⟨a,rfl,ha⟩:=hx;refine e42 (u0:=.agg [AG k,SS n,AG i,a]) (by simp[ha.close]) (AD4 ?_);simp[ha.ok];refine AH e1 ?_;rintro v rfl;have rN:(200<(z:Int)):=AA;have rO:¬ ((z:Int)<=200):=AA;simp[*,QP]
theorem Sm {t:Ty} (h:size t<2 ^ 38) (ho:RB t) {x:AV} (hx:A8 t x):Ae (env R) 30 [x] λr=>r=AG (verdict t):=by
 have e1:=Ob (R:=R) t AA x hx;have e2:=R7 (R:=R) t AA x hx;have e3:=mY (R:=R) t h ho x hx;have hv:verdict t=bif decide (200<size t)||decide (12<depth t) then 4 else bif valid t then 0 else 2:=rfl
 generalize hz:size t=z at *;generalize hd:depth t=d at *;generalize hw:valid t=w at *;obtain⟨k,n,i,ts⟩:=t;obtain⟨a,rfl,ha⟩:=hx;refine e30 (u0:=.agg [AG k,SS n,AG i,a]) (by simp[ha.close]) (AD6 ?_);simp[ha.ok];refine AH e1 ?_;rintro v rfl
 have fin:∀b:Bool,b=(decide (200<z)||decide (12<d))->Dc (BB b) (QP (λr=>r=AG (verdict (.mk k n i ts))) (AG 4) ⟨[[AG k,SS n,AG i,a]],[]⟩)
   (Df (env R) ⟨[[AG k,SS n,AG i,a]],[]⟩ (some 4) (.ptr 0 0) λtV=>D0 (env R) (CT (env R) 30 0 0 0) (.func (.func 73) [] []) [tV] ⟨[[AG k,SS n,AG i,a]],[]⟩ λa14 jX=>L2 a14 λa15=>Dc a15 (QP (λr=>r=AG (verdict (.mk k n i ts))) (AG 2) jX) (AD7 R 0 0 0 jX (QP λr=>r=AG (verdict (.mk k n i ts))))):=by
  rintro b rfl;cases hb:(decide (200<z)||decide (12<d)) with
  | true=>simp[*,QP]
  | false=>
   simp;refine AH e3 ?_;rintro v rfl;cases w with
   | false=>simp[*,QP]
   | true=>
    simp;refine APb ?_;simp[*,QP]
 by_cases c1:200<z
 .have rN:(200<(z:Int)):=by omega
  have rO:¬ ((z:Int)<=200):=AA;have:=fin true AB;simpa[rN,rO] using this
 .have rN:¬ (200<(z:Int)):=by omega
  have rO:((z:Int)<=200):=AA;simp[rN,rO];refine AH e2 ?_;rintro v rfl
  by_cases c2:12<d
  .have c2':(12<(d:Int)):=by omega
   have c2n:¬ ((d:Int)<=12):=AA;have:=fin true AB;simpa[rN,rO,c2',c2n] using this
  .have c2':¬ (12<(d:Int)):=by omega
   have c2n:((d:Int)<=12):=AA;have:=fin false AB;simpa[rN,rO,c2',c2n] using this
theorem J4 {t:Ty} (h:size t<2 ^ 60) (ho:RB t) {x:AV} (hx:A8 t x):Ae (env R) 30 [x] λr=>r=AG (verdict t):=by
 by_cases hs:size t<2 ^ 38
 .grind[Sm]
 have e1:=Ob (R:=R) t AA x hx;have hv:verdict t=4:=by grind[verdict]
 rw[hv];generalize hz:size t=z at *;obtain⟨k,n,i,ts⟩:=t;obtain⟨a,rfl,ha⟩:=hx;refine e30 (u0:=.agg [AG k,SS n,AG i,a]) (by simp[ha.close]) (AD6 ?_);simp[ha.ok];refine AH e1 ?_;rintro v rfl;have rN:(200<(z:Int)):=AA;have rO:¬ ((z:Int)<=200):=AA;simp[*,QP]
end
theorem Ak {b:Bool} {s:AQ} {W:(AV->AQ->Prop)->Prop} {K:AV->AQ->Prop} (h:W K):UI (BB b) b s W K:=⟨λ_=>h,λh=>absurd rfl h⟩
theorem K0 {b c:Bool} {s:AQ} {W:(AV->AQ->Prop)->Prop} {K:AV->AQ->Prop} (hn:b≠c) (h:K (.tuple []) s):UI (BB b) c s W K:=⟨λh=>absurd h hn,λ_=>h⟩
theorem BQ {s:AQ} {W:(AV->AQ->Prop)->Prop} {K:AV->AQ->Prop} (h:K (.tuple []) s):UI (BB true) false s W K:=K0 AK h
theorem Bf {s:AQ} {W:(AV->AQ->Prop)->Prop} {K:AV->AQ->Prop} (h:K (.tuple []) s):UI (BB false) true s W K:=K0 AK h
theorem A1 {A B:Prop} (h:A):Dc (BB true) A B:=⟨λ_=>h,λh=>by cases h⟩
theorem Ar {A B:Prop} (h:B):Dc (BB false) A B:=⟨λh=>(by cases h),λ_=>h⟩
theorem pk {c:Bool} {a b:AV} {K:AV->Prop} (h:K (bif c then a else b)):Hi (BB c) a b K:=h
theorem Av {k:IntKind} {a b:Int} {K:AV->Prop} (h:K (BB (a==b))):DI k .eql (.pv (.sc (.int k a))) (.pv (.sc (.int k b))) K:=⟨⟨rfl,rfl⟩,h⟩
theorem EB {k:IntKind} {a b:Int} {K:AV->Prop} (h:K (BB (a != b))):DI k .neq (.pv (.sc (.int k a))) (.pv (.sc (.int k b))) K:=⟨⟨rfl,rfl⟩,h⟩
theorem Ao {a b:Int} {K:AV->Prop} (h:K (BB (a<b))):DI .i64 .lss (AG a) (AG b) K:=⟨⟨rfl,rfl⟩,h⟩
theorem Z8 {a b:Int} {K:AV->Prop} (h:K (BB (a<=b))):DI .i64 .leq (AG a) (AG b) K:=⟨⟨rfl,rfl⟩,h⟩
theorem Fm {a b:Int} {K:AV->Prop} (h:K (BB (a>b))):DI .i64 .gtr (AG a) (AG b) K:=⟨⟨rfl,rfl⟩,h⟩
theorem L9 {a b:Int} {K:AV->Prop} (h:K (BB (a>=b))):DI .i64 .geq (AG a) (AG b) K:=⟨⟨rfl,rfl⟩,h⟩
theorem Be {a b:Int} {K:AV->Prop} (h1:-(2 ^ 63)<=a+b) (h2:a+b<2 ^ 63) (h:K (AG (a+b))):DI .i64 .add (AG a) (AG b) K:=⟨⟨rfl,rfl⟩,CS h1 h2 h⟩
theorem I7 {a b:Int} {K:AV->Prop} (h1:-(2 ^ 63)<=a-b) (h2:a-b<2 ^ 63) (h:K (AG (a-b))):DI .i64 .sub (AG a) (AG b) K:=⟨⟨rfl,rfl⟩,CS h1 h2 h⟩
theorem HO {z ps cs:_} {K:AV->Prop} (hf:Ew z ps=some cs) (h:K (.agg cs)):Fk z ps K:=by
 simp only[Fk,hf,wO];exact h
theorem nt {b:Bool} {K:AV->Prop} (h:K (BB !b)):L2 (BB b) K:=h
theorem CO {l:List AV} {i:Nat} {v:AV} {K:AV->Prop} (hi:l[i]?=some v) (h:K v):JU (.tuple l) i K:=by
 simp only[JU,wO,hi];exact h
theorem Bu {s:AQ} {v:AV} {cs:List AV} {K:AV->AQ->Prop} (hc:cellsOf v=cs) (ho:cs.all A7=true) (h:K (.ptr s.bs.length 0) ⟨s.bs++[cs],s.ts⟩):Mx s v K:=by
 unfold Mx;rw[hc];exact⟨ho,h⟩
theorem Bm {s:AQ} {cs:List AV} {K:AV->AQ->Prop} (h:K (.ptr s.bs.length 0) ⟨s.bs++[cs],s.ts⟩):IJ s cs K:=h
theorem AU {s:AQ} {id:Nat} {c:AV} {cs:List AV} (h:s.bs[id]?=some (c::cs)):alive s id=true:=by
 simp[alive,h]
theorem C2 {s:AQ} {id off:Nat} {K:AV->Prop} (ha:alive s id=true) (h:K (.ptr id off)):JV s (.ptr id off) K:=⟨ha,h⟩
theorem AM {s:AQ} {id off d:Nat} {K:AV->Prop} (ha:alive s id=true) (h:K (.ptr id (off+d))):DY s (.ptr id off) d K:=⟨ha,h⟩
theorem AX {E:Env} {s:AQ} {id off:Nat} {cs:List AV} {v:AV} {K:AV->Prop} (hb:s.bs[id]?=some cs) (hv:cs[off]?=some v) (h:K v):Df E s none (.ptr id off) K:=by
 simp only[Df,hb,wO,DQ,hv];exact h
theorem Af {E:Env} {s:AQ} {id k:Nat} {cs:List AV} {K:AV->Prop} (hb:s.bs[id]?=some cs) (hk:cs.length=k) (h:K (.agg cs)):Df E s (some k) (.ptr id 0) K:=by
 simp only[Df,hb,wO,DQ,JL];refine⟨AA,?_⟩;rw[CV AA];exact h
theorem Au {s:AQ} {a:AV} {n:Nat} {K:AV->Prop} (hl:BD s a=some n) (h:K (AG n)):Gk s a K:=by
 simp only[Gk,hl,wO];exact h
theorem AIC {a b:List UInt8} {K:AV->Prop} (hl:a.length+b.length<2 ^ 63) (h:K (SS (a++b))):KQ .add (SS a) (SS b) K:=by
 simp only[KQ];exact⟨by simpa using hl,by simpa using h⟩
theorem sln {w:List UInt8} {K:AV->Prop} (h:K (AG w.length)):Ip (SS w) K:=Ba
theorem six {w:List UInt8} {i:Int} {c:UInt8} {K:AV->Prop} (h0:0<=i) (hc:w[i.toNat]?=some c) (h:K (.pv (.sc (.int .u8 c.toNat)))):Xc (SS w) (AG i) K:=⟨h0,c,hc,h⟩
theorem Bn {L:BI} {s:AQ} {id k:Nat} {cs old:List AV} {K:AQ->Prop} (hb:s.bs[id]?=some old) (hk:cs.length=k) (ho:old.length=k) (h0:0<k) (hro:L.ro<=id) (hok:cs.all A7=true) (hn:L.n0<=id\/I2 cs=true) (h:K ⟨s.bs.set id cs,s.ts⟩):HM L s k (.ptr id 0) (.agg cs) K:=by
 have hce:cellsOf (.agg cs)=cs:=rfl
 have rP:∀(a b:List AV),a.length=b.length->setCells a 0 b=b:=by
  intro a b hab
  have gen:∀(b pre old:List AV),old.length=b.length->setCells (pre++old) pre.length b=pre++b:=by
   intro b
   induction b with
   | nil=>intro pre old h; cases old with
    | nil=>rfl
    | cons _ _=>grind
   | cons x b ih=>
    intro pre old h;cases old with
    | nil=>grind
    | cons y old=>
     have:=ih (pre++[x]) old AB
     simp_all[setCells]
  simpa using gen b [] a hab
 simp only[HM,hb,wO,hce];refine⟨⟨hk,AA,hro,hok,hn,AA⟩,?_⟩;rw[rP old cs AA];exact h
theorem rQ {P:Program} {t:TypeId} (ht:P.underlying t=some .string) (c:UInt8) (w:List UInt8):quick P (Instr.sliceAt t (.string ⟨(c::w).toArray⟩) (some (.int .i64 1)) none none)=some (.string ⟨w.toArray⟩):=by
 unfold Instr.sliceAt;refine Cm (Jf ht) ?_;simp only;unfold Instr.slice;refine Cm (Jf ht) ?_;have hs:(1:Int)<=((⟨(c::w).toArray⟩:ByteArray).size:Int):=by grind[ByteArray.size]
 simp only[Instr.sliceBounds,Instr.sliceBound,asIntOf,hs,Option.isSome_none,DS,JG,pure_bind,Lp,Gu];have e:(⟨(c::w).toArray⟩:ByteArray).extract 1 (⟨(c::w).toArray⟩:ByteArray).size=⟨w.toArray⟩:=by simp[*,ByteArray.ext_iff,ByteArray.size]
 show quick P (pure (Value.string ((⟨(c::w).toArray⟩:ByteArray).extract 1 (⟨(c::w).toArray⟩:ByteArray).size)))=_
 rw[e];rfl
theorem rR {E:Env} {L:BI} {s:AQ} {lk:Lk} {o:Oper} {K:AV->AQ->Prop} {t:TypeId} {x:Operand} {c:UInt8} {w:List UInt8} (ho:o.op=.slice t x (some (.const (.int .i64 1))) none none) (ht:E.P.underlying t=some .string) (hx:I8 lk x=some (SS (c::w)))
  (h:K (SS w) s):mZ E L s lk o K:=by
 refine⟨SS w,s,λU hA=>?_,h⟩;have ex:=CW hA hx
 have h1:E2 U o.op.operands.toList=true:=by
  have e:o.op.operands.toList=[x,.const (.int .i64 1)]:=by rw[ho]; rfl
  rw[e];have e1:Am U (.const (.int .i64 1))=.pv (.sc (.int .i64 1)):=rfl
  grind[E2,Ht]
 have h2:C5 E U o=some (SS w):=by
  have:quick E.P (execOp (λz=>(Ht (Am U z)).getD undef) o)=some (.value (.string ⟨w.toArray⟩)):=by
   unfold execOp;rw[ho];have e1:Am U (.const (.int .i64 1))=.pv (.sc (.int .i64 1)):=rfl;simp only[ex,e1,Ht,JI,Na,Option.map_none];exact Cm (rQ ht c w) rfl
  simp only[C5,h1,Gu,this];rfl
 grind[Ql,Cl]
theorem rS {E:Env} {L:BI} {s:AQ} {lk:Lk} {o:Oper} {K:AV->AQ->Prop} {t c:TypeId} {x:Operand} (ho:o.op=.binOp .eql t x (.const .nilIface) c) (hx:I8 lk x=some (.pv (.sc .nilIface)))
  (hq:quick E.P (do eqGuard .eql t x (.const .nilIface) .nilIface .nilIface; binOp .eql t .nilIface .nilIface)=some (.bool true)) (h:K (BB true) s):mZ E L s lk o K:=by
 refine⟨BB true,s,λU hA=>?_,h⟩;have ex:=CW hA hx;have e1:Am U (.const .nilIface)=.pv (.sc .nilIface):=rfl
 have h1:E2 U o.op.operands.toList=true:=by
  have e:o.op.operands.toList=[x,.const .nilIface]:=by rw[ho]; rfl
  grind[E2,Ht]
 have h2:C5 E U o=some (BB true):=by
  have:quick E.P (execOp (λz=>(Ht (Am U z)).getD undef) o)=some (.value (.bool true)):=by
   unfold execOp;rw[ho];simp only[ex,e1,Ht,JI];exact Cm hq rfl
  simp only[C5,h1,Gu,this];rfl
 grind[I3,EI,sameKind,rowsOf,JN,Cl]
theorem Xr:∀(f n:Nat) (acc:List UInt8),acc.length<(LQ (f+1) n acc).length/\(LQ (f+1) n acc).length<=acc.length+f+1
 | 0,n,acc=>by grind[LQ]
 | f+1,n,acc=>by
  rw[LQ];cases Nat.blt n 10 with
  | true=>simp
  | false=>
   have:=Xr f (n / 10) (UInt8.ofNat (48+n % 10)::acc)
   grind
theorem Un (n:Nat):0<(HW n).length/\(HW n).length<=20:=by grind[Xr,HW]
mutual
def ren:Ty->Ty
 | .mk k n i ts=>bif k==7 then .mk 2 (36::HW i.toNat) 0 [] else .mk k n i (CC ts)
def CC:List Ty->List Ty
 | []=>[]
 | t::l=>ren t::CC l
end
theorem Bv:∀l:List Ty,CC l=l.map ren
 | []=>rfl
 | t::l=>by rw[CC,Bv l]; rfl
mutual
def GC (N:Nat):Ty->Bool
 | .mk k n i ts=>bif k==7 then ts.isEmpty&&(decide (0<=i)&&decide (i<N)) else !(n.head?==some 36)&&(decide (n.length<2 ^ 40)&&Gg N ts)
def Gg (N:Nat):List Ty->Bool
 | []=>true
 | t::l=>GC N t&&Gg N l
end
structure MY (R:RT):Prop where
 ito:∀n:Nat,n<2 ^ 40->Ae (env R) 123 [AG n] λv=>v=SS (HW n)
 ato:∀n:Nat,n<2 ^ 40->Ae (env R) 124 [SS (HW n)] λv=>v=.tuple [AG n,.pv (.sc .nilIface)]
section
variable {R:RT}
theorem ABr {c:UInt8} {w:List UInt8} (h:((c::w).head?==some 36)=false):(((c.toNat:Int)) != 36)=true:=by
 simp only[List.head?_cons] at h;have:c≠36:=AB;simp only[bne_iff_ne,ne_eq];intro h1;apply this;have h2:c.toNat=36:=AA;exact UInt8.toNat_inj.1 h2
theorem K1 (hn:MY R) {N:Nat} (hN:N<=2 ^ 40) {k i:Int} {n:List UInt8} {ts:List Ty} (ht:GC N (.mk k n i ts)=true) {x:AV} (hx:A8 (ren (.mk k n i ts)) x) :
  Ae (env R) 92 [x] λr=>r=bif k==7 then .tuple [AG i,BB true] else .tuple [AG 0,BB false]:=by
 rw[ren] at hx;rw[GC] at ht
 have go:∀(k' i':Int) (n':List UInt8) (a:AV) (rows:List (List PV)),A0 a rows->(∀Post:AV->Prop,Post (bif k==7 then .tuple [AG i,BB true] else .tuple [AG 0,BB false])->AD8 R 0 0 0 (.agg [AG k',SS n',AG i',a]) ⟨[],[]⟩ (QP Post)) ->
   Ae (env R) 92 [.agg [AG k',SS n',AG i',a]] λr=>r=bif k==7 then .tuple [AG i,BB true] else .tuple [AG 0,BB false]:=by
  intro k' i' n' a rows ha h;exact e92 (u0:=.agg [AG k',SS n',AG i',a]) (by simp[ha.close]) (h _ rfl)
 cases b7:(k==7) with
 | true=>
  rw[b7] at hx ht;simp only[AN,AI,Cq] at hx ht;obtain⟨a,rfl,ha⟩:=hx;have hd:=Un i.toNat;have go':=go 2 0 (36::HW i.toNat) a _ ha;rw[b7] at go';refine go' λPost hP=>AD9 (Bu rfl (by simp[ha.ok]) (AM rfl (AX rfl rfl (EB ?_))))
  refine Ak (AM rfl (Ak (AX rfl rfl (Ak (sln (Ak (Ao (pk ?_))))))));have h2:¬ (((36::HW i.toNat).length:Nat):Int)<2:=AB;rw[A2 h2];refine Ak (AM rfl (Ak (AX rfl rfl (Ak (six (c:=36) AA rfl (Ak (EB (pk (Ar ?_)))))))));refine APc (AM rfl (AX rfl rfl ?_));refine rR (t:=9) (x:=.tmp 23) AR AW rfl ?_;refine AH (hn.ato i.toNat AA) ?_;rintro v rfl;refine CO rfl (CO rfl (rS (t:=136) (c:=136) (x:=.tmp 29) AR rfl AW ?_));have e:((i.toNat:Nat):Int)=i:=AA;rw[e];exact⟨_,AR,hP⟩
 | false=>
  rw[b7] at hx ht;simp only[AL,AI,Cq] at hx ht;obtain⟨a,rfl,ha⟩:=hx;have go':=go k i n a _ ha;rw[b7] at go';refine go' λPost hP=>AD9 (Bu rfl (by simp[ha.ok]) (AM rfl (AX rfl rfl (EB ?_))))
  have fin:∀(s:AQ),QP Post (.tuple [AG 0,BB false]) s:=λs=>⟨_,AR,hP⟩
  by_cases h2:k=2
  .subst h2
   refine Ak (AM rfl (Ak (AX rfl rfl (Ak (sln (Ak (Ao (pk ?_))))))))
   by_cases hl:(n.length:Int)<2
   .simp[*]
   .rw[A2 hl]
    obtain⟨c,w,rfl⟩:=Nd (l:=n) AB;have hne:=ABr (c:=c) (w:=w) AB
    simp_all[six]
  .have hb:(k != 2)=true:=by grind
   simp[*]
abbrev phA (v:Nat):AV:=.agg [AG 2,SS (36::HW v),AG 0,.AE []]
theorem LR (hn:MY R) (v:Nat) (hv:v<2 ^ 40):Ae (env R) 90 [AG v] λr=>r=phA v:=by
 have hd:=Un v;refine e90 (u0:=AG v) AD (APd ?_);refine AH (hn.ito v hv) ?_;rintro _ rfl;refine AIC AB (HO rfl ?_);refine Bn (old:=[AG 0,SS [],AG 0,.AE []]) rfl rfl rfl AK (AO _) rfl (.inl (AO _)) ?_;refine Af rfl rfl ?_;exact⟨phA v,AR,rfl⟩
theorem BP.app {s:AQ} (h:BP s) {b:List AV} (hb:Ag (s.bs.length+1) b=true):BP ⟨s.bs++[b],s.ts⟩:=by
 intro c hc;simp only[Bo,B4,B6];rcases B7.1 hc with hc|hc
 .exact Bg AA c (h c hc)
 grind
theorem JZ {rr:Bool} {s:AQ} (hs:BP s) {m:List (List AV)} {p:PV} {Post:AV->AQ->Prop} (h:Post (.pv p) s):QM rr s.bs.length Post (.pv p) ⟨s.bs++m,s.ts⟩:=by
 have e:(s.bs++m).take s.bs.length=s.bs:=AD;refine AEA ?_ ?_
 .simp only[e]
  rw[DE];exact hs
 simp[*]
theorem ABs {α:Type} {row:α->List PV} (hrow:∀a,(row a).length=4) {f:FuncId} {cs:List AV} {g:α->Bool} {ts:List α} {y:AV} (hy:A0 y (ts.map row)) (hl:ts.length<2 ^ 60) {s:AQ} (hf:∀t∈ts,∀L,BG (env R) L f (.agg ((row t).map .pv)::cs) s (BB (g t)) s) {n0 ro rt:Nat} {QR:QT} :
  ∀(j q:Nat),q+j=ts.length->(∀i:Int,decide (0<=i)=(ts.drop q).any g->QR (AG i) s)->Zt R n0 ro rt y (.func (.func f) [] cs) (AG ts.length) (AG q) s QR:=by
 intro j
 induction j with
 | zero=>
  intro q hi hP;refine Q9 (Ao ?_);have h1:¬ ((q:Int)<ts.length):=AA;rw[A2 h1];refine Ar (jL ?_);have h2:ts.drop q=[]:=CA AA;rw[h2] at hP;exact hP (-1) AD
 | succ j D9=>
  intro q hi hP;refine Q9 (Ao ?_);have h1:((q:Int)<ts.length):=AA;rw[Aq h1];refine A1 (jM ?_);obtain⟨t,ht⟩:∃t,ts[q]?=some t:=⟨_,Ay AA⟩;have hd:=drop_cons ht;rw[hd] at hP;refine BR hy (row:=row t) AA (by simp[ht]) (hrow t) AA ?_;have hc:=hf t (A5 ht)
  have e4:∀K:AV->Prop,K (.agg ((row t).map .pv))->Df (env R) s (some 4) (.Ct (row t) 0) K:=by
   intro K hK;simp only[Df,DQ,JL];refine⟨by rw[Bt,hrow]; omega,?_⟩;rw[CV (by rw[Bt,hrow]; omega)];exact hK
  refine e4 _ ?_;refine⟨BB (g t),s,hc _,?_⟩;cases hg:g t with
  | true=>simp[*]
  | false=>
   refine Ar (jN (Be AA AA ?_));simp only[PI,hg,GL] at hP;have:=D9 (q+1) AA hP;simpa using this
theorem Z9 {α:Type} {row:α->List PV} (hrow:∀a,(row a).length=4) {f:FuncId} {cs:List AV} {g:α->Bool} {ts:List α} {y:AV} (hy:A0 y (ts.map row)) (hl:ts.length<2 ^ 60) {s:AQ} (hs:BP s) (hcs:C7 cs=false) (hf:∀t∈ts,∀L,BG (env R) L f (.agg ((row t).map .pv)::cs) s (BB (g t)) s) (L:BI) :
  BG (env R) L 94 [y,.func (.func f) [] cs] s (BB (ts.any g)) s:=by
 have hi:∀L,∃i:Int,decide (0<=i)=ts.any g/\BG (env R) L 125 [y,.func (.func f) [] cs] s (AG i) s:=by
  intro L
  obtain⟨v,s',⟨i,rfl,rfl,h⟩,hc⟩:=APe (R:=R) (L:=L) (s:=s) (t0:=y) (t1:=.func (.func f) [] cs) (Post:=λv s'=>∃i:Int,v=AG i/\s'=s/\decide (0<=i)=ts.any g) (by grind[C7,FR]) (Zu (Au (n:=ts.length) (by rw[hy.BD,Bt]) (ABs hrow hy hl hf ts.length 0 AA λi h=>by
   have:=JZ (rr:=L.rr 125) hs (m:=[]) (p:=.sc (.int .i64 i)) (Post:=λv s'=>∃i:Int,v=AG i/\s'=s/\decide (0<=i)=ts.any g) ⟨i,rfl,rfl,AB⟩
   simp_all)))
  grind
 obtain⟨v,s',⟨rfl,rfl⟩,hc⟩:=m94 (R:=R) (L:=L) (s:=s) (t0:=y) (t1:=.func (.func f) [] cs) (Post:=λv s'=>v=BB (ts.any g)/\s'=s) (by grind[C7,FR]) (mE (by
  obtain⟨i,h,hc⟩:=hi (CT (env R) 94 0 L.ro L.rt);refine⟨AG i,s,hc,L9 ?_⟩;have:=JZ (rr:=L.rr 94) hs (m:=[]) (p:=.sc (.bool (ts.any g))) (Post:=λv s'=>v=BB (ts.any g)/\s'=s) ⟨rfl,rfl⟩
  simp_all))
 omega
theorem Cx (t:Ty):((Ah t).map AV.pv).all A7=true:=by cases t; rfl
mutual
theorem M6 (hn:MY R) {N:Nat} (hN:N<=2 ^ 40) (v:Nat):∀(t:Ty) (inv:Bool),size t<2 ^ 60->GC N t=true->∀(x:AV),A8 (ren t) x->Ae (env R) 62 [x,AG v,BB inv] λr=>r=BB (Cw v inv t)
 | .mk k n i ts,inv,h,ht,x,hx=>by
  have hv:=K1 hn hN ht hx;have ht':=ht;rw[GC] at ht;rw[ren] at hx;rw[Cw];simp only[size] at h;cases b7:(k==7) with
  | true=>
   rw[b7] at hx hv ht;simp only[AN,AI,Cq] at hx hv ht;obtain⟨a,rfl,ha⟩:=hx;refine e62 (u0:=.agg [AG 2,SS (36::HW i.toNat),AG 0,a]) (u1:=AG v) (u2:=BB inv) (by simp[ha.close]) (AEB ?_);refine Bu rfl (by simp[ha.ok]) (Bu rfl rfl (Bu rfl rfl (Af rfl rfl (AH hv ?_))));rintro _ rfl;refine CO rfl (CO rfl (A1 (AX rfl rfl (Av ?_))));simp only[AN];cases he:(i==(v:Int)) with
   | true=>exact Ak (AX rfl rfl (Ak (nt (pk ⟨_,GX,by cases inv <;> rfl⟩))))
   | false=>exact Bf (Bf (pk ⟨_,GX,by cases inv <;> rfl⟩))
  | false=>
   rw[b7] at hx hv ht;simp only[AL,AI,Cq] at hx hv ht;obtain⟨a,rfl,ha⟩:=hx;have ih:=P3 hn hN v ts (inv&&!(k==2)) AA ht.2.2;refine e62 (u0:=.agg [AG k,SS n,AG i,a]) (u1:=AG v) (u2:=BB inv) (by simp[ha.close]) (AEB ?_);refine Bu rfl (by simp[ha.ok]) (Bu rfl rfl (Bu rfl rfl (Af rfl rfl (AH hv ?_))));rintro _ rfl;refine CO rfl (CO rfl (Ar (APf (AM rfl (AX rfl rfl ?_)))))
   have hs:BP ⟨[[AG k,SS n,AG i,a],[AG v],[BB inv]],[]⟩:=by
    intro b hb;simp only[A3,D4,D5] at hb;rcases hb with rfl|rfl|rfl <;> simp[Ag,Ax,ha.Ax]
   have hsz:=BS ts
   have Np:A0 a (ts.map λt=>Ah (ren t)):=by
    rw[Hj,Bv,PB] at ha;exact ha
   refine⟨_,_,Z9 (λt=>Aj (ren t)) (g:=λt=>Cw v (inv&&!(k==2)) t) (f:=103) (cs:=[.ptr 1 0,.ptr 2 0,.ptr 0 0]) Np AA hs AR ?_ _,?_⟩
   .intro t hm L
    have hc:=ih t hm
    obtain⟨w,s',⟨rfl,rfl⟩,hcc⟩:=AZf (R:=R) (L:=L) (s:=⟨[[AG k,SS n,AG i,a],[AG v],[BB inv]],[]⟩) (t0:=.agg ((Ah (ren t)).map .pv)) (t1:=.ptr 1 0) (t2:=.ptr 2 0) (t3:=.ptr 0 0) (Post:=λw s'=>w=BB (Cw v (inv&&!(k==2)) t)/\s'=⟨[[AG k,SS n,AG i,a],[AG v],[BB inv]],[]⟩) (by simp[C7,FR]) (AID (by
     generalize hr:(Ah (ren t)).map AV.pv=r at hc;have hrl:r.length=4:=by grind[Aj]
     have hro:r.all A7=true:=by grind[Cx]
     refine Bu rfl hro (Af rfl hrl (AX rfl rfl (AX rfl rfl ?_)))
     have fin:∀(b:Bool) (s1:AQ),s1=⟨[[AG k,SS n,AG i,a],[AG v],[BB inv],r],[]⟩->b=(inv&&!(k==2))->D0 (env R) (CT (env R) 103 0 L.ro L.rt) (.func (.func 62) [] []) [.agg r,AG v,BB b] s1 (λa14 rT=>QM (L.rr 103) 3 (λw s'=>w=BB (Cw v (inv&&!(k==2)) t)/\s'=⟨[[AG k,SS n,AG i,a],[AG v],[BB inv]],[]⟩) a14 rT):=by
      rintro b s1 rfl rfl;refine AH hc ?_;rintro _ rfl;exact JZ (s:=⟨[[AG k,SS n,AG i,a],[AG v],[BB inv]],[]⟩) hs (m:=[r]) (p:=.sc (.bool _)) ⟨rfl,rfl⟩
     cases inv with
     | true=>simp_all[bne]
     | false=>simp_all))
    omega
   .refine⟨_,GX,?_⟩
    have:∀l:List Ty,l.any (λt=>Cw v (inv&&!(k==2)) t)=ET v (inv&&!(k==2)) l:=by
     intro l
     induction l with
     | nil=>rfl
     | cons e l ih=>grind[ET]
    grind
theorem P3 (hn:MY R) {N:Nat} (hN:N<=2 ^ 40) (v:Nat):∀(l:List Ty) (inv:Bool),Ac l<2 ^ 60->Gg N l=true->∀t∈l,Ae (env R) 62 [.agg ((Ah (ren t)).map .pv),AG v,BB inv] λr=>r=BB (Cw v inv t)
 | [],_,_,_,_,h=>by cases h
 | e::l,inv,h,ht,t,hm=>by
  simp only[Ac] at h;simp only[Gg,AI] at ht;rcases A3.1 hm with h' | h'
  .rw[h']
   exact M6 hn hN v e inv AA ht.1 _ (A8.Bk _)
  .exact P3 hn hN v l inv AA ht.2 t h'
end
end
theorem Ae.told {E:Env} {f:FuncId} {fn:Func} {T:BI->List AV->AQ->Option (AV×AQ)} {args:List AV} {v:AV} {Post:AV->Prop} (hfn:E.P.funcs[f]?=some fn) (hc:E.clone f=true) (ht:E.told f=some T) (h:∀L s,T L args s=some (v,s)) (hp:Post v):Ae E f args Post:=by
 refine⟨v,hp,λL s=>⟨1,λm hm=>?_⟩⟩;obtain⟨m,rfl⟩:∃k,m=k+1:=⟨m-1,AA⟩
 grind[Dw,N9]
theorem dV {d:Nat} (h:d<10):(UInt8.ofNat (48+d)).toNat=48+d:=by grind[UInt8.toNat_ofNat']
theorem dW:∀(f k n:Nat) (acc:List UInt8),0<k->n<10 ^ k->(LQ f n acc).length<=acc.length+k
 | 0,k,n,acc,_,_=>by simp[LQ]
 | f+1,k,n,acc,hk,hn=>by
  rw[LQ];cases hb:Nat.blt n 10 with
  | true=>
   grind
  | false=>
   have h10:¬ n<10:=λh=>by grind[Nat.blt,Nat.ble_eq_true_of_le]
   obtain⟨j,rfl⟩:∃j,k=j+1:=⟨k-1,AA⟩;rw[TD] at hn;have hj:0<j:=AB;have:=dW f j (n / 10) (UInt8.ofNat (48+n % 10)::acc) hj AA
   grind
theorem Uo {d a:Nat} (h:d<10) (l:List UInt8):LS (UInt8.ofNat (48+d)::l) a=LS l (a*10+d):=by grind[LS,dV,Nat.ble_eq_true_of_le]
theorem Up:∀(f n:Nat) (acc:List UInt8),n<10 ^ f->LS (LQ f n acc) 0=LS acc n
 | 0,n,acc,h=>by
  have:n=0:=AA;subst this;rfl
 | f+1,n,acc,h=>by
  rw[LQ];cases hb:Nat.blt n 10 with
  | true=>
   have h10:n<10:=G0 hb
   grind[Uo]
  | false=>
   rw[TD] at h;simp only[AL];rw[Up f (n / 10) _ AA,Uo AA]
   grind
theorem num {R:RT}:MY R:=by
 refine⟨λn hn=>?_,λn hn=>?_⟩
 .refine Ae.told (fn:=Tryz.f123) (T:=qA) Tryz.func123 AR AR (λL s=>?_) rfl
  show(bif Nat.blt n 1099511627776 then some (SS (HW n),s) else none:Option (AV×AQ))=_
  grind[Nat.blt,Nat.ble_eq_true_of_le]
 .have hl:=Un n
  have Sd:(HW n).length<=18:=by
   have:=dW 20 18 n [] AK (Fo hn AK)
   assumption
  have hu:LS (HW n) 0=some n:=Up 20 n [] (Fo hn AK);refine Ae.told (fn:=Tryz.f124) (T:=jE) Tryz.func124 AR AR (λL s=>?_) rfl
  grind[jE,Nat.ble_eq_true_of_le]
end Go.Proofs.YtpgfpakdnijngaaGreatDoor
