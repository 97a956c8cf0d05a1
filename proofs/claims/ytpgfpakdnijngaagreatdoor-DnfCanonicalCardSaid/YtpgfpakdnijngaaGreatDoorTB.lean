/-
  Branches: the program's and the reference's are alike: bounds that are put in, eliminated variables.
-/
import Derived.Test.YtpgfpakdnijngaaGreatDoorTA
set_option linter.all false
namespace Go.Proofs.YtpgfpakdnijngaaGreatDoor
open Go.Tel
def CG {α β:Type} (R:α->β->Prop):List α->List β->Prop
 | [],[]=>True
 | a::l,b::m=>R a b/\CG R l m
 | _,_=>False
section
variable {α β:Type}
theorem CG.mono {R S:α->β->Prop} (h:∀a b,R a b->S a b):∀{l:List α} {m:List β},CG R l m->CG S l m
 | [],[],_=>trivial
 | _::_,_::_,⟨h1,h2⟩=>⟨h _ _ h1,h2.mono h⟩
 | [],_::_,h=>h.elim
 | _::_,[],h=>h.elim
theorem CG.length {R:α->β->Prop}:∀{l:List α} {m:List β},CG R l m->l.length=m.length
 | [],[],_=>rfl
 | _::_,_::_,⟨_,h⟩=>by simp[h.length]
 | [],_::_,h=>h.elim
 | _::_,[],h=>h.elim
theorem CG.append {R:α->β->Prop}:∀{l l':List α} {m m':List β},CG R l m->CG R l' m'->CG R (l++l') (m++m')
 | [],_,[],_,_,h=>h
 | _::_,_,_::_,_,⟨h1,h2⟩,h=>⟨h1,h2.append h⟩
 | [],_,_::_,_,h,_=>h.elim
 | _::_,_,[],_,h,_=>h.elim
end
def Lf {α:Type} (Q:List Ty->α->Ty->Prop) (B:List Ty):Option (List α)->FV->Prop
 | none,(none,B')=>B<+:B'
 | some r,(some ps,B')=>B<+:B'/\CG (Q B') r ps
 | _,_=>False
theorem EB {A B C:List Ty} (h:A<+:B) (h':B<+:C):A<+:C:=h.trans h'
theorem Mo {A B:List Ty} (h:A<+:B) {i:Nat} {t:Ty} (hi:A[i]?=some t):B[i]?=some t:=by
 obtain⟨C,rfl⟩:=h
 grind
theorem F6 {A B:List Ty} (h:A<+:B):A.length<=B.length:=h.length_le
section
variable (Au:Nat->Bool)
theorem gG {α β γ:Type} {Q:List Ty->γ->Ty->Prop} (hQ:∀B B' a b,B<+:B'->Q B a b->Q B' a b) {S:α->β->Prop} {g:α->Option (List γ)} {g':β->List Ty->FV} {B0:List Ty}
  (hg:∀a b B,B0<+:B->S a b->Lf Q B (g a) (g' b B)):∀(l:List α) (m:List β) (out:List γ) (out':List Ty) (B:List Ty),B0<+:B->CG S l m->CG (Q B) out out'->Lf Q B (Oh Au g l out) (CX Au g' m out' B)
 | [],[],out,out',B,_,_,h=>⟨Cw _,h⟩
 | [],_::_,_,_,_,_,h,_=>h.elim
 | _::_,[],_,_,_,_,h,_=>h.elim
 | a::l,b::m,out,out',B,hB,⟨h1,h2⟩,h=>by
  have hs:=hg a b B hB h1;rw[Oh,CX];cases hr:g a with
  | none=>
   rw[hr] at hs;rcases aO:g' b B with ⟨r',B'⟩
   rw[aO] at hs;cases r' with
   | some _=>exact hs.elim
   | none=>omega
  | some r=>
   rw[hr] at hs;rcases aO:g' b B with ⟨r',B'⟩
   rw[aO] at hs;cases r' with
   | none=>exact hs.elim
   | some ps=>
    obtain⟨hp,ha⟩:=hs;have hall:CG (Q B') (out++r) (out'++ps):=(h.mono λa b=>hQ _ _ a b hp).append ha;have hl:(out++r).length=(out'++ps).length:=hall.length
    show Lf Q B (bif Au (out++r).length then none else _) (bif Au (out'++ps).length then(none,B') else _)
    rw[<-hl];cases Au (out++r).length with
    | true=>exact hp
    | false=>
     have:=gG hQ hg l m (out++r) (out'++ps) B' (EB hB hp) h2 hall;simp only[AE];revert this;cases Oh Au g l (out++r) <;> obtain⟨r2,B2⟩:=CX Au g' m (out'++ps) B' <;> cases r2 <;> intro this
     .exact EB hp this
     .exact this
     .exact this
     .exact⟨EB hp this.1,this.2⟩
end
def Om (φ σ:List Nat) (v:Nat) (i:Int):Nat:=bif i==hole then v else bif decide (0<=i) then φ.getD i.toNat 0 else σ.getD (-1-i).toNat 0
theorem MB {φ σ:List Nat} {v:Nat}:Om φ σ v hole=v:=by rfl
theorem kC {φ σ:List Nat} {v x:Nat} {i:Nat} (h:φ[i]?=some x) (hs:φ.length<hole):Om φ σ v (i:Int)=x:=by grind[Om]
theorem Hw {φ σ:List Nat} {v:Nat} {i:Int} (h:i<0):Om φ σ v i=σ.getD (-1-i).toNat 0:=by
 have hne:(i==hole)=false:=by grind[hole]
 grind[Om]
structure Rl (h:Bool) (v:Nat) (B:List Ty) (lo hi:Nat) (σ:List Nat) (b:Br) (p:Ty) (φ:List Nat):Prop where
 nd:φ.Nodup
 On:∀x∈φ,lo<=x/\x<hi
 len:b.bounds.length=φ.length
 KX:∀(i x:Nat),φ[i]?=some x->B[x]?=b.bounds[i]?
 small:φ.length<hole
 bd:bd b.body=true
 vis:∀i∈vis b.body,(0<=i/\i<φ.length)\/(i<0/\-i<=σ.length)\/(h=true/\i=hole)
 eq:p=tr (Om φ σ v) b.body
theorem Rl.mono {h:Bool} {v:Nat} {B B':List Ty} {lo lo' hi hi':Nat} {σ:List Nat} {b:Br} {p:Ty} {φ:List Nat} (H:Rl h v B lo hi σ b p φ) (hB:B<+:B') (hb:hi<=B.length) (h1:lo'<=lo) (h2:hi<=hi'):Rl h v B' lo' hi' σ b p φ:=
 {H with
  On:=λx hx=>by have:=H.On x hx; omega
  KX:=λi x hx=>by
   have h3:=H.KX i x hx;have h4:=(H.On x (BA hx)).2
   grind[Mo] }
theorem gH {φ:List Nat} {i:Int} (h0:0<=i) (h1:i<φ.length):∃x,φ[i.toNat]?=some x/\x∈φ:=by simp[*]
theorem Rl.uT {h:Bool} {v:Nat} {B:List Ty} {lo hi:Nat} {σ:List Nat} {b:Br} {p:Ty} {φ:List Nat} (H:Rl h v B lo hi σ b p φ) {w:Nat} (hw:w<lo\/hi<=w) (hσ:w∉σ) {i:Int} (hi:i∈Proofs.YtpgfpakdnijngaaGreatDoor.vis b.body) (hh:i≠hole):Om φ σ v i≠w:=by
 rcases H.vis i hi with ⟨h0,h1⟩|⟨h0,h1⟩|⟨_,h1⟩
 .obtain⟨x,hx,hm⟩:=gH h0 h1
  have:=H.On x hm
  grind[Om]
 .rw[Hw h0]
  obtain⟨x,hx⟩:∃x,σ[(-1-i).toNat]?=some x:=⟨_,Ap (by omega)⟩;simp only[List.getD,hx,Ie];rintro rfl;exact hσ (BA hx)
 omega
theorem E7 {l:List Int} {k:Nat} (h:l.findIdx? (·==hole)=some k):l[k]?=some hole/\∀i∈l.take k,i≠hole:=by grind[List.findIdx?_eq_some_iff_getElem,List.getElem_of_mem]
theorem TG {l:List Int} {k:Nat} (h:l[k]?=some hole) (hn:∀i∈l.take k,i≠hole):l.count hole=(l.drop (k+1)).count hole+1/\(l.take k).count hole=0:=by grind[List.drop_eq_getElem_cons,List.take_append_drop]
theorem Oo {φ ψ σ:List Nat} {v:Nat} {i:Int} (h:(0<=i/\i<φ.length)\/(i<0)\/i=hole) (hs:φ.length<hole):Om (φ++ψ) σ v i=Om φ σ v i:=by
 rcases h with ⟨h0,h1⟩|h|rfl
 .grind[Om]
 all_goals grind[Hw,MB]
theorem ANf {B:List Ty} {lo hi:Nat} {c:Br} {q:Ty} {φ ψ σ:List Nat} {v w:Nat} (H:Rl false w B lo hi [] c q ψ) (hs:φ.length+ψ.length<hole):q=tr (Om (φ++ψ) σ v) (Je φ.length c.body) /\
  (∀i∈vis (Je φ.length c.body),φ.length<=i/\i<φ.length+ψ.length)/\bd (Je φ.length c.body)=true/\Al (Je φ.length c.body)=(Al c.body).map λi=>bif decide (0<=i)&&!(i==hole) then i+φ.length else i:=by
 have hv:∀i∈vis c.body,0<=i/\i<ψ.length:=by
  intro i hi;rcases H.vis i hi with h|h|h
  all_goals grind
 have eg:Je φ.length=BR λi=>var (bif decide (0<=i)&&!(i==hole) then i+φ.length else i):=by grind[Je]
 have hg:∀i∈vis c.body,(bif decide (0<=i)&&!(i==hole) then i+(φ.length:Int) else i)=i+φ.length:=by grind
 rw[eg];refine⟨?_,?_,P6 _ _ H.bd,EJ _ _⟩
 .rw[H.eq,tr,tr,Gv]
  refine C3 _ λi hi=>?_
  have hi':=hv i hi;rw[hg i hi];obtain⟨x,hx,_⟩:=gH hi'.1 hi'.2;have e1:Om ψ [] w i=x:=by grind[kC]
  have e2:Om (φ++ψ) σ v (i+φ.length)=x:=by
   have hx':(φ++ψ)[φ.length+i.toNat]?=some x:=by grind
   have:=kC (σ:=σ) (v:=v) hx' (by grind)
   grind
  rw[e1,e2]
 .rw[Hv]
  grind
section
variable {Au:Nat->Bool}
def uU (Au:Nat->Bool) (l:Option (List Br)) (h fR:Nat) (b:Br):Option (List Br):=match h with
 | 0=>some [b]
 | _+1=>match l with
  | none=>none
  | some r=>HE Au r fR b
theorem fill_eq {l:Option (List Br)} {ex:List Ty->FV} {v lo:Nat} {σ:List Nat} {w:Nat} (hlo:lo<=v) (hσ:v∉σ)
  (hex:∀B,Lf (λB' c q=>∃ψ,Rl false 0 B' B.length B'.length [] c q ψ) B l (ex B)) (hw:∀r,l=some r->∀c∈r,c.bounds.length<=w) :
  ∀(h fR:Nat) (b:Br) (p:Ty) (B:List Ty) (φ:List Nat),Rl true v B (v+1) B.length σ b p φ->v<B.length->oI (·==hole) b.body=false->(Al b.body).count hole=h->h<=fR->φ.length+h*w<hole ->
   Lf (λB' b p=>∃φ,Rl false 0 B' lo B'.length σ b p φ) B (uU Au l h fR b) (CB Au ex v h p B):=by
 intro h
 induction h with
 | zero=>
  intro fR b p B φ H hv hI h0 hf hs;rw[CB,uU]
  suffices G:Rl false 0 B lo B.length σ b p φ from⟨Cw _,⟨φ,G⟩,AZ⟩
  have hno:∀i∈vis b.body,i≠hole:=by
   rintro i hi rfl;rcases Vq b.body H.bd _ hi with h|h
   all_goals grind
  refine { nd:=H.nd,On:=λx hx=>?_,len:=H.len,KX:=H.KX,small:=H.small,bd:=H.bd,vis:=λi hi=>?_,eq:=?_ }
  .have:=H.On x hx
   omega
  .rcases H.vis i hi with h|h|h
   all_goals grind
  .rw[H.eq]
   grind[C3,Om]
 | succ h ih=>
  intro fR b p B φ H hv hI h0 hf hs;have hmem:hole∈Al b.body:=List.count_pos_iff.1 (by omega)
  have gI:Cz v false p=true:=by
   rw[H.eq,uL _ _ _ H.bd,DX]
   grind[MB]
  rw[CB,gI];simp only[AH];have hx:=hex B;cases hl:l with
  | none=>
   rw[hl] at hx;rcases aO:ex B with ⟨r',B'⟩
   rw[aO] at hx;cases r' with
   | some _=>exact hx.elim
   | none=>exact hx
  | some r=>
   rw[hl] at hx;rcases aO:ex B with ⟨r',B'⟩
   rw[aO] at hx;cases r' with
   | none=>exact hx.elim
   | some ps=>
    obtain⟨hp,hall⟩:=hx;obtain⟨f,rfl⟩:∃f,fR=f+1:=⟨fR-1,by omega⟩
    obtain⟨k,hk⟩:∃k,H8 b.body=some k:=by
     cases hh:H8 b.body with
     | some k=>simp
     | none=>
      grind[H8]
    obtain⟨VR,hk2⟩:=E7 hk;obtain⟨Na,SP⟩:=TG VR hk2;rw[show uU Au (some r) (h+1) (f+1) b=HE Au r (f+1) b from rfl];simp only;rw[HE,hk];simp only
    have step:=gG (Au:=Au) (Q:=λB' b p=>∃φ,Rl false 0 B' lo B'.length σ b p φ) (λA A' a q hA ⟨φ,h⟩=>⟨φ,h.mono hA (AN _) (AN _) (F6 hA)⟩)
     (S:=λc q=>c∈r/\∃ψ,Rl false 0 B' B.length B'.length [] c q ψ) (g:=λc=>HE Au r f (Eh b k c)) (g':=λc B=>CB Au ex v h (J5 (·==(v:Int)) c p 0) B) (B0:=B') ?_ r ps [] [] B' (Cw _) ?_ AZ
    .revert step
     cases Oh Au (λc=>HE Au r f (Eh b k c)) r [] <;> obtain⟨r2,B2⟩:=CX Au (λc B=>CB Au ex v h (J5 (·==(v:Int)) c p 0) B) ps [] B' <;> cases r2 <;> intro step
     .exact EB hp step
     .exact step
     .exact step
     .exact⟨EB hp step.1,step.2⟩
    .rintro c q A hA ⟨hcr,ψ,hψ⟩
     have Ba:=hw r hl c hcr;rw[hψ.len] at Ba;have hmul:(h+1)*w=h*w+w:=by rw[Dm,Rh]
     have oU:φ.length+ψ.length<hole:=by omega
     obtain⟨s1,s2,s3,s4⟩:=ANf (φ:=φ) (σ:=σ) (v:=v) hψ oU;have hkl:k<(Al b.body).length:=(BL.1 VR).1
     have e0:p=tr (Om (φ++ψ) σ v) b.body:=by
      rw[H.eq];refine C3 _ λi hi=>?_
      rw[Oo _ H.small];rcases H.vis i hi with h' | h' | h'
      all_goals omega
     have e1:J5 (·==(v:Int)) q p 0=tr (Om (φ++ψ) σ v) (M1 (Je φ.length c.body) b.body k):=by
      rw[s1,e0];refine(ADw _ _ _ _ k 0 H.bd ⟨hole,VR,by simp[MB]⟩ ?_).symm;rw[List.countP_eq_zero];intro i hi;have uV:=Oi b.body i (List.mem_of_mem_take hi);have hne:=H.uT (w:=v) (.inl (XQ v)) hσ uV (hk2 i hi)
      have:=Oo (ψ:=ψ) (σ:=σ) (v:=v) (φ:=φ) (i:=i) (by
       rcases H.vis i uV with h' | h' | h'
       all_goals omega) H.small
      grind
     have hno:hole∉vis (Je φ.length c.body):=λhh=>by grind
     have hnc:(Al (Je φ.length c.body)).count hole=0:=MZ.2 λhm=>hno (Oi _ _ hm)
     have hBB:B<+:A:=EB hp hA;have key:=ih f (Eh b k c) (J5 (·==(v:Int)) q p 0) A (φ++ψ) ?_ (Fu hv (F6 hBB)) ?_ ?_ (by omega) (by grind)
     .rw[hl] at key
      cases h with
      | zero=>
       have hz:H8 (Eh b k c).body=none:=by
        have hz0:(Al (Eh b k c).body).count hole=0:=by
         show(Al (M1 (Je b.bounds.length c.body) b.body k)).count hole=0
         rw[H.len,Ol _ _ _ hkl,Ri,Ri,SP,hnc];omega
        grind[H8]
       have e:HE Au r f (Eh b k c)=some [Eh b k c]:=by
        cases f with
        | zero=>rfl
        | succ f=>rw[HE,hz]
       show Lf _ A (HE Au r f (Eh b k c)) _
       rw[e];exact key
      | succ h=>exact key
     .refine { nd:=?_,On:=?_,len:=?_,KX:=?_,small:=?_,bd:=?_,vis:=?_,eq:=?_ }
      .rw[XR]
       refine⟨H.nd,hψ.nd,λx hx y hy=>?_⟩;have:=(H.On x hx).2;have:=(hψ.On y hy).1;omega
      .intro x hx
       have hAl:=F6 hBB;have hAl':=F6 hA;rcases CM.1 hx with hx|hx
       .have:=H.On x hx
        omega
       .have:=hψ.On x hx
        omega
      .simp only[Eh,B7,H.len,hψ.len]
      .intro i x hx
       show A[x]?=(b.bounds++c.bounds)[i]?
       by_cases hi:i<φ.length
       .rw[Cf hi] at hx
        rw[Cf (by rw[H.len]; omega)];have:=H.KX i x hx;have hxl:=(H.On x (BA hx)).2
        grind[Mo]
       .rw[Ev (by omega)] at hx
        rw[Ev (by rw[H.len]; omega),H.len];have:=hψ.KX _ x hx;have hxl:=(hψ.On x (BA hx)).2
        grind[Mo]
      .grind
      .show bd (M1 (Je b.bounds.length c.body) b.body k)=true
       rw[H.len];exact ADy _ s3 _ _ H.bd
      .intro i hi
       have hi':i∈vis (M1 (Je b.bounds.length c.body) b.body k):=hi;rw[H.len] at hi';rw[B7];rcases uN _ _ _ i hi' with h' | h'
       .rcases H.vis i h' with h'' | h'' | h''
        all_goals grind
       grind
      .rw[e1]
       show _=tr (Om (φ++ψ) σ v) (M1 (Je b.bounds.length c.body) b.body k)
       rw[H.len]
     .show oI (·==hole) (M1 (Je b.bounds.length c.body) b.body k)=false
      rw[H.len];cases hh:oI (·==hole) (M1 (Je φ.length c.body) b.body k) with
      | false=>rfl
      | true=>
       rcases ADx _ _ _ _ hh with h' | h'
       all_goals grind[uR]
     .show(Al (M1 (Je b.bounds.length c.body) b.body k)).count hole=h
      rw[H.len,Ol _ _ _ hkl,Ri,Ri,SP,hnc];omega
    .have:∀{r':List Br} {ps:List Ty},(∀c∈r',c∈r)->CG (λc q=>∃ψ,Rl false 0 B' B.length B'.length [] c q ψ) r' ps->CG (λc q=>c∈r/\∃ψ,Rl false 0 B' B.length B'.length [] c q ψ) r' ps:=by
      intro r'
      induction r' with
      | nil=>intro ps _ h; cases ps with
       | nil=>trivial
       | cons _ _=>exact h.elim
      | cons a r' ih=>intro ps hm h; cases ps with
       | nil=>exact h.elim
       | cons q ps=>exact⟨⟨hm a (by simp),h.1⟩,ih (λc hc=>hm c (Ew _ hc)) h.2⟩
     grind
end
def ex6:List Nat->Nat
 | [b,c]=>c*(b+1)
 | _=>0
mutual
def cv:Ty->Nat
 | .mk k _ _ ts=>bif k==6 then ex6 (Lg ts) else bif k==3||k==4 then(Lg ts).sum else 1
def Lg:List Ty->List Nat
 | []=>[]
 | t::l=>cv t::Lg l
end
def ex7:List Nat->List Nat->Nat
 | [b,c],[_,cc]=>c+1+(cc+1)*b
 | _,_=>0
mutual
def bw:Ty->Nat
 | .mk k _ _ ts=>bif k==6 then ex7 (bwl ts) (Lg ts) else bif k==3||k==4 then(bwl ts).sum else 0
def bwl:List Ty->List Nat
 | []=>[]
 | t::l=>bw t::bwl l
end
section
variable {Au:Nat->Bool}
theorem JN {α β:Type} {g:α->Option (List β)}:∀{l:List α} {out r:List β},Oh Au g l out=some r->∀d∈r,d∈out\/∃a∈l,∃s,g a=some s/\d∈s
 | [],out,r,h,d,hd=>by grind[Oh]
 | a::l,out,r,h,d,hd=>by
  rw[Oh] at h;cases hg:g a with
  | none=>grind
  | some s=>
   rw[hg] at h;simp only at h;cases hb:Au (out++s).length with
   | true=>grind
   | false=>
    rw[hb] at h;rcases JN h d hd with h' | ⟨a',h1,s',h2,h3⟩
    all_goals grind
theorem aP (n:Nat) (b:Ty):(Al (Je n b)).length=(Al b).length:=by
 have eg:Je n=BR λi=>var (bif decide (0<=i)&&!(i==hole) then i+n else i):=by grind[Je]
 simp[*,EJ]
theorem LF (n:Nat):Mm n=BR λi=>var (bif i==-1 then(n:Int) else bif decide (i<0) then i+1 else i):=by grind[Mm]
theorem J6 (n m:Int):LC n m=BR λi=>var (bif i==n then m else i):=by grind[LC]
theorem LG:mkV=BR λi=>var (-1-i):=rfl
theorem TH {l:List Br} {w u:Nat} (hl:∀c∈l,c.bounds.length<=w/\(Al c.body).length<=u):∀(f:Nat) (b:Br) (r:List Br),HE Au l f b=some r ->
  ∀d∈r,d.bounds.length<=b.bounds.length+f*w/\(Al d.body).length<=(Al b.body).length+f*u
 | 0,b,r,h,d,hd=>by grind[HE]
 | f+1,b,r,h,d,hd=>by
  rw[HE] at h;have m1:(f+1)*w=f*w+w:=by rw[Dm,Rh]
  have m2:(f+1)*u=f*u+u:=by rw[Dm,Rh]
  cases hk:H8 b.body with
  | none=>
   grind
  | some k=>
   rw[hk] at h;rcases JN h d hd with h' | ⟨c,h1,s,h2,h3⟩
   .grind
   .have:=TH hl f _ s h2 d h3
    have hc:=hl c h1;have hkl:k<(Al b.body).length:=(BL.1 (E7 hk).1).1
    grind[Eh,Ol,aP]
theorem aQ {YM:Option (List Br)} {bound:Ty} {b:Br} {w u:Nat} (hl:∀l,YM=some l->∀c∈l,c.bounds.length<=w/\(Al c.body).length<=u) {r:List Br} (h:JM Au YM bound b=some r) :
  ∀d∈r,d.bounds.length<=b.bounds.length+1+(Al b.body).length*w/\(Al d.body).length<=(Al b.body).length*(u+1):=by
 intro d hd;have ec:(Al (Mm b.bounds.length b.body)).length=(Al b.body).length:=by simp[*,LF,EJ]
 have ec2:∀m,(Al (LC b.bounds.length m (Mm b.bounds.length b.body))).length=(Al b.body).length:=λm=>by simp[*,J6,EJ]
 have hm:(Al b.body).length<=(Al b.body).length*(u+1):=Nat.le_mul_of_pos_right _ (by omega);have hm2:(Al b.body).length*(u+1)=(Al b.body).length+(Al b.body).length*u:=by grind
 unfold JM at h;cases hI:oI (·==(b.bounds.length:Int)) (Mm b.bounds.length b.body) with
 | true=>
  grind
 | false=>
  rw[hI] at h;simp only[AE] at h;cases hh:H8 (LC b.bounds.length hole (Mm b.bounds.length b.body)) with
  | none=>
   grind
  | some k=>
   rw[hh] at h;cases hb:YM with
   | none=>grind
   | some l=>
    rw[hb] at h;have:=TH (hl l hb) _ _ r h d hd
    grind
theorem JO {α β:Type} {g:α->Option β}:∀{ts:List α} {ls:List β},IU (ts.map g)=some ls->CG (λt l=>g t=some l) ts ls
 | [],ls,h=>by
  simp only[Ci,IU,Aw] at h;subst h
  trivial
 | t::ts,ls,h=>by
  simp only[Bz] at h;cases hg:g t with
  | none=>grind[IU]
  | some a=>
   rw[hg,IU] at h;cases hr:IU (ts.map g) with
   | none=>grind
   | some r=>
    rw[hr] at h;simp only[Aw] at h;subst h;exact⟨hg,JO hr⟩
theorem Vs:∀{ls:List (List Br)} {ws us:List Nat} {out r:List Br} {N M:Nat},(CG (λl w=>∀c∈l,c.bounds.length<=w) ls ws)->(CG (λl w=>∀c∈l,(Al c.body).length<=w) ls us) ->
  (∀b∈out,b.bounds.length<=N/\(Al b.body).length<=M/\∃args,b.body=.mk 3 [] 0 args)->Ln Au ls out=some r->∀d∈r,d.bounds.length<=N+ws.sum/\(Al d.body).length<=M+us.sum
 | [],[],[],out,r,N,M,_,_,ho,h,d,hd=>by grind[Ln]
 | [],_::_,_,_,_,_,_,h,_,_,_,_,_=>h.elim
 | [],[],_::_,_,_,_,_,_,h,_,_,_,_=>h.elim
 | _::_,[],_,_,_,_,_,h,_,_,_,_,_=>h.elim
 | _::_,_::_,[],_,_,_,_,_,h,_,_,_,_=>h.elim
 | l::ls,w::ws,u::us,out,r,N,M,⟨hw,hws⟩,⟨hu,hus⟩,ho,h,d,hd=>by
  rw[Ln] at h;cases hb:Au (NJ out l).length with
  | true=>grind
  | false=>
   rw[hb] at h;have:=Vs (N:=N+w) (M:=M+u) hws hus ?_ h d hd
   .grind
   .intro b hb'
    unfold NJ at hb';obtain⟨b0,h0,h1⟩:=OE.1 hb';obtain⟨c,h2,rfl⟩:=Cp.1 h1;obtain⟨q1,q2,args,q3⟩:=ho b0 h0;have:=hw c h2;have:=hu c h2;rw[q3];refine⟨by grind,?_,_,rfl⟩
    have ea:CL (args++[Je b0.bounds.length c.body])=CL args++Al (Je b0.bounds.length c.body):=by
     have:∀(l:List Ty) (t:Ty),CL (l++[t])=CL l++Al t:=by
      intro l t
      induction l with
      | nil=>simp[CL]
      | cons a l ih=>grind[CL]
     grind
    grind[Al,aP]
theorem P8:∀l:List Ty,Lg l=l.map cv
 | []=>rfl
 | t::l=>by rw[Lg,P8 l]; rfl
theorem Gg:∀l:List Ty,bwl l=l.map bw
 | []=>rfl
 | t::l=>by rw[bwl,Gg l]; rfl
theorem CG.JP {α β γ:Type} {R:α->β->Prop} {S:β->γ->Prop} {g:α->γ}:∀{l:List α} {m:List β},(∀a b,a∈l->R a b->S b (g a))->CG R l m->CG S m (l.map g)
 | [],[],_,_=>trivial
 | a::l,b::m,h,⟨h1,h2⟩=>⟨h a b (by simp) h1,h2.JP λa b ha=>h a b (Ew _ ha)⟩
 | [],_::_,_,h=>h.elim
 | _::_,[],_,h=>h.elim
theorem CG.Mp {α β:Type} {R:α->β->Prop}:∀{l:List α} {m:List β},CG R l m->∀b∈m,∃a∈l,R a b
 | [],[],_,b,h=>by cases h
 | a::l,c::m,⟨h1,h2⟩,b,h=>by
  rcases Az.1 h with rfl|h
  .grind
  .obtain⟨a',h3,h4⟩:=h2.Mp b h
   grind
 | [],_::_,h,_,_=>h.elim
 | _::_,[],h,_,_=>h.elim
theorem Eb:∀{l:List Nat} {n:Nat},n∈l->n<=l.sum
 | a::l,n,h=>by
  rw[Ma];rcases Az.1 h with rfl|h
  .omega
  .have:=Eb h
   omega
theorem DS:∀(f:Nat) (t:Ty) (l:List Br),HQ Au f t=some l->∀c∈l,c.bounds.length<=bw t/\(Al c.body).length<=cv t
 | 0,t,l,h,c,hc=>by grind[HQ]
 | f+1,.mk k n i ts,l,h,c,hc=>by
  rw[HQ] at h;rw[bw,cv]
  by_cases k0:k=0
  .grind[Al]
  have b0:(k==0)=false:=by grind
  rw[b0] at h;simp only[AE] at h;cases b25:(k==2||k==5) with
  | true=>
   rw[b25] at h;simp only[AH,Aw] at h;subst h;rw[DF.1 hc];have b6:(k==6)=false:=by grind
   have b34:(k==3||k==4)=false:=by grind
   rw[b6,b34];simp only[AE,LG,EJ,Bn,Ce,AN,true_and]
   grind[Al]
  | false=>
   rw[b25] at h;simp only[AE] at h
   by_cases k3:k=3
   .subst k3
    simp only[CN,AH] at h;cases hs:IU (ts.map (HQ Au f)) with
    | none=>grind
    | some ls=>
     rw[hs] at h;simp only at h;have ha:=JO hs;cases he:ls.any List.isEmpty with
     | true=>grind
     | false=>
      rw[he] at h;have q1:CG (λl w=>∀c∈l,c.bounds.length<=w) ls (ts.map bw):=ha.JP λt l _ hg c hc=>(DS f t l hg c hc).1
      have q2:CG (λl w=>∀c∈l,(Al c.body).length<=w) ls (ts.map cv):=ha.JP λt l _ hg c hc=>(DS f t l hg c hc).2
      have:=Vs (N:=0) (M:=0) q1 q2 (λb hb=>by simp_all[Al,CL]) h c hc
      grind[Gg,P8]
   have b3:(k==3)=false:=by grind
   rw[b3] at h;simp only[AE] at h
   by_cases k4:k=4
   .subst k4
    simp only[CN,AH] at h;cases hs:IU (ts.map (HQ Au f)) with
    | none=>grind
    | some ls=>
     rw[hs] at h;simp only at h;have ha:=JO hs;cases hb:Au ls.flatten.length with
     | true=>grind
     | false=>
      rw[hb] at h;simp only[AE,Aw] at h;subst h;obtain⟨l',h1,h2⟩:=XS.1 hc;obtain⟨t,h3,h4⟩:=ha.Mp l' h1;have:=DS f t l' h4 c h2;have s1:bw t<=(bwl ts).sum:=by simp[*,Gg,Eb,Fx]
      have s2:cv t<=(Lg ts).sum:=by simp[*,P8,Eb,Fx]
      grind
   have b4:(k==4)=false:=by grind
   rw[b4] at h;simp only[AE] at h
   by_cases k6:k=6
   .subst k6
    simp only[CN,AH] at h ⊢;rcases ts with _|⟨b,_|⟨body,_|⟨z,r⟩⟩⟩
    .cases h; grind
    .cases h; grind
    .simp only[eE] at h
     cases hb:HQ Au f body with
     | none=>grind
     | some l0=>
      rw[hb] at h;simp only at h;simp only[Lg,bwl,ex6,ex7];rcases JN h c hc with h' | ⟨a,h1,s,h2,h3⟩
      .grind
      .have i0:=DS f body l0 hb a h1
       have i1:=aQ (λl hl c hc=>DS f b l hl c hc) h2 c h3;have m1:(Al a.body).length*bw b<=cv body*bw b:=CJ _ i0.2;have m2:(Al a.body).length*(cv b+1)<=cv body*(cv b+1):=CJ _ i0.2
       grind
    .cases h; grind
   grind
end
section
variable {Au:Nat->Bool}
theorem Ir {φ σ:List Nat} {v:Nat} {i:Int} (h0:0<=i) (h1:i<φ.length) (hs:φ.length<=hole):∃x,φ[i.toNat]?=some x/\x∈φ/\Om φ σ v i=x:=by grind[Om]
theorem ABw {YM:Option (List Br)} {ex:List Ty->FV} {EW:Ty} {v:Nat} {σ:List Nat} {w:Nat} (hσ:v∉σ)
  (hex:∀B,Lf (λB' c q=>∃ψ,Rl false 0 B' B.length B'.length [] c q ψ) B YM (ex B)) (hw:∀r,YM=some r->∀c∈r,c.bounds.length<=w)
  {b:Br} {p:Ty} {B:List Ty} {φ:List Nat} (H:Rl false 0 B (v+1) B.length (v::σ) b p φ) (hv:B[v]?=some EW) (hs:φ.length+1+(Al b.body).length*w<hole) :
  Lf (λB' b p=>∃φ,Rl false 0 B' v B'.length σ b p φ) B (JM Au YM EW b) (Bl Au ex v p B):=by
 have hvl:=(BL.1 hv).1;have hφ:(φ.length:Int)+1<hole:=by grind
 obtain⟨g1,hg1⟩:∃g1:Int->Int,g1=λi=>bif i==-1 then(φ.length:Int) else bif decide (i<0) then i+1 else i:=⟨_,rfl⟩
 obtain⟨b1,N3⟩:∃b1,b1=Mm b.bounds.length b.body:=⟨_,rfl⟩;have hbi:b1=BR (λi=>var (g1 i)) b.body:=by rw[N3,LF,H.len,hg1]
 have ABx:bd b1=true:=by rw[hbi]; exact P6 _ _ H.bd
 have AUn:(Al b1).length=(Al b.body).length:=by rw[hbi,EJ,Bn]
 have hv1:∀i∈vis b1,(0<=i/\i<φ.length+1)\/(i<0/\-i<=σ.length):=by
  rw[hbi,Hv];intro j hj;obtain⟨i,hi,rfl⟩:=Cp.1 hj;rw[hg1];rcases H.vis i hi with h|h|h
  all_goals grind
 have hnv:v∉φ:=λhm=>by have:=(H.On v hm).1; omega
 have hφ':((φ++[v]).length:Int)<=hole:=by grind
 have e1:p=tr (Om (φ++[v]) σ 0) b1:=by
  rw[H.eq,hbi,tr,tr,Gv];refine C3 _ λi hi=>?_
  rcases H.vis i hi with h|h|h
  .have e1:g1 i=i:=by grind
   rw[e1,Oo (.inl h) H.small];obtain⟨x,hx,_,e3⟩:=Ir (σ:=v::σ) (v:=0) h.1 h.2 (by omega);obtain⟨y,hy,_,e4⟩:=Ir (σ:=σ) (v:=0) h.1 h.2 (by omega)
   grind
  .by_cases e:i=-1
   .subst e
    have e1:g1 (-1)=(φ.length:Int):=by grind
    obtain⟨y,hy,_,e4⟩:=Ir (φ:=φ++[v]) (σ:=σ) (v:=0) (i:=(φ.length:Int)) (by omega) (by grind) hφ'
    simp_all[Hw]
   .have e1:g1 i=i+1:=by grind
    rw[e1,Hw h.1,Hw (by omega)];have e5:(-1-i).toNat=(-1-(i+1)).toNat+1:=by omega
    simp[*]
  grind
 have key:∀i∈vis b1,(Om (φ++[v]) σ 0 i==v)=(i==(φ.length:Int)):=by
  intro i hi;rw[OB,GX,GX];rcases hv1 i hi with h|h
  .obtain⟨y,hy,_,e4⟩:=Ir (φ:=φ++[v]) (σ:=σ) (v:=0) h.1 (by grind) hφ'
   grind
  .rw[Hw h.1]
   obtain⟨x,hx⟩:∃x,σ[(-1-i).toNat]?=some x:=⟨_,Ap (by omega)⟩;simp only[List.getD,hx,Ie];constructor
   .rintro rfl
    exact absurd (BA hx) hσ
   omega
 have gI:Cz v true p=oI (·==(b.bounds.length:Int)) b1:=by
  rw[e1,YQ _ _ _ ABx,H.len]
  grind[TD]
 unfold JM Bl;rw[gI,<-N3];cases hI:oI (·==(b.bounds.length:Int)) b1 with
 | true=>
  refine And.intro (Cw _) (And.intro ?_ AZ);refine⟨φ++[v],?_⟩;refine { nd:=?_,On:=?_,len:=?_,KX:=?_,small:=?_,bd:=ABx,vis:=?_,eq:=e1 }
  .rw[XR]
   refine⟨H.nd,by simp,λx hx y hy=>?_⟩
   grind
  .intro x hx
   rcases CM.1 hx with hx|hx
   .have:=H.On x hx
    omega
   grind
  .simp[H.len]
  .intro i x hx
   by_cases hi:i<φ.length
   .rw[Cf hi] at hx
    rw[Cf (by rw[H.len]; omega)];exact H.KX i x hx
   .rw[Ev (by omega)] at hx
    rw[Ev (by rw[H.len]; omega),H.len]
    grind
  all_goals grind
 | false=>
  obtain⟨g2,hg2⟩:∃g2:Int->Int,g2=λi=>bif i==(φ.length:Int) then hole else i:=⟨_,rfl⟩
  have g2t:g2 (φ.length:Int)=hole:=by grind
  have g2f:∀i,i≠(φ.length:Int)->g2 i=i:=by grind
  obtain⟨b2,M9⟩:∃b2,b2=LC b.bounds.length hole b1:=⟨_,rfl⟩;have hre:b2=BR (λi=>var (g2 i)) b1:=by rw[M9,J6,H.len,hg2]
  have ANi:bd b2=true:=by rw[hre]; exact P6 _ _ ABx
  have hne:∀i∈vis b1,i≠hole:=by grind
  have hg2v:∀i∈vis b1,(g2 i==hole)=(i==(φ.length:Int)):=by grind
  have hv2:∀i∈vis b2,(0<=i/\i<φ.length)\/(i<0/\-i<=σ.length)\/(true=true/\i=hole):=by
   rw[hre,Hv]
   grind
  have e2:p=tr (Om φ σ v) b2:=by
   rw[e1,hre,tr,tr,Gv];refine C3 _ λi hi=>?_
   by_cases hb:i=(φ.length:Int)
   .grind[MB]
   .rw[g2f i hb]
    rcases hv1 i hi with h|h
    .rw[Oo (.inl ⟨h.1,by omega⟩) H.small]
     obtain⟨x,hx,_,e3⟩:=Ir (φ:=φ) (σ:=σ) (v:=0) (i:=i) h.1 (by omega) (by omega);obtain⟨y,hy,_,e4⟩:=Ir (φ:=φ) (σ:=σ) (v:=v) (i:=i) h.1 (by omega) (by omega)
     grind
    grind[Hw]
  have hH2:Rl true v B (v+1) B.length σ ⟨b.bounds,b2⟩ p φ:=
   {nd:=H.nd,On:=H.On,len:=H.len,KX:=H.KX,small:=H.small,bd:=ANi,vis:=hv2,eq:=e2 }
  have hI2:oI (·==hole) b2=false:=by
   rw[hre,fy _ _ _ ABx,<-hI,H.len]
   grind[TD]
  have hcl2:(Al b2).length=(Al b.body).length:=by rw[hre,EJ,Bn,AUn]
  have U7:BH (·==(v:Int)) p=(Al b2).count hole:=by
   rw[e2,gD _ _ _ ANi,List.count];refine List.countP_congr λi hi=>?_
   have hvi:=Oi _ i hi
   have:(Om φ σ v i=v)<->i=hole:=by
    constructor
    .intro h
     by_cases hh:i=hole
     .omega
     .exact absurd h (hH2.uT (.inl (XQ v)) hσ hvi hh)
    grind[MB]
   grind
  have hle:(Al b2).count hole<=(Al b.body).length:=by grind
  have hmul:(((Al b2).count hole:Nat):Int)*w<=((Al b.body).length:Int)*w:=by
   have:=CJ w hle;omega
  have step:=fill_eq (Au:=Au) (l:=YM) (ex:=ex) (lo:=v) (AN v) hσ hex hw ((Al b2).count hole) (Al b.body).length ⟨b.bounds,b2⟩ p B φ hH2 hvl hI2 rfl hle (by omega);simp only[AE];rw[<-M9,U7];cases hh:H8 b2 with
  | none=>
   have hz:(Al b2).count hole=0:=by grind[List.count_eq_zero,H8]
   rw[hz] at step ⊢;exact step
  | some k=>
   have hz:(Al b2).count hole≠0:=by
    rw[ne_eq,MZ];intro hm;exact hm (BA (E7 hh).1)
   obtain⟨c,hc⟩:∃c,(Al b2).count hole=c+1:=⟨(Al b2).count hole-1,by omega⟩;rw[hc] at step ⊢
   assumption
end
theorem Jr {k i:Int} {n:List UInt8} {ts:List Ty} (h:root k n i ts=true) :
  (k=0/\n=[]/\i=0/\ts=[])\/(k=1/\n=[]/\i=0/\ts=[])\/k=2\/(k=3/\n=[]/\i=0)\/(k=4/\n=[]/\i=0/\ts≠[])\/(k=5/\n=[]/\ts=[]/\0<=i)\/(k=6/\n=[]/\i=0/\∃b body,ts=[b,body]/\BW 0 b=true):=by
 unfold root at h;simp only[AD,DX,GX] at h;obtain⟨⟨h1,h2⟩,h3⟩:=h;unfold shape at h3
 by_cases k0:k=0
 .grind
 by_cases k1:k=1
 .grind
 by_cases k2:k=2
 .omega
 by_cases k3:k=3
 .grind
 by_cases k4:k=4
 .grind
 by_cases k5:k=5
 .grind
 by_cases k6:k=6
 .subst k6
  simp at h1 h2 h3;refine .inr (.inr (.inr (.inr (.inr (.inr ⟨rfl,h1,h2,?_⟩)))));rcases ts with _|⟨b,_|⟨c,_|⟨d,l⟩⟩⟩ <;> simp at h3
  exact⟨_,_,rfl,h3⟩
 grind
theorem CG.of_map {α β γ:Type} {R:α->γ->Prop} {g:β->γ}:∀{l:List α} {m:List β},CG (λa b=>R a (g b)) l m->CG R l (m.map g)
 | [],[],_=>trivial
 | _::_,_::_,⟨h1,h2⟩=>⟨h1,h2.of_map⟩
 | [],_::_,h=>h.elim
 | _::_,[],h=>h.elim
section
variable {Au:Nat->Bool}
def Cc (n:Nat):Prop:=(n:Int)<hole
def uW (Au:Nat->Bool) (f:Nat) (σ:List Nat) (t:Ty):Prop:=∀B,(∀x∈σ,x<B.length)->Lf (λB' b p=>∃φ,Rl false 0 B' B.length B'.length σ b p φ) B (HQ Au f t) (Ao Au f (inst σ 0 t) B)
def Ch (B':List Ty) (σ:List Nat):Nat->List Nat->List (List Br)->List (List Ty)->Prop
 | lo,[],[],[]=>lo<=B'.length
 | lo,w::ws,l::ls,ps::rs=>(∀b∈l,b.bounds.length<=w)/\∃mid,lo<=mid/\mid<=B'.length/\CG (λb p=>∃φ,Rl false 0 B' lo mid σ b p φ) l ps/\Ch B' σ mid ws ls rs
 | _,_,_,_=>False
theorem Ei {k:Int} (h6:k≠6) (σ:List Nat):∀(l:List Ty) (j:Nat),C9 σ 0 k j l=l.map (inst σ 0)
 | [],_=>rfl
 | t::l,j=>by
  have b6:(k==6)=false:=by grind
  have hb:EW k j=0:=by simp[EW,b6]
  rw[C9,hb,GQ,Ei h6 σ l (j+1)];rfl
theorem kD {f:Nat} {σ:List Nat}:∀(ts:List Ty) (out:List (List Ty)) (B:List Ty),(∀x∈σ,x<B.length)->(∀t∈ts,uW Au f σ t) ->
  match IU (ts.map (HQ Au f)),EI (Ao Au f) (ts.map (inst σ 0)) out B with
  | none,(none,B')=>B<+:B'
  | some ls,(some lps,B')=>∃rs,lps=out++rs/\B<+:B'/\Ch B' σ B.length (ts.map bw) ls rs
  | _,_=>False
 | [],out,B,_,_=>by
  simp only[Ci,IU,EI];exact⟨[],by simp,Cw _,AN _⟩
 | t::ts,out,B,hσ,h=>by
  have h0:=h t (by simp) B hσ;simp only[Bz];rw[EI];cases hr:HQ Au f t with
  | none=>
   rw[hr] at h0;rcases he:Ao Au f (inst σ 0 t) B with ⟨r',B'⟩
   rw[he] at h0;cases r' with
   | some _=>exact h0.elim
   | none=>exact h0
  | some l=>
   rw[hr] at h0;rcases he:Ao Au f (inst σ 0 t) B with ⟨r',B'⟩
   rw[he] at h0;cases r' with
   | none=>exact h0.elim
   | some ps=>
    obtain⟨hp,hall⟩:=h0;have ih:=kD ts (out++[ps]) B' (λx hx=>Fu (hσ x hx) (F6 hp)) (λt ht=>h t (Ew _ ht));rw[IU];simp only;revert ih;cases IU (ts.map (HQ Au f)) <;> rcases EI (Ao Au f) (ts.map (inst σ 0)) (out++[ps]) B' with ⟨r2,B2⟩ <;> cases r2 <;> intro ih
    .grind
    .omega
    .omega
    .obtain⟨rs,h1,h2,h3⟩:=ih
     refine⟨ps::rs,by grind,EB hp h2,?_⟩;refine⟨λb hb=>(DS f t l hr b hb).1,B'.length,F6 hp,F6 h2,?_,h3⟩;exact hall.mono λa b ⟨φ,hφ⟩=>⟨φ,hφ.mono h2 (AN _) (AN _) (AN _)⟩
theorem Vt:∀(l:List Ty) (t:Ty),CL (l++[t])=CL l++Al t
 | [],t=>by simp[CL]
 | a::l,t=>by simp[CL,Vt l t]
theorem aR:∀(l:List Ty) (t:Ty),C2 (l++[t])=C2 l++vis t
 | [],t=>by simp[C2]
 | a::l,t=>by simp[C2,aR l t]
theorem kF:∀(l:List Ty) (t:Ty),MA (l++[t])=(MA l&&bd t)
 | [],t=>by simp[MA]
 | a::l,t=>by simp[MA,kF l t,Mb]
theorem Vu (f:Int->Ty):∀(l:List Ty) (t:Ty),BU f (l++[t])=BU f l++[BR f t]
 | [],t=>by rfl
 | a::l,t=>by simp[BU,Vu f l t]
theorem ABy (φ:Int->Nat) (l:List Ty) (t:Ty):RO φ (l++[t])=RO φ l++[tr φ t]:=Vu _ l t
theorem tr3 (φ:Int->Nat) (n:List UInt8) (i:Int) (l:List Ty):tr φ (.mk 3 n i l)=.mk 3 n i (RO φ l):=by rfl
theorem ANj (n:List UInt8) (i:Int) (l:List Ty):vis (.mk 3 n i l)=C2 l:=by rfl
theorem bd3 (n:List UInt8) (i:Int) (l:List Ty):bd (.mk 3 n i l)=MA l:=by rfl
def TRl (B':List Ty) (σ:List Nat) (uX mid N:Nat) (b:Br) (args:List Ty):Prop:=∃φ bs,Rl false 0 B' uX mid σ b (.mk 3 [] 0 args) φ/\b.body=.mk 3 [] 0 bs/\φ.length<=N
theorem kG {B':List Ty} {σ:List Nat} {uX lo mid N w:Nat} (hlo:uX<=lo) (hmid:lo<=mid) (hm:mid<=B'.length) (hs:((N+w:Nat):Int)<hole):∀{out:List Br} {YR:List (List Ty)} {l:List Br} {ps:List Ty},CG (TRl B' σ uX lo N) out YR ->
  (∀b∈l,b.bounds.length<=w)->CG (λb p=>∃φ,Rl false 0 B' lo mid σ b p φ) l ps->CG (TRl B' σ uX mid (N+w)) (NJ out l) (YR.flatMap λp=>ps.map λx=>p++[x])
 | [],[],_,_,_,_,_=>trivial
 | [],_::_,_,_,h,_,_=>h.elim
 | _::_,[],_,_,h,_,_=>h.elim
 | b::out,args::YR,l,ps,⟨h1,h2⟩,hw,h=>by
  have ih:=kG hlo hmid hm hs h2 hw h
  have one:CG (TRl B' σ uX mid (N+w)) (l.map λc=>(⟨b.bounds++c.bounds,match b.body with
    | .mk _ _ _ args=>.mk 3 [] 0 (args++[Je b.bounds.length c.body])⟩:Br)) (ps.map λx=>args++[x]):=by
   obtain⟨φ,bs,H,hb,hN⟩:=h1;clear ih;revert h hw;revert ps
   induction l with
   | nil=>intro ps _ h; cases ps with
    | nil=>trivial
    | cons _ _=>exact h.elim
   | cons c l ihl=>
    intro ps hw h;cases ps with
    | nil=>exact h.elim
    | cons q ps=>
     refine And.intro ?_ (ihl ps (λb hb=>hw b (Ew _ hb)) h.2);obtain⟨ψ,Hc⟩:=h.1
     have hψ:ψ.length<=w:=by
      have:=hw c (by simp);rw[Hc.len] at this;omega
     have oU:φ.length+ψ.length<hole:=by omega
     obtain⟨gs,hgs⟩:∃gs:Int->Int,gs=λi=>bif decide (0<=i)&&!(i==hole) then i+φ.length else i:=⟨_,rfl⟩
     have eg:Je φ.length=BR λi=>var (gs i):=by grind[Je]
     have gn:∀i:Int,0<=i->i<ψ.length->gs i=i+φ.length:=by grind
     have gm:∀i:Int,i<0->gs i=i:=by grind
     have e1:q=tr (Om (φ++ψ) σ 0) (Je φ.length c.body):=by
      rw[Hc.eq,eg,tr,tr,Gv];refine C3 _ λi hi=>?_
      rcases Hc.vis i hi with h|h|h
      .rw[gn i h.1 h.2]
       obtain⟨x,hx,_⟩:=gH h.1 h.2;obtain⟨y,hy,_,e4⟩:=Ir (φ:=ψ) (σ:=σ) (v:=0) h.1 h.2 (by omega);obtain⟨z,hz,_,e5⟩:=Ir (φ:=φ++ψ) (σ:=σ) (v:=0) (i:=i+φ.length) (by omega) (by grind) (by grind);rw[e4,e5];have e6:(i+(φ.length:Int)).toNat=φ.length+i.toNat:=by omega
       simp_all
      all_goals grind[Hw]
     have e2:(.mk 3 [] 0 args:Ty)=tr (Om (φ++ψ) σ 0) b.body:=by
      rw[H.eq];refine C3 _ λi hi=>?_
      rw[Oo _ H.small];rcases H.vis i hi with h' | h' | h'
      all_goals omega
     have AUo:MA bs=true:=by rw[<-bd3 [] 0 bs,<-hb]; exact H.bd
     have e3:args=RO (Om (φ++ψ) σ 0) bs:=by simp_all[tr3]
     refine⟨φ++ψ,bs++[Je φ.length c.body],?_,?_,by grind⟩
     .have eb:(match b.body with|.mk _ _ _ args=>.mk 3 [] 0 (args++[Je b.bounds.length c.body]):Ty)=.mk 3 [] 0 (bs++[Je φ.length c.body]):=by rw[hb,H.len]
      refine { nd:=?_,On:=?_,len:=?_,KX:=?_,small:=?_,bd:=?_,vis:=?_,eq:=?_ }
      .rw[XR]
       refine⟨H.nd,Hc.nd,λx hx y hy=>?_⟩;have:=(H.On x hx).2;have:=(Hc.On y hy).1;omega
      .intro x hx
       rcases CM.1 hx with hx|hx
       .have:=H.On x hx
        omega
       .have:=Hc.On x hx
        omega
      .simp only[B7,H.len,Hc.len]
      .intro i x hx
       show B'[x]?=(b.bounds++c.bounds)[i]?
       by_cases hi:i<φ.length
       .rw[Cf hi] at hx
        rw[Cf (by rw[H.len]; omega)];exact H.KX i x hx
       .rw[Ev (by omega)] at hx
        rw[Ev (by rw[H.len]; omega),H.len];exact Hc.KX _ x hx
      .grind
      .show bd (match b.body with|.mk _ _ _ args=>.mk 3 [] 0 (args++[Je b.bounds.length c.body]):Ty)=true
       rw[eb,bd3,kF,AUo,eg,P6 _ _ Hc.bd];rfl
      .intro i hi
       have hi':i∈vis (match b.body with|.mk _ _ _ args=>.mk 3 [] 0 (args++[Je b.bounds.length c.body]):Ty):=hi;rw[eb,ANj,aR,CM] at hi';simp only[B7];rcases hi' with hi' | hi'
       .have hv:i∈vis b.body:=by grind[ANj]
        rcases H.vis i hv with h' | h' | h'
        all_goals grind
       .rw[eg,Hv] at hi'
        obtain⟨j,hj,rfl⟩:=Cp.1 hi';rcases Hc.vis j hj with h' | h' | h'
        all_goals grind
      simp_all[tr3,ABy]
     .show(match b.body with|.mk _ _ _ args=>.mk 3 [] 0 (args++[Je b.bounds.length c.body]):Ty)=_
      rw[hb,H.len]
  unfold NJ at ih ⊢;rw[Rj,Rj];exact one.append ih
theorem ABz {B':List Ty} {σ:List Nat} {uX:Nat} (ls:List (List Br)):∀{ws:List Nat} {rs:List (List Ty)} {lo N:Nat} {out:List Br} {YR:List (List Ty)},uX<=lo->Ch B' σ lo ws ls rs->Cc (N+ws.sum)->CG (TRl B' σ uX lo N) out YR ->
  match Ln Au ls out,DR Au rs YR with
  | none,none=>True
  | some r,some all=>CG (λb args=>∃φ,Rl false 0 B' uX B'.length σ b (.mk 3 [] 0 args) φ) r all
  | _,_=>False:=by
 induction ls with
 | nil=>
  intro ws rs lo N out YR hlo hc hs h;rcases ws with _|⟨w,ws⟩
  .rcases rs with _|⟨ps,rs⟩
   .rw[Ln,DR]
    exact h.mono λa b ⟨φ,bs,H,_,_⟩=>⟨φ,H.mono (Cw _) hc (AN _) hc⟩
   .exact hc.elim
  .exact hc.elim
 | cons l ls ih=>
  intro ws rs lo N out YR hlo hc hs h;rcases ws with _|⟨w,ws⟩
  .exact hc.elim
  rcases rs with _|⟨ps,rs⟩
  .exact hc.elim
  obtain⟨hw,mid,h1,h2,h3,h4⟩:=hc;unfold Cc at hs;rw[Ma] at hs;have hp:=kG hlo h1 h2 (by omega) h hw h3;rw[Ln,DR,<-hp.length];cases Au (NJ out l).length with
  | true=>simp
  | false=>exact ih (A6 hlo h1) h4 (by grind[Cc]) hp
theorem aS {B':List Ty} {σ:List Nat}:∀{ws:List Nat} {ls:List (List Br)} {rs:List (List Ty)} {lo:Nat},Ch B' σ lo ws ls rs->ls.any List.isEmpty=rs.any List.isEmpty
 | [],[],[],_,_=>rfl
 | w::ws,l::ls,ps::rs,lo,⟨_,mid,_,_,h3,h4⟩=>by
  have hl:=h3.length;rw[OD,OD,aS h4]
  grind
 | [],_::_,_,_,h=>h.elim
 | [],[],_::_,_,h=>h.elim
 | _::_,[],_,_,h=>h.elim
 | _::_,_::_,[],_,h=>h.elim
theorem YS {f:Nat} {σ:List Nat}:∀(ts:List Ty) (out:List Ty) (ok:Bool) (B:List Ty),(∀x∈σ,x<B.length)->(∀t∈ts,uW Au f σ t) ->
  match IU (ts.map (HQ Au f)),G3 (Ao Au f) (ts.map (inst σ 0)) out ok B with
  | none,((_,ok'),B')=>B<+:B'/\ok'=false
  | some ls,((o,ok'),B')=>B<+:B'/\ok'=ok/\∃ps,o=out++ps/\CG (λb p=>∃φ,Rl false 0 B' B.length B'.length σ b p φ) ls.flatten ps
 | [],out,ok,B,_,_=>by
  rw[Ci,Ci,IU,G3];exact⟨Cw _,rfl,[],by simp,AZ⟩
 | t::ts,out,ok,B,hσ,h=>by
  have h0:=h t (by simp) B hσ;simp only[Bz];rw[G3];cases hr:HQ Au f t with
  | none=>
   rw[hr] at h0;rcases he:Ao Au f (inst σ 0 t) B with ⟨r',B'⟩
   rw[he] at h0;cases r' with
   | some _=>exact h0.elim
   | none=>
    have hp:B<+:B':=h0;have ih:=YS ts out false B' (λx hx=>Fu (hσ x hx) (F6 hp)) (λt ht=>h t (Ew _ ht))
    grind[IU]
  | some l=>
   rw[hr] at h0;rcases he:Ao Au f (inst σ 0 t) B with ⟨r',B'⟩
   rw[he] at h0;cases r' with
   | none=>exact h0.elim
   | some ps=>
    obtain⟨hp,hall⟩:=h0;have ih:=YS ts (out++ps) ok B' (λx hx=>Fu (hσ x hx) (F6 hp)) (λt ht=>h t (Ew _ ht));rw[IU];simp only;revert ih;cases IU (ts.map (HQ Au f)) <;> rcases G3 (Ao Au f) (ts.map (inst σ 0)) (out++ps) ok B' with ⟨⟨o2,ok2⟩,B2⟩ <;> intro ih
    .grind
    .obtain⟨h1,h2,qs,h3,h4⟩:=ih
     refine⟨EB hp h1,h2,ps++qs,by grind,?_⟩;rw[MV];refine CG.append ?_ ?_
     .exact hall.mono λa b ⟨φ,hφ⟩=>⟨φ,hφ.mono h1 (AN _) (AN _) (F6 h1)⟩
     .exact h4.mono λa b ⟨φ,hφ⟩=>⟨φ,hφ.mono (Cw _) (AN _) (F6 hp) (AN _)⟩
theorem FF {u:Nat} {k:Int} (h6:k≠6):∀{l:List Ty} {j:Nat} {t:Ty},C7 u k j l=true->t∈l->BW u t=true
 | a::l,j,t,h,ht=>by
  have b6:(k==6)=false:=by grind
  have hb:EW k j=0:=by simp[EW,b6]
  simp only[C7,AD,hb,GQ] at h;rcases Az.1 ht with rfl|ht
  .grind
  .exact FF h6 h.2 ht
theorem Bs:∀{l:List Ty} {a:Ty},Ar l=true->a∈l->valid a=true
 | b::l,a,h1,h=>by
  simp only[Ar,AD] at h1;rcases Az.1 h with rfl|h
  .grind
  .exact Bs h1.2 h
theorem gJ (hb0:Au 0=false) (N3:Au 1=false):∀(f:Nat) (t:Ty) (σ:List Nat),valid t=true->BW σ.length t=true->σ.Nodup->Cc (bw t)->uW Au f σ t:=by
 intro f
 induction f with
 | zero=>
  intro t σ _ _ _ _ B _;rw[HQ,Ao];exact Cw _
 | succ f YT=>
  intro t σ hv hc hn hs B hB;obtain⟨k,n,i,ts⟩:=t;have Lj:=hv;simp only[valid,AD] at hv;have leaf:∀{p:Ty} {b:Br},Rl false 0 B B.length B.length σ b p []->Lf (λB' b p=>∃φ,Rl false 0 B' B.length B'.length σ b p φ) B (some [b]) (some [p],B):=λH=>⟨Cw _,⟨[],H⟩,AZ⟩
  rcases Jr hv.1 with ⟨rfl,rfl,rfl,rfl⟩|⟨rfl,rfl,rfl,rfl⟩|rfl|⟨rfl,rfl,rfl⟩|⟨rfl,rfl,rfl,hne⟩|⟨rfl,rfl,rfl,h0⟩|⟨rfl,rfl,rfl,b,body,rfl,hcb⟩
  .rw[HQ,inst,C9]
   simp only[show((0:Int)==5)=false from rfl,AE];rw[Ao];simp only[CN,Dg,AH,N3,AE];refine leaf { nd:=GY,On:=λx hx=>(by grind),len:=rfl,KX:=λi x hx=>(by grind),small:=(by simp[hole]),bd:=?_,vis:=λi hi=>(by grind[vis]),eq:=?_ }
   all_goals rfl
  .rw[HQ,inst,C9]
   simp only[show((1:Int)==5)=false from rfl,AE];rw[Ao];simp only[show((1:Int)==0)=false from rfl,show((1:Int)==2)=false from rfl,show((1:Int)==7)=false from rfl,show((1:Int)==3)=false from rfl,show((1:Int)==4)=false from rfl,show((1:Int)==5)=false from rfl,show((1:Int)==6)=false from rfl,Ks,AE,hb0];exact⟨Cw _,AZ⟩
  .have hp:plain (.mk 2 n i ts)=true:=by grind[plain,Q0]
   obtain⟨q1,q2⟩:=Nn σ _ Lj hp hc;have e:Ao Au (f+1) (inst σ 0 (.mk 2 n i ts)) B=(some [inst σ 0 (.mk 2 n i ts)],B):=by grind[inst,Ao]
   rw[HQ,e];simp only[show((2:Int)==0)=false from rfl,CN,Dg,AH,AE];have hb:bd (.mk 2 n i ts)=true:=by assumption
   refine leaf { nd:=GY,On:=λx hx=>(by grind),len:=rfl,KX:=λi x hx=>(by grind),small:=(by simp[hole]),bd:=?_,vis:=λj hj=>?_,eq:=?_ }
   .simp[*,LG,P6]
   .rw[LG,Hv] at hj
    obtain⟨j',hj',rfl⟩:=Cp.1 hj;have:=P7 _ _ Lj hc j' hj';omega
   .rw[q2,LG,tr,tr,Gv]
    refine C3 _ λj hj=>?_
    have:=P7 _ _ Lj hc j hj
    grind[Hw]
  .have Ba:=DI hc (by decide)
   have ih:∀t∈ts,uW Au f σ t:=λt ht=>YT t σ (Bs hv.2 ht) (FF (by decide) Ba ht) hn (by
    have:bw t<=(bwl ts).sum:=by simp[*,Gg,Eb,Fx]
    grind[Cc,bw])
   have hq:=kD (Au:=Au) ts [] B hB ih;rw[HQ,inst];simp only[show((3:Int)==5)=false from rfl,AE];rw[Ao,Ei (by decide)];simp only[show((3:Int)==0)=false from rfl,show((3:Int)==2)=false from rfl,show((3:Int)==7)=false from rfl,show((3:Int)==4)=false from rfl,show((3:Int)==5)=false from rfl,Ks,AE,CN,AH];cases ha:IU (ts.map (HQ Au f)) with
   | none=>
    rw[ha] at hq;rcases he:EI (Ao Au f) (ts.map (inst σ 0)) [] B with ⟨r',B'⟩
    rw[he] at hq;cases r' with
    | some _=>grind
    | none=>exact hq
   | some ls=>
    rw[ha] at hq;rcases he:EI (Ao Au f) (ts.map (inst σ 0)) [] B with ⟨r',B'⟩
    rw[he] at hq;cases r' with
    | none=>grind
    | some lps=>
     obtain⟨rs,h1,h2,h3⟩:=hq;simp only[ED] at h1;subst h1;simp only;rw[<-aS h3];cases hem:ls.any List.isEmpty with
     | true=>exact⟨h2,AZ⟩
     | false=>
      simp only[AE];have hw:Cc (0+(ts.map bw).sum):=by grind[bw,Gg]
      have hcb:=ABz (Au:=Au) ls (uX:=B.length) (out:=[⟨[],.mk 3 [] 0 []⟩]) (YR:=[[]]) (AN _) h3 hw (by
       refine And.intro ?_ AZ;refine⟨[],[],{ nd:=GY,On:=λx hx=>(by grind),len:=rfl,KX:=λi x hx=>(by grind),small:=(by simp[hole]),bd:=?_,vis:=λi hi=>(by grind[vis,C2]),eq:=?_ },rfl,AN _⟩
       all_goals rfl)
      cases ht:Ln Au ls [⟨[],.mk 3 [] 0 []⟩] with
      | none=>
       rw[ht] at hcb;cases tN:DR Au lps [[]] with
       | none=>exact h2
       | some _=>grind
      | some r=>
       rw[ht] at hcb;cases tN:DR Au lps [[]] with
       | none=>grind
       | some all=>
        rw[tN] at hcb
        have P9:Au all.length=false:=by
         have gen:∀(rs:List (List Ty)) (out:List (List Ty)) (all:List (List Ty)),Au out.length=false->DR Au rs out=some all->Au all.length=false:=by
          intro rs
          induction rs with
          | nil=>grind[DR]
          | cons ps rs ih=>
           grind[DR]
         grind
        simp only[P9,AE];refine⟨h2,?_⟩
        grind[CG.of_map]
  .have Ba:=DI hc (by decide)
   have ih:∀t∈ts,uW Au f σ t:=λt ht=>YT t σ (Bs hv.2 ht) (FF (by decide) Ba ht) hn (by
    have:bw t<=(bwl ts).sum:=by simp[*,Gg,Eb,Fx]
    grind[Cc,bw])
   have hq:=YS (Au:=Au) ts [] true B hB ih;rw[HQ,inst];simp only[show((4:Int)==5)=false from rfl,AE];rw[Ao,Ei (by decide)];simp only[show((4:Int)==0)=false from rfl,show((4:Int)==2)=false from rfl,show((4:Int)==7)=false from rfl,show((4:Int)==3)=false from rfl,show((4:Int)==5)=false from rfl,Ks,AE,CN,AH];cases ha:IU (ts.map (HQ Au f)) with
   | none=>
    rw[ha] at hq;rcases he:G3 (Ao Au f) (ts.map (inst σ 0)) [] true B with ⟨⟨o,ok⟩,B'⟩
    rw[he] at hq;obtain⟨h1,rfl⟩:=hq
    assumption
   | some ls=>
    rw[ha] at hq;rcases he:G3 (Ao Au f) (ts.map (inst σ 0)) [] true B with ⟨⟨o,ok⟩,B'⟩
    rw[he] at hq;obtain⟨h1,rfl,ps,h2,h3⟩:=hq;simp only[ED] at h2;subst h2;simp only[CU,<-h3.length];cases Au ls.flatten.length with
    | true=>exact h1
    | false=>exact⟨h1,h3⟩
  .have hp:plain (var i)=true:=by rfl
   obtain⟨q1,q2⟩:=Nn σ _ Lj hp hc;have hi:=KW hc;obtain⟨w,hw⟩:∃w,σ[i.toNat]?=some w:=⟨_,Ap (by omega)⟩;have ei:inst σ 0 (var i)=ph w:=by grind[BR]
   rw[HQ,ei,Ao];simp only[show((5:Int)==0)=false from rfl,show((5:Int)==2)=false from rfl,show((7:Int)==0)=false from rfl,show((7:Int)==2)=false from rfl,CN,Df,AH,AE,N3];refine leaf { nd:=GY,On:=λx hx=>(by grind),len:=rfl,KX:=λi x hx=>(by grind),small:=(by simp[hole]),bd:=?_,vis:=λj hj=>?_,eq:=?_ }
   .rfl
   .rw[mkV,BR] at hj
    grind[vis]
   .rw[mkV,BR]
    grind[BR,Hw]
  .simp only[Ar,AD,Kt] at hv
   have Ba:=DI hc (by decide);simp only[C7,AD,Kt,show EW 6 0=0 from rfl,show EW 6 1=1 from rfl] at Ba;have hsb:bw b<=bw (.mk 6 [] 0 [b,body])/\bw body+1+cv body*bw b<=bw (.mk 6 [] 0 [b,body]):=by grind[bw,bwl,Lg,ex7]
   unfold Cc at hs;have ihB:=YT b [] hv.2.1 (by omega) GY (by grind[Cc]);have hsub:sub B.length 0 (inst σ 1 body)=inst (B.length::σ) 0 body:=H9 B.length σ body 0 hv.2.2 (by grind);have hnot:B.length∉σ:=λh=>absurd (hB _ h) (by omega)
   have ihY:=YT body (B.length::σ) hv.2.2 (by grind) (List.nodup_cons.2 ⟨hnot,hn⟩) (by grind[Cc]) (B++[b]) (by grind);have hib:inst σ 0 b=b:=HF σ b 0 hv.2.1 hcb;rw[HQ,inst];simp only[show((6:Int)==5)=false from rfl,AE,C9,show EW 6 0=0 from rfl,show EW 6 (0+1)=1 from rfl,GQ,Cg,hib];rw[Ao];simp only[show((6:Int)==0)=false from rfl,show((6:Int)==2)=false from rfl,show((6:Int)==7)=false from rfl,show((6:Int)==3)=false from rfl,show((6:Int)==4)=false from rfl,show((6:Int)==5)=false from rfl,Ks,AE,CN,AH,eE];rw[hsub];have hpB:B<+:B++[b]:=List.prefix_append _ _;cases hr:HQ Au f body with
   | none=>
    rw[hr] at ihY;rcases he:Ao Au f (inst (B.length::σ) 0 body) (B++[b]) with ⟨r',B'⟩
    rw[he] at ihY;cases r' with
    | some _=>exact ihY.elim
    | none=>exact EB hpB ihY
   | some l=>
    rw[hr] at ihY;rcases he:Ao Au f (inst (B.length::σ) 0 body) (B++[b]) with ⟨r',B'⟩
    rw[he] at ihY;cases r' with
    | none=>exact ihY.elim
    | some ps=>
     obtain⟨hp,hall⟩:=ihY;have Oa:(B++[b]).length=B.length+1:=by simp
     rw[Oa] at hall;have fC:B'[B.length]?=some b:=Mo hp (by simp)
     have hex:∀A,Lf (λB' c q=>∃ψ,Rl false 0 B' A.length B'.length [] c q ψ) A (HQ Au f b) (Ao Au f b A):=by
      intro A;have:=ihB A (λx hx=>by grind)
      grind[HF]
     have hw:∀r,HQ Au f b=some r->∀c∈r,c.bounds.length<=bw b:=λr hr c hc=>(DS f b r hr c hc).1
     have hsz:∀c∈l,c.bounds.length<=bw body/\(Al c.body).length<=cv body:=DS f body l hr
     have step:=gG (Au:=Au) (Q:=λB' b p=>∃φ,Rl false 0 B' B.length B'.length σ b p φ) (λA A' a q hA ⟨φ,h⟩=>⟨φ,h.mono hA (AN _) (AN _) (F6 hA)⟩)
      (S:=λc q=>c∈l/\∃ψ,Rl false 0 B' (B.length+1) B'.length (B.length::σ) c q ψ) (g:=JM Au (HQ Au f b) b) (g':=Bl Au (Ao Au f b) B.length) (B0:=B') (by
       rintro c q A hA ⟨Ba,φ,hφ⟩;have hc:=hsz c Ba;rw[hφ.len] at hc;have hφ':=hφ.mono hA (AN _) (AN _) (F6 hA);have hm:(Al c.body).length*bw b<=cv body*bw b:=CJ _ hc.2;have hm':(((Al c.body).length:Nat):Int)*(bw b:Nat)<=(cv body:Nat)*(bw b:Nat):=by omega
       have hq:(((bw body+1+cv body*bw b:Nat)):Int)<hole:=by omega
       have hq':((bw body:Nat):Int)+1+(cv body:Nat)*(bw b:Nat)<hole:=by omega
       exact ABw hnot hex hw hφ' (Mo hA fC) (by omega)) l ps [] [] B' (Cw _) (by
       have:∀{l':List Br} {ps:List Ty},(∀c∈l',c∈l)->CG (λc q=>∃ψ,Rl false 0 B' (B.length+1) B'.length (B.length::σ) c q ψ) l' ps->CG (λc q=>c∈l/\∃ψ,Rl false 0 B' (B.length+1) B'.length (B.length::σ) c q ψ) l' ps:=by
        intro l'
        induction l' with
        | nil=>intro ps _ h; cases ps with
         | nil=>trivial
         | cons _ _=>exact h.elim
        | cons a l' ih=>intro ps hm h; cases ps with
         | nil=>exact h.elim
         | cons q ps=>exact⟨⟨hm a (by simp),h.1⟩,ih (λc hc=>hm c (Ew _ hc)) h.2⟩
       grind) AZ
     simp only
     have ANk:∀(m:List Ty) (out:List Ty) (A:List Ty),Au out.length=false->∀r A',CX Au (Bl Au (Ao Au f b) B.length) m out A=(some r,A')->Au r.length=false:=by
      intro m
      induction m with
      | nil=>grind[CX]
      | cons q m ih=>
       grind[CX]
     have hbg:=ANk ps [] B' hb0;revert step;rcases hcs:CX Au (Bl Au (Ao Au f b) B.length) ps [] B' with ⟨r2,B2⟩
     have hpp:B<+:B':=EB hpB hp;cases Oh Au (JM Au (HQ Au f b) b) l [] <;> cases r2 <;> intro step
     .exact EB hpp step
     .exact step.elim
     .assumption
     .rename_i r1 r2
      simp only[hbg r2 B2 hcs,AE];exact⟨EB hpp step.1,step.2⟩
end
mutual
def occs:Ty->List Int->List Int
 | .mk k _ i ts,l=>bif k==5 then(bif l.contains i then l else l++[i]) else bif k==2||k==3 then GO ts l else l
def GO:List Ty->List Int->List Int
 | [],l=>l
 | t::ts,l=>GO ts (occs t l)
end
def aU (l:List Int):Nat->Nat->Ty->Ty
 | 0,_,t=>t
 | f+1,j,t=>aU l f (j+1) (LC (l.getD j 0) (hole+1+j) t)
def M3:Nat->Nat->Ty->Ty
 | 0,_,t=>t
 | f+1,j,t=>M3 f (j+1) (LC (hole+1+j) j t)
def oV:Ty:=.mk 0 [] 0 []
def IA (b:Br):Br:=⟨(occs b.body []).map λi=>b.bounds.getD i.toNat oV,M3 (occs b.body []).length 0 (aU (occs b.body []) (occs b.body []).length 0 b.body)⟩
mutual
def KE (N:Nat):Ty->List Nat->Ty×List Nat
 | .mk k n i ts,o=>bif k==7&&decide (i<N) then(match o.findIdx? (·==i.toNat) with
   | some j=>(var j,o)
   | none=>(var o.length,o++[i.toNat]))
  else(.mk k n i (Gh N ts o).1,(Gh N ts o).2)
def Gh (N:Nat):List Ty->List Nat->List Ty×List Nat
 | [],o=>([],o)
 | t::l,o=>((KE N t o).1::(Gh N l (KE N t o).2).1,(Gh N l (KE N t o).2).2)
end
def IY (B:List Ty) (p:Ty):Br:=⟨(KE B.length p []).2.map λx=>B.getD x oV,(KE B.length p []).1⟩
mutual
theorem Vv (N:Nat):∀(t:Ty) (o:List Nat),valid t=true->KE N t o=(t,o)
 | .mk k n i ts,o,h=>by
  have b7:(k==7)=false:=by grind[Gf]
  simp only[valid,AD] at h;rw[KE,b7];simp only[Ib,AE,TI N ts o h.2]
theorem TI (N:Nat):∀(l:List Ty) (o:List Nat),Ar l=true->Gh N l o=(l,o)
 | [],_,_=>rfl
 | t::l,o,h=>by
  simp only[Ar,AD] at h;rw[Gh,Vv N t o h.1];simp only[TI N l o h.2]
end
mutual
theorem TJ:∀(t:Ty) (l:List Int),l<+:occs t l
 | .mk k _ i ts,l=>by
  rw[occs];cases (k==5) with
  | true=>
   grind
  | false=>
   cases (k==2||k==3) with
   | true=>exact I1 ts l
   | false=>simp
theorem I1:∀(ts:List Ty) (l:List Int),l<+:GO ts l
 | [],l=>Cw _
 | t::ts,l=>(TJ t l).trans (I1 ts _)
end
mutual
theorem KY:∀(t:Ty) (l:List Int),∀i∈occs t l,i∈l\/i∈vis t
 | .mk k _ j ts,l,i,hi=>by
  rw[occs] at hi;rw[vis];cases b5:(k==5) with
  | true=>
   grind
  | false=>
   rw[b5] at hi;cases b:(k==2||k==3) with
   | true=>
    rw[b] at hi;exact Vw ts l i hi
   | false=>
    grind
theorem Vw:∀(ts:List Ty) (l:List Int),∀i∈GO ts l,i∈l\/i∈C2 ts
 | [],l,i,hi=>.inl hi
 | t::ts,l,i,hi=>by
  rw[C2,CM];rcases Vw ts _ i hi with h|h
  .rcases KY t l i h with h|h
   all_goals grind
  grind
end
mutual
theorem KZ:∀(t:Ty) (l:List Int),∀i∈vis t,i∈occs t l
 | .mk k _ j ts,l,i,hi=>by
  rw[vis] at hi;rw[occs];cases b5:(k==5) with
  | true=>
   grind
  | false=>
   rw[b5] at hi;cases b:(k==2||k==3) with
   | true=>
    rw[b] at hi;exact Vx ts l i hi
   | false=>
    grind
theorem Vx:∀(ts:List Ty) (l:List Int),∀i∈C2 ts,i∈GO ts l
 | [],l,i,hi=>by cases hi
 | t::ts,l,i,hi=>by
  rw[C2,CM] at hi;rcases hi with hi|hi
  .exact(I1 ts _).subset (KZ t l i hi)
  .exact Vx ts _ i hi
end
mutual
theorem HZ:∀(t:Ty) (l:List Int),l.Nodup->(occs t l).Nodup
 | .mk k _ j ts,l,hl=>by
  rw[occs];cases (k==5) with
  | true=>
   grind
  | false=>
   cases (k==2||k==3) with
   | true=>exact Q2 ts l hl
   | false=>grind
theorem Q2:∀(ts:List Ty) (l:List Int),l.Nodup->(GO ts l).Nodup
 | [],l,hl=>hl
 | t::ts,l,hl=>Q2 ts _ (HZ t l hl)
end
mutual
theorem kH:∀(t:Ty) (l:List Int),vis t=[]->occs t l=l
 | .mk k _ j ts,l,hv=>by
  rw[vis] at hv;rw[occs];cases b5:(k==5) with
  | true=>grind
  | false=>
   rw[b5] at hv;cases b:(k==2||k==3) with
   | true=>rw[b] at hv; exact aV ts l hv
   | false=>rfl
theorem aV:∀(ts:List Ty) (l:List Int),C2 ts=[]->GO ts l=l
 | [],l,_=>rfl
 | t::ts,l,hv=>by
  rw[C2,jQ] at hv;rw[GO,kH t l hv.1,aV ts l hv.2]
end
def pos (L:List Int) (i:Int):Nat:=L.idxOf i
theorem LH {L:List Int} (hn:L.Nodup) {j:Nat} {i:Int} (h:L[j]?=some i):pos L i=j:=by
 obtain⟨h1,h2⟩:=BL.1 h;have hm:i∈L:=BA h;have h3:L.idxOf i<L.length:=jR hm
 have h4:L[L.idxOf i]?=some i:=by
  rw[Ap h3,List.getElem_idxOf]
 exact(List.getElem?_inj h3 hn).1 (h4.trans h.symm)
section
variable {N:Nat} {ρ:Int->Nat} {L:List Int} (hL:L.Nodup) (hinj:∀i∈L,∀j∈L,ρ i=ρ j->i=j) (hN:∀i∈L,ρ i<N)
include hL hinj hN
mutual
theorem kI:∀(b:Ty) (l:List Int),pl b=true->occs b l<+:L->KE N (tr ρ b) (l.map ρ)=(BR (λi=>var (pos L i)) b,(occs b l).map ρ)
 | .mk k n i ts,l,h,hp=>by
  cases b5:(k==5) with
  | true=>
   rw[tr,BR,BR,occs,b5];simp only[AH]
   have hi:i∈L:=by
    have:i∈occs (.mk k n i ts) l:=KZ _ l i (by grind[vis])
    grind
   have hNi:=hN i hi;rw[KE];have hlt:((ρ i:Nat):Int)<N:=by omega
   rw[Aq hlt];simp only[CN,Fw,AH,Int.toNat_natCast];have hpre:l<+:L:=(TJ _ l).trans hp;cases hc:l.contains i with
   | true=>
    have hm:i∈l:=by grind
    obtain⟨j,hj⟩:=List.getElem?_of_mem hm
    have hjL:L[j]?=some i:=by
     obtain⟨m,rfl⟩:=hpre
     grind
    have hf:(l.map ρ).findIdx? (·==ρ i)=some j:=by
     rw[List.findIdx?_eq_some_iff_getElem];have hjl:=(BL.1 hj).1;refine⟨by grind,by grind,λa ha=>?_⟩;simp only[List.getElem_map,GX];intro he;have hal:a<l.length:=by omega
     have haL:L[a]?=some l[a]:=by
      obtain⟨m,rfl⟩:=hpre
      grind
     grind[List.getElem?_inj]
    grind[LH]
   | false=>
    have hm:i∉l:=by grind
    have hjL:L[l.length]?=some i:=by
     rw[occs,b5,hc] at hp;simp only[AH,AE] at hp;obtain⟨m,rfl⟩:=hp;simp
    grind[LH]
  | false=>
   cases b2:(k==2) with
   | true=>
    have h2:k=2:=by grind
    subst h2;rw[pl] at h;rw[occs] at hp ⊢;have:=aW ts l (by grind) (by grind)
    grind[BR,KE]
   | false=>
    grind[pl,Hu,Vv,Mn,kH,YO]
theorem aW:∀(ts:List Ty) (l:List Int),U6 ts=true->GO ts l<+:L->Gh N (RO ρ ts) (l.map ρ)=(BU (λi=>var (pos L i)) ts,(GO ts l).map ρ)
 | [],l,_,_=>rfl
 | t::ts,l,h,hp=>by
  simp only[U6,AD] at h;have _h:=hL;have _h:=hinj;have _h:=hN;have h1:=kI t l h.1 ((I1 ts _).trans hp);rw[RO,BU,Gh,h1];simp only;rw[show BU (λi=>ph (ρ i)) ts=RO ρ ts from rfl,aW ts (occs t l) h.2 hp];rfl
end
end
section
variable {N:Nat} {ρ:Int->Nat} {L:List Int} (hL:L.Nodup) (hinj:∀i∈L,∀j∈L,ρ i=ρ j->i=j) (hN:∀i∈L,ρ i<N)
include hL hinj hN
mutual
theorem gK:∀(b:Ty) (l:List Int),bd b=true->occs b l<+:L->KE N (tr ρ b) (l.map ρ)=(BR (λi=>var (pos L i)) b,(occs b l).map ρ)
 | .mk k n i ts,l,h,hp=>by
  cases b3:(k==3) with
  | true=>
   have h3:k=3:=by grind
   subst h3;rw[bd] at h;rw[occs] at hp ⊢;have:=kJ ts l (by grind) (by grind)
   grind[BR,KE]
  | false=>
   grind[pl,bd,kI]
theorem kJ:∀(ts:List Ty) (l:List Int),MA ts=true->GO ts l<+:L->Gh N (RO ρ ts) (l.map ρ)=(BU (λi=>var (pos L i)) ts,(GO ts l).map ρ)
 | [],l,_,_=>rfl
 | t::ts,l,h,hp=>by
  simp only[MA,AD] at h;have _h:=hL;have _h:=hinj;have _h:=hN;have h1:=gK t l h.1 ((I1 ts _).trans hp);rw[RO,BU,Gh,h1];simp only;rw[show BU (λi=>ph (ρ i)) ts=RO ρ ts from rfl,kJ ts (occs t l) h.2 hp];rfl
end
end
mutual
theorem Oq:∀t:Ty,bd t=true->BR (λi=>var i) t=t
 | .mk k n i ts,h=>by
  rw[BR];rw[bd] at h;cases b5:(k==5) with
  | true=>
   grind
  | false=>
   rw[b5] at h;cases b2:(k==2) with
   | true=>
    rw[b2] at h;simp only[AE,AH,Dg] at h ⊢;rw[QA ts h]
   | false=>
    rw[b2] at h;cases b3:(k==3) with
    | true=>
     rw[b3] at h;simp only[AE,AH,Df] at h ⊢;rw[Vy ts h]
    | false=>simp
theorem Vy:∀l:List Ty,MA l=true->BU (λi=>var i) l=l
 | [],_=>rfl
 | t::l,h=>by
  simp only[MA,AD] at h;rw[BU,Oq t h.1,Vy l h.2]
theorem uY:∀t:Ty,pl t=true->BR (λi=>var i) t=t
 | .mk k n i ts,h=>by
  rw[BR];rw[pl] at h;cases b5:(k==5) with
  | true=>
   grind
  | false=>
   rw[b5] at h;cases b2:(k==2) with
   | true=>
    rw[b2] at h;simp only[AE,AH,Dg] at h ⊢;rw[QA ts h]
   | false=>
    rw[b2] at h;have hc:P5 (.mk k n i ts)=true:=by grind
    have e:=Hu (.mk k n i ts) (λi=>var i) hc
    grind[BR]
theorem QA:∀l:List Ty,U6 l=true->BU (λi=>var i) l=l
 | [],_=>rfl
 | t::l,h=>by
  simp only[U6,AD] at h;rw[BU,uY t h.1,QA l h.2]
end
theorem Rz (n m:Int) (g:Int->Int) (t:Ty):LC n m (BR (λi=>var (g i)) t)=BR (λi=>var (bif g i==n then m else g i)) t:=by
 rw[J6,Gv]
theorem aX {l:List Int}:∀(f j:Nat) (g:Int->Int) (t:Ty),∃g':Int->Int,aU l f j (BR (λi=>var (g i)) t)=BR (λi=>var (g' i)) t /\
  ∀i,(∀q,l[q]?=some (g i)->q<f+j->j<=q->l.Nodup->(∀x∈l,x<hole)->q<l.length->f+j<=l.length->g' i=hole+1+q)/\((∀q,j<=q->q<f+j->l.getD q 0≠g i)->g' i=g i)
 | 0,j,g,t=>⟨g,rfl,λi=>⟨λq _ h1 h2=>by omega,λ_=>rfl⟩⟩
 | f+1,j,g,t=>by
  rw[aU,Rz];obtain⟨g',h1,h2⟩:=aX (l:=l) f (j+1) (λi=>bif g i==l.getD j 0 then hole+1+j else g i) t;refine⟨g',h1,λi=>⟨λq hq q1 q2 hn hh ql hf=>?_,λhno=>?_⟩⟩
  all_goals grind[List.getElem_mem,List.getElem?_inj]
theorem aY:∀(f j:Nat) (g:Int->Int) (t:Ty),∃g':Int->Int,M3 f j (BR (λi=>var (g i)) t)=BR (λi=>var (g' i)) t /\
  ∀i,(∀q:Nat,g i=hole+1+q->j<=q->q<f+j->(f+j:Nat)<hole->g' i=q)/\(g i<hole->g' i=g i)
 | 0,j,g,t=>⟨g,rfl,λi=>⟨λq _ h1 h2=>by omega,λ_=>rfl⟩⟩
 | f+1,j,g,t=>by
  rw[M3,Rz];obtain⟨g',h1,h2⟩:=aY f (j+1) (λi=>bif g i==hole+1+j then j else g i) t;refine⟨g',h1,λi=>⟨λq hq q1 q2 hf=>?_,λhlt=>?_⟩⟩
  all_goals grind
theorem uZ {b:Ty} (hb:bd b=true) (hv:∀i∈vis b,0<=i/\i<hole) (hl:Cc (occs b []).length):M3 (occs b []).length 0 (aU (occs b []) (occs b []).length 0 b)=BR (λi=>var (pos (occs b []) i)) b:=by
 have hn:=HZ b [] GY
 have hm:∀i∈occs b [],i<hole:=λi hi=>by
  rcases KY b [] i hi with h|h
  all_goals grind
 have e0:b=BR (λi=>var i) b:=(Oq b hb).symm;obtain⟨g1,h1,h2⟩:=aX (l:=occs b []) (occs b []).length 0 (λi=>i) b;obtain⟨g2,h3,h4⟩:=aY (occs b []).length 0 g1 b
 have e1:aU (occs b []) (occs b []).length 0 b=BR (λi=>var (g1 i)) b:=by
  rw[<-h1,<-e0]
 rw[e1,h3];refine C3 _ λi hi=>?_
 have hmem:=KZ b [] i hi;obtain⟨q,hq⟩:=List.getElem?_of_mem hmem;have hql:=(BL.1 hq).1;have:=(h2 i).1 q hq (by omega) (by omega) hn hm hql (by omega);have:=(h4 i).1 q this (by omega) (by omega) hl
 grind[LH]
theorem ua {B:List Ty} {lo hi:Nat} {b:Br} {p:Ty} {φ:List Nat} (H:Rl false 0 B lo hi [] b p φ) (hB:hi<=B.length) (hl:Cc (occs b.body []).length):IY B p=IA b:=by
 have hv:∀i∈vis b.body,0<=i/\i<φ.length:=by
  intro i hi;rcases H.vis i hi with h|h|h
  all_goals grind
 have hn:=HZ b.body [] GY
 have hmem:∀i∈occs b.body [],0<=i/\i<φ.length:=λi hi=>by
  rcases KY b.body [] i hi with h|h
  all_goals grind
 have hs:=H.small;have Li:∀i∈occs b.body [],∃x,φ[i.toNat]?=some x/\x∈φ/\Om φ [] 0 i=x:=λi hi=>Ir (hmem i hi).1 (hmem i hi).2 (by omega)
 have key:=gK (N:=B.length) (ρ:=Om φ [] 0) (L:=occs b.body []) hn (by
  intro i hi j hj he;obtain⟨x,hx,_,ex⟩:=Li i hi;obtain⟨y,hy,_,ey⟩:=Li j hj;rw[ex,ey] at he;subst he;have h1:=hmem i hi;have h2:=hmem j hj;have:=(List.getElem?_inj (by omega) H.nd).1 (hx.trans hy.symm);omega) (by
  intro i hi;obtain⟨x,hx,hm,ex⟩:=Li i hi;rw[ex];have:=H.On x hm;omega) b.body [] H.bd (Cw _)
 simp only[Ci] at key;rw[<-H.eq] at key;have e2:=uZ H.bd (λi hi=>by grind) hl;unfold IY IA;rw[key,e2];simp only[N6];congr 1;refine XK λi hi=>?_
 obtain⟨x,hx,_,ex⟩:=Li i hi;simp only[Function.comp_apply];rw[ex,Rk,Rk,H.KX _ _ hx]
mutual
def Ej (q:Int->Bool):Ty->Bool
 | .mk k n i ts=>bif k==7 then ts.isEmpty&&q i else !(n.head?==some 36)&&(decide (n.length<2 ^ 40)&&Du q ts)
def Du (q:Int->Bool):List Ty->Bool
 | []=>true
 | t::l=>Ej q t&&Du q l
end
mutual
theorem F7 {q q':Int->Bool} (h:∀i,q i=true->q' i=true):∀t:Ty,Ej q t=true->Ej q' t=true
 | .mk k n i ts,ht=>by
  rw[Ej] at ht ⊢;cases h7:k==7 with
  | true=>
   grind
  | false=>
   rw[h7] at ht;simp only[AE,AD] at ht ⊢;exact⟨ht.1,ht.2.1,TK h ts ht.2.2⟩
theorem TK {q q':Int->Bool} (h:∀i,q i=true->q' i=true):∀l:List Ty,Du q l=true->Du q' l=true
 | [],_=>rfl
 | t::l,ht=>by
  simp only[Du,AD] at ht ⊢;exact⟨F7 h t ht.1,TK h l ht.2⟩
end
theorem Vz {q:Int->Bool}:∀{l:List Ty} {t:Ty},Du q l=true->t∈l->Ej q t=true
 | [],_,_,h=>by cases h
 | a::l,t,h,ht=>by
  simp only[Du,AD] at h;rcases Az.1 ht with rfl|ht
  .grind
  .exact Vz h.2 ht
theorem Ot {q:Int->Bool}:∀(l m:List Ty),Du q (l++m)=(Du q l&&Du q m)
 | [],m=>by rfl
 | t::l,m=>by simp[Du,Ot l m,Mb]
mutual
theorem aZ {q:Int->Bool} {v:Nat} (hv:q v=true):∀(t:Ty) (u:Nat),Ej q t=true->Ej q (sub v u t)=true
 | .mk k n i ts,u,h=>by
  rw[Ej] at h;rw[sub];cases h5:k==5 with
  | true=>
   grind[Ej]
  | false=>
   simp only[AE];rw[Ej];cases h7:k==7 with
   | true=>
    rw[h7] at h;simp only[AH,AD,Dx] at h ⊢;rw[h.1];exact⟨rfl,h.2⟩
   | false=>
    rw[h7] at h;simp only[AE,AD] at h ⊢;exact⟨h.1,h.2.1,V1 hv ts u k 0 h.2.2⟩
theorem V1 {q:Int->Bool} {v:Nat} (hv:q v=true):∀(l:List Ty) (u:Nat) (k:Int) (j:Nat),Du q l=true->Du q (J4 v u k j l)=true
 | [],_,_,_,_=>rfl
 | t::l,u,k,j,h=>by
  simp only[Du,AD] at h;simp only[J4,Du,AD];exact⟨aZ hv t _ h.1,V1 hv l u k (j+1) h.2⟩
end
mutual
theorem TL {q m:Int->Bool} {b:Ty} (hb:Ej q b=true):∀(t:Ty) (k:Nat),Ej q t=true->Ej q (J5 m b t k)=true
 | .mk c n i ts,k,h=>by
  have h':=h;rw[Ej] at h;rw[J5];cases h7:c==7 with
  | true=>
   grind
  | false=>
   rw[h7] at h;simp only[AE,AD] at h ⊢;cases c==3 with
   | true=>
    rw[AH,Ej,h7];simp only[AE,AD];exact⟨h.1,h.2.1,V2 hb ts k h.2.2⟩
   | false=>grind
theorem V2 {q m:Int->Bool} {b:Ty} (hb:Ej q b=true):∀(l:List Ty) (k:Nat),Du q l=true->Du q (Jf m b l k)=true
 | [],_,_=>rfl
 | t::l,k,h=>by
  simp only[Du,AD] at h;rw[Jf];cases decide (k<BH m t) with
  | true=>
   simp only[AH,Du,AD];exact⟨TL hb t k h.1,h.2⟩
  | false=>
   simp only[AE,Du,AD];exact⟨h.1,V2 hb l _ h.2⟩
end
mutual
theorem R1 {m:Int->Bool} {b:Ty}:∀(t:Ty) (k:Nat),k<BH m t->BH m (J5 m b t k)+1=BH m t+BH m b/\size (J5 m b t k)<=size t+size b
 | .mk c n i ts,k,h=>by
  rw[BH] at h;rw[J5];cases h7:c==7 with
  | true=>
   grind[BH]
  | false=>
   rw[h7] at h;simp only[AE] at h ⊢;cases h3:c==3 with
   | false=>grind
   | true=>
    rw[h3] at h;simp only[AH] at h ⊢;have:=bA (m:=m) (b:=b) ts k h
    grind[BH,size]
theorem bA {m:Int->Bool} {b:Ty}:∀(l:List Ty) (k:Nat),k<CW m l->CW m (Jf m b l k)+1=CW m l+BH m b/\AQ (Jf m b l k)<=AQ l+size b
 | [],k,h=>by grind[CW]
 | t::l,k,h=>by
  rw[CW] at h;rw[Jf]
  by_cases hk:k<BH m t
  .have:=R1 (m:=m) (b:=b) t k hk
   grind[CW,AQ]
  .have:=bA (m:=m) (b:=b) l (k-BH m t) (by omega)
   grind[CW,AQ]
end
mutual
theorem ud {m:Int->Bool} {b:Ty}:∀(t:Ty) (k:Nat),BH m t<=k->J5 m b t k=t
 | .mk c n i ts,k,h=>by
  rw[BH] at h;rw[J5];cases h7:c==7 with
  | true=>
   grind
  | false=>
   rw[h7] at h;simp only[AE] at h ⊢;cases h3:c==3 with
   | false=>rfl
   | true=>
    rw[h3] at h;simp only[AH] at h ⊢;rw[V3 ts k h]
theorem V3 {m:Int->Bool} {b:Ty}:∀(l:List Ty) (k:Nat),CW m l<=k->Jf m b l k=l
 | [],_,_=>rfl
 | t::l,k,h=>by
  rw[CW] at h;rw[Jf,BF (by omega),AE,V3 (m:=m) (b:=b) l (k-BH m t) (by omega)]
end
mutual
theorem Ou {q:Int->Bool} {v:Nat} (hv:q v=false):∀(t:Ty) (inv:Bool),Ej q t=true->Cz v inv t=false/\BH (·==(v:Int)) t=0
 | .mk k n i ts,inv,h=>by
  rw[Ej] at h;rw[Cz,BH];cases h7:k==7 with
  | true=>
   grind
  | false=>
   rw[h7] at h;simp only[AE,AD] at h ⊢;have:=V4 hv ts (inv&&!(k==2)) h.2.2
   grind
theorem V4 {q:Int->Bool} {v:Nat} (hv:q v=false):∀(l:List Ty) (inv:Bool),Du q l=true->Fj v inv l=false/\CW (·==(v:Int)) l=0
 | [],_,_=>⟨rfl,rfl⟩
 | t::l,inv,h=>by
  simp only[Du,AD] at h;have h1:=Ou hv t inv h.1;have h2:=V4 hv l inv h.2
  grind[Fj,CW]
end
section
variable {Au:Nat->Bool}
theorem IB {α:Type} {g:α->List Ty->FV} (hg:∀a B,B.length<=(g a B).2.length):∀(l:List α) (out B:List Ty),B.length<=(CX Au g l out B).2.length
 | [],_,_=>AN _
 | a::l,out,B=>by
  have h:=hg a B;rw[CX];rcases hr:g a B with ⟨_|r,B1⟩
  .grind
  .rw[hr] at h
   simp only at h ⊢;cases Au (out++r).length with
   | true=>exact h
   | false=>exact A6 h (IB hg l (out++r) B1)
theorem JQ {α:Type} {g:α->List Ty->FV} (hm:∀a B,B.length<=(g a B).2.length) {P:Ty->Prop} {lo M:Nat}:∀(l:List α) (out B:List Ty) (r:List Ty),(∀a∈l,∀B r,lo<=B.length->(g a B).1=some r->(g a B).2.length<=M->∀p∈r,P p) ->
  lo<=B.length->(CX Au g l out B).1=some r->(CX Au g l out B).2.length<=M->(∀p∈out,P p)->∀p∈r,P p
 | [],out,B,r,_,_,h,_,ho=>by grind[CX]
 | a::l,out,B,r,hg,hlo,h,hM,ho=>by
  have h1:=hm a B;have h2:=hg a (by simp) B;rw[CX] at h hM;rcases hr:g a B with ⟨_|s,B1⟩
  .grind
  .rw[hr] at h hM h1 h2
   simp only at h hM h1 h2;cases hb:Au (out++s).length with
   | true=>grind
   | false=>
    rw[hb] at h hM;simp only[AE] at h hM;have h3:=IB (Au:=Au) hm l (out++s) B1;refine JQ hm l (out++s) B1 r (λa ha=>hg a (by grind)) (by omega) h hM ?_
    grind
theorem He {ex:List Ty->FV} (hx:∀B,B.length<=(ex B).2.length) (v:Nat):∀(f:Nat) (t:Ty) (B:List Ty),B.length<=(CB Au ex v f t B).2.length
 | 0,_,_=>AN _
 | f+1,t,B=>by
  have h:=hx B;rw[CB];cases Cz v false t with
  | false=>simp
  | true=>
   rcases hr:ex B with ⟨_|r,B1⟩
   .grind
   .rw[hr] at h
    exact A6 h (IB (λc B=>He hx v f _ B) r [] B1)
theorem V5 {ex:List Ty->FV} (hx:∀B,B.length<=(ex B).2.length) {v lo M W S:Nat} {q:Int->Bool} (hr:∀B r,lo<=B.length->(ex B).1=some r->(ex B).2.length<=M->∀c∈r,Ej q c=true/\BH (·==(v:Int)) c=0/\size c<=W) :
  ∀(f:Nat) (t:Ty) (B r:List Ty),Ej q t=true->size t+BH (·==(v:Int)) t*W<=S->lo<=B.length->(CB Au ex v f t B).1=some r->(CB Au ex v f t B).2.length<=M->∀p∈r,Ej q p=true/\size p<=S
 | 0,t,B,r,ht,hS,_,h,_=>by grind[CB]
 | f+1,t,B,r,ht,hS,hlo,h,hM=>by
  have h1:=hx B;have h2:=hr B;rw[CB] at h hM;cases ho:Cz v false t with
  | false=>
   grind
  | true=>
   rw[ho] at h hM;simp only[AH] at h hM;rcases he:ex B with ⟨_|cs,B1⟩
   .grind
   .rw[he] at h hM h1 h2
    simp only at h hM h1 h2;have h3:=IB (Au:=Au) (g:=λc B=>CB Au ex v f (J5 (·==(v:Int)) c t 0) B) (λc B=>He hx v f _ B) cs [] B1;have h4:=h2 cs hlo rfl (by omega);refine JQ (λc B=>He hx v f _ B) (lo:=lo) cs [] B1 r ?_ (by omega) h hM (by simp);intro c hc B' r' ABd h' eF;obtain⟨c1,c2,c3⟩:=h4 c hc;refine V5 hx hr f _ B' r' (TL c1 t 0 ht) ?_ ABd h' eF
    by_cases hk:0<BH (·==(v:Int)) t
    .obtain⟨d1,d2⟩:=R1 (b:=c) t 0 hk
     have:BH (·==(v:Int)) t*W=BH (·==(v:Int)) (J5 (·==(v:Int)) c t 0)*W+W:=by grind
     omega
    grind[ud]
end
def wx:List Nat->List Nat->Nat
 | [b,c],[_,d]=>c+max 1 d*b
 | _,_=>0
mutual
def wt:Ty->Nat
 | .mk k _ _ ts=>bif k==6 then wx (gL ts) (Lg ts) else bif k==3||k==4 then 1+(gL ts).sum else 1+AQ ts
def gL:List Ty->List Nat
 | []=>[]
 | t::l=>wt t::gL l
end
theorem AB0 {l m p:List Nat} (h:CG (·<=·) l m):wx l p<=wx m p:=by
 match l,m,h with
 | [],[],_=>simp
 | [_],[_],_=>exact AN _
 | [b,c],[b',c'],h=>
  obtain⟨h1,h2,_⟩:=h
  match p with
  | []=>exact AN _
  | [_]=>exact AN _
  | [_,d]=>exact Nat.add_le_add h2 (EY _ h1)
  | _::_::_::_=>exact AN _
 | _::_::_::_,[_,_],h=>exact h.2.2.elim
 | [_,_],_::_::_::_,h=>exact h.2.2.elim
 | _::_::_::_,_::_::_::_,_=>
  match p with
  | []=>exact AN _
  | [_]=>exact AN _
  | [_,_]=>exact AN _
  | _::_::_::_=>exact AN _
mutual
theorem gM (v:Nat):∀(t:Ty) (u:Nat),cv (sub v u t)=cv t
 | .mk k n i ts,u=>by
  rw[sub];cases h5:k==5 with
  | true=>
   have:k=5:=by grind
   subst this;simp only[AH];cases i==(u:Int) with
   | true=>rfl
   | false=>cases decide ((u:Int)<i) <;> rfl
  | false=>simp only[AE,cv,YU v ts u k 0]
theorem YU (v:Nat):∀(l:List Ty) (u:Nat) (k:Int) (j:Nat),Lg (J4 v u k j l)=Lg l
 | [],_,_,_=>rfl
 | t::l,u,k,j=>by rw[J4,Lg,Lg,gM v t _,YU v l u k (j+1)]
end
theorem TM:∀{l m:List Nat},CG (·<=·) l m->l.sum<=m.sum
 | [],[],_=>AN _
 | a::l,b::m,h=>by
  have:=TM h.2;have:=h.1
  grind
mutual
theorem ue (v:Nat):∀(t:Ty) (u:Nat),size (sub v u t)<=size t
 | .mk k n i ts,u=>by
  rw[sub];cases k==5 with
  | true=>
   grind[size,AQ]
  | false=>
   have:=QB v ts u k 0
   grind[size]
theorem QB (v:Nat):∀(l:List Ty) (u:Nat) (k:Int) (j:Nat),AQ (J4 v u k j l)<=AQ l
 | [],_,_,_=>AN _
 | t::l,u,k,j=>by
  have h1:=ue v t (u+EW k j);have h2:=QB v l u k (j+1)
  grind[J4,AQ]
end
mutual
theorem uf (v:Nat):∀(t:Ty) (u:Nat),wt (sub v u t)<=wt t
 | .mk k n i ts,u=>by
  rw[sub];cases h5:k==5 with
  | true=>
   grind[wt,AQ]
  | false=>
   have h1:=QB v ts u k 0;have h2:=kL v ts u k 0;have h3:=AB0 (p:=Lg ts) h2;have h4:=TM h2
   grind[wt,YU]
theorem kL (v:Nat):∀(l:List Ty) (u:Nat) (k:Int) (j:Nat),CG (·<=·) (gL (J4 v u k j l)) (gL l)
 | [],_,_,_=>trivial
 | t::l,u,k,j=>⟨uf v t _,kL v l u k (j+1)⟩
end
mutual
theorem LI (m:Int->Bool):∀t:Ty,BH m t<=size t
 | .mk c n i ts=>by
  have:=NK m ts
  grind[BH,size]
theorem NK (m:Int->Bool):∀l:List Ty,CW m l<=AQ l
 | []=>AN _
 | t::l=>by
  have h1:=LI m t;have h2:=NK m l
  grind[CW,AQ]
end
section
variable {Au:Nat->Bool}
theorem I2 {ex:List Ty->FV} (hx:∀B,B.length<=(ex B).2.length) (v:Nat) (t:Ty) (B:List Ty):B.length<=(Bl Au ex v t B).2.length:=by grind[Bl,He]
theorem Ov {ex:Ty->List Ty->FV} (hx:∀t B,B.length<=(ex t B).2.length):∀(l out:List Ty) (ok:Bool) (B:List Ty),B.length<=(G3 ex l out ok B).2.length
 | [],_,_,_=>AN _
 | t::l,out,ok,B=>by
  have h:=hx t B;rw[G3];rcases hr:ex t B with ⟨_|r,B1⟩
  .rw[hr] at h
   exact A6 h (Ov hx l out false B1)
  .rw[hr] at h
   exact A6 h (Ov hx l (out++r) ok B1)
theorem TN {ex:Ty->List Ty->FV} (hx:∀t B,B.length<=(ex t B).2.length):∀(l:List Ty) (out:List (List Ty)) (B:List Ty),B.length<=(EI ex l out B).2.length
 | [],_,_=>AN _
 | t::l,out,B=>by
  have h:=hx t B;rw[EI];rcases hr:ex t B with ⟨_|r,B1⟩
  .grind
  .rw[hr] at h
   exact A6 h (TN hx l (out++[r]) B1)
theorem JR:∀(f:Nat) (t:Ty) (B:List Ty),B.length<=(Ao Au f t B).2.length
 | 0,_,_=>AN _
 | f+1,.mk k n i ts,B=>by
  have hf:=JR f;rw[Ao];cases k==0||k==2||k==7 with
  | true=>simp
  | false=>
   simp only[AE];cases k==4 with
   | true=>
    grind[Ov]
   | false=>
    simp only[AE];cases k==3 with
    | true=>
     grind[TN]
    | false=>
     simp only[AE];cases k==6 with
     | false=>simp
     | true=>
      simp only[AH]
      match ts with
      | []=>exact AN _
      | [_]=>exact AN _
      | _::_::_::_=>exact AN _
      | [b,body]=>
       grind[eE,IB,I2]
end
section
variable {Au:Nat->Bool}
def Pq (q:Int->Bool) (W:Nat) (p:Ty):Prop:=Ej q p=true/\size p<=W
theorem Pq.le {q:Int->Bool} {W V:Nat} {p:Ty} (h:Pq q W p) (hl:W<=V):Pq q V p:=⟨h.1,A6 h.2 hl⟩
theorem MC {ex:Ty->List Ty->FV} (hx:∀t B,B.length<=(ex t B).2.length) {P:Ty->Prop} {lo M:Nat}:∀(l out:List Ty) (ok:Bool) (B:List Ty),(∀t∈l,∀B r,lo<=B.length->(ex t B).1=some r->(ex t B).2.length<=M->∀p∈r,P p) ->
  lo<=B.length->(G3 ex l out ok B).2.length<=M->(∀p∈out,P p)->∀p∈(G3 ex l out ok B).1.1,P p
 | [],_,_,_,_,_,_,ho=>ho
 | t::l,out,ok,B,hg,hlo,hM,ho=>by
  have h1:=hx t B;have h2:=hg t (by simp) B;rw[G3] at hM ⊢;rcases hr:ex t B with ⟨_|s,B1⟩
  .rw[hr] at hM h1
   exact MC hx l out false B1 (λa ha=>hg a (by grind)) (by grind) hM ho
  .rw[hr] at hM h1 h2
   simp only at hM h1 h2 ⊢;have h3:=Ov hx l (out++s) ok B1;refine MC hx l (out++s) ok B1 (λa ha=>hg a (by grind)) (by omega) hM ?_
   grind
def Cho (P:Nat->Ty->Prop):List (List Ty)->List Nat->Prop:=CG λl w=>∀p∈l,P w p
theorem Ow {ex:Ty->List Ty->FV} (hx:∀t B,B.length<=(ex t B).2.length) {P:Nat->Ty->Prop} {w:Ty->Nat} {lo M:Nat}:∀(l:List Ty) (out:List (List Ty)) (ws:List Nat) (B:List Ty) (r:List (List Ty)),(∀t∈l,∀B r,lo<=B.length->(ex t B).1=some r->(ex t B).2.length<=M->∀p∈r,P (w t) p) ->
  lo<=B.length->(EI ex l out B).1=some r->(EI ex l out B).2.length<=M->Cho P out ws->Cho P r (ws++l.map w)
 | [],out,ws,B,r,_,_,h,_,ho=>by grind[EI]
 | t::l,out,ws,B,r,hg,hlo,h,hM,ho=>by
  have h1:=hx t B;have h2:=hg t (by simp) B;rw[EI] at h hM;rcases hr:ex t B with ⟨_|s,B1⟩
  .grind
  .rw[hr] at h hM h1 h2
   simp only at h hM h1 h2;have h3:=TN hx l (out++[s]) B1;have:=Ow hx (P:=P) (w:=w) (lo:=lo) (M:=M) l (out++[s]) (ws++[w t]) B1 r (λa ha=>hg a (by grind)) (by omega) h hM (ho.append ⟨h2 s hlo rfl (by omega),AZ⟩)
   grind
theorem V6 {q:Int->Bool}:∀(ls:List (List Ty)) (ws:List Nat) (out r:List (List Ty)) (W:Nat),Cho (Pq q) ls ws->DR Au ls out=some r->(∀p∈out,Du q p=true/\AQ p<=W)->∀p∈r,Du q p=true/\AQ p<=W+ws.sum
 | [],ws,out,r,W,hc,h,ho=>by grind[DR]
 | l::ls,[],_,_,_,hc,_,_=>hc.elim
 | l::ls,w::ws,out,r,W,hc,h,ho=>by
  rw[DR] at h;cases hb:Au (out.flatMap λp=>l.map λx=>p++[x]).length with
  | true=>grind
  | false=>
   rw[hb] at h;simp only[AE] at h;intro p hp
   have:=V6 ls ws _ r (W+w) hc.2 h (by
    intro p hp;obtain⟨a,ha,hp⟩:=OE.1 hp;obtain⟨x,hx,rfl⟩:=Cp.1 hp;have h1:=ho a ha;have h2:=hc.1 x hx;refine⟨?_,?_⟩
    .rw[Ot,h1.1]
     simp[Du,h2.1]
    .have:∀(l:List Ty) (x:Ty),AQ (l++[x])=AQ l+size x:=by
      intro l x
      induction l with
      | nil=>simp[AQ]
      | cons y l ih=>grind[AQ]
     rw[this];have:=h2.2;omega) p hp
   grind
end
mutual
theorem R2 {m p:Int->Bool} (h:∀i,m i=true->p i=true):∀t:Ty,BH m t<=BH p t
 | .mk c n i ts=>by
  have:=bB h ts
  grind[BH]
theorem bB {m p:Int->Bool} (h:∀i,m i=true->p i=true):∀l:List Ty,CW m l<=CW p l
 | []=>AN _
 | t::l=>by
  have h1:=R2 h t;have h2:=bB h l
  grind[CW]
end
mutual
theorem bC {m q:Int->Bool} {b:Ty}:∀(t:Ty) (k:Nat),BH q (J5 m b t k)<=BH q t+BH q b
 | .mk c n i ts,k=>by
  have ih:=V7 (m:=m) (q:=q) (b:=b) ts k
  grind[J5,BH]
theorem V7 {m q:Int->Bool} {b:Ty}:∀(l:List Ty) (k:Nat),CW q (Jf m b l k)<=CW q l+BH q b
 | [],_=>AK _
 | t::l,k=>by
  rw[Jf];cases decide (k<BH m t) with
  | true=>
   have:=bC (m:=m) (q:=q) (b:=b) t k
   grind[CW]
  | false=>
   have:=V7 (m:=m) (q:=q) (b:=b) l (k-BH m t)
   grind[CW]
end
theorem Ox (q:Int->Bool):∀(l m:List Ty),CW q (l++m)=CW q l+CW q m
 | [],m=>by simp[CW]
 | t::l,m=>by rw[Eu,CW,CW,Ox q l m]; omega
section
variable {Au:Nat->Bool}
abbrev cA:Ty->Nat:=BH λ_=>true
theorem bD {ex:List Ty->FV} (hx:∀B,B.length<=(ex B).2.length) {v C:Nat} (hr:∀B r,(ex B).1=some r->∀c∈r,cA c<=C) :
  ∀(f:Nat) (t:Ty) (B r:List Ty),(CB Au ex v f t B).1=some r->∀p∈r,cA p<=cA t+f*C
 | 0,t,B,r,h=>by grind[CB]
 | f+1,t,B,r,h=>by
  have h2:=hr B;rw[CB] at h;cases ho:Cz v false t with
  | false=>
   grind
  | true=>
   rw[ho] at h;simp only[AH] at h;rcases he:ex B with ⟨_|cs,B1⟩
   .grind
   .rw[he] at h h2
    simp only at h h2;refine JQ (λc B=>He hx v f _ B) (lo:=0) cs [] B1 r ?_ (AK _) h (AN _) (by simp);intro c hc B' r' _ h' _ p hp;have h3:=bD hx hr f _ B' r' h' p hp
    grind[bC]
theorem QC {q:Int->Bool}:∀(ls:List (List Ty)) (ws:List Nat) (out r:List (List Ty)) (W:Nat),Cho (λw p=>BH q p<=w) ls ws->DR Au ls out=some r->(∀p∈out,CW q p<=W)->∀p∈r,CW q p<=W+ws.sum
 | [],ws,out,r,W,hc,h,ho=>by grind[DR]
 | l::ls,[],_,_,_,hc,_,_=>hc.elim
 | l::ls,w::ws,out,r,W,hc,h,ho=>by
  rw[DR] at h;cases hb:Au (out.flatMap λp=>l.map λx=>p++[x]).length with
  | true=>grind
  | false=>
   rw[hb] at h;simp only[AE] at h;intro p hp
   have:=QC ls ws _ r (W+w) hc.2 h (by
    intro p hp;obtain⟨a,ha,hp⟩:=OE.1 hp;obtain⟨x,hx,rfl⟩:=Cp.1 hp;have h1:=ho a ha;have h2:BH q x<=w:=hc.1 x hx
    grind[Ox,CW]) p hp
   grind
theorem YV:∀(f:Nat) (t:Ty) (B r:List Ty),(Ao Au f t B).1=some r->∀p∈r,cA p<=cv t
 | 0,_,_,_,h=>by cases h
 | f+1,.mk k n i ts,B,r,h=>by
  have hf:=λt B=>JR (Au:=Au) f t B
  have ih:=YV f;rw[Ao] at h;cases h0:k==0||k==2||k==7 with
  | true=>
   grind[BH,cv]
  | false=>
   rw[h0] at h;simp only[AE] at h;cases h4:k==4 with
   | true=>
    have hk:k=4:=by grind
    subst hk;rw[h4] at h;simp only[AH] at h;have key:=MC hf (P:=λp=>cA p<=cv (.mk 4 n i ts)) (lo:=0) (M:=(G3 (Ao Au f) ts [] true B).2.length) ts [] true B (λt hm B' r _ h _ p hp=>A6 (ih t B' r h p hp) (by simp[*,cv,P8,Eb,Fx])) (AK _) (AN _) (by simp)
    grind
   | false=>
    rw[h4] at h;simp only[AE] at h;cases h3:k==3 with
    | true=>
     have hk:k=3:=by grind
     subst hk;rw[h3] at h;simp only[AH] at h;have key:=λr h=>Ow hf (P:=λw p=>cA p<=w) (w:=cv) (lo:=0) (M:=(EI (Ao Au f) ts [] B).2.length) ts [] [] B r (λt _ B' r _ h _ p hp=>ih t B' r h p hp) (AK _) h (AN _) AZ
     rcases hs:EI (Ao Au f) ts [] B with ⟨_|ls,B1⟩
     .grind
     .rw[hs] at h key
      simp only at h key;cases he:ls.any List.isEmpty with
      | true=>
       grind
      | false=>
       rw[he] at h;simp only[AE] at h;cases hc:DR Au ls [[]] with
       | none=>grind
       | some all=>
        rw[hc] at h;simp only at h;cases hb:Au all.length with
        | true=>grind
        | false=>
         rw[hb] at h;cases h;intro p hp;obtain⟨a,ha,rfl⟩:=Cp.1 hp;have h5:=QC (q:=λ_=>true) ls _ _ all 0 (key ls rfl) hc (by simp[CW]) a ha
         grind[BH,cv,P8]
    | false=>
     rw[h3] at h;simp only[AE] at h;cases h6:k==6 with
     | false=>
      grind
     | true=>
      have hk:k=6:=by grind
      subst hk;rw[h6] at h;simp only[AH] at h
      match ts with
      | []=>cases h; simp
      | [_]=>cases h; simp
      | _::_::_::_=>cases h; simp
      | [b,body]=>
       simp only[eE] at h;rcases hs:Ao Au f (sub B.length 0 body) (B++[b]) with ⟨_|l,B1⟩
       .grind
       .rw[hs] at h
        have Uh:=ih (sub B.length 0 body) (B++[b]) l (by rw[hs]);rw[gM] at Uh;have key:=λr h1 h=>JQ (Au:=Au) (g:=Bl Au (Ao Au f b) B.length) (λa B=>I2 (hf b) _ a B) (P:=λp=>cA p<=cv (.mk 6 n i [b,body])) (lo:=0) (M:=(CX Au (Bl Au (Ao Au f b) B.length) l [] B1).2.length) l [] B1 r h1 (AK _) h (AN _) (by simp)
        simp only at h;rcases hc:CX Au (Bl Au (Ao Au f b) B.length) l [] B1 with ⟨_|o,B2⟩
        .grind
        .rw[hc] at h key
         simp only at h key;cases hb:Au o.length with
         | true=>grind
         | false=>
          rw[hb] at h;cases h;refine key r (λa ha B' r' _ h' _ p hp=>?_) rfl;have e:cv (.mk 6 n i [b,body])=cv body*(cv b+1):=rfl;have ha1:=Uh a ha;rw[e,Rm];rw[Bl] at h';cases ho:Cz B.length true a with
          | true=>
           grind
          | false=>
           rw[ho] at h';simp only[AE] at h';have h7:=bD (Au:=Au) (hf b) (C:=cv b) (λB r h=>ih b B r h) _ a B' r' h' p hp;have h8:BH (·==(B.length:Int)) a<=cA a:=R2 (λ_ _=>rfl) a;have h9:BH (·==(B.length:Int)) a*cv b<=cv body*cv b:=CJ _ (by omega);omega
end
section
variable {Au:Nat->Bool}
theorem LJ:∀l:List Ty,gL l=l.map wt
 | []=>rfl
 | t::l=>by rw[gL,LJ l]; rfl
theorem bE {k i:Int} {n:List UInt8} {ts:List Ty} (h:(k==0||k==2||k==7)=true):wt (.mk k n i ts)=size (.mk k n i ts):=by grind[wt,size]
theorem IC:∀(f:Nat) (t:Ty) (B:List Ty) (M:Nat) (q:Int->Bool) (r:List Ty),(∀i:Int,(B.length:Int)<=i->i<M->q i=true)->Ej (λi=>q i&&decide (i<B.length)) t=true ->
  (Ao Au f t B).1=some r->(Ao Au f t B).2.length<=M->∀p∈r,Pq q (wt t) p
 | 0,_,_,_,_,_,_,_,h,_=>by cases h
 | f+1,.mk k n i ts,B,M,q,r,hq,ht,h,hM=>by
  have hf:=λt B=>JR (Au:=Au) f t B
  have ih:=IC f;have htq:Ej q (.mk k n i ts)=true:=F7 (λi hi=>by grind) _ ht;rw[Ao] at h hM;cases h0:k==0||k==2||k==7 with
  | true=>
   rw[h0] at h;simp only[AH] at h;cases hb:Au 1 with
   | true=>grind
   | false=>
    rw[hb] at h;cases h;intro p hp;rw[DF.1 hp];exact⟨htq,by grind[bE]⟩
  | false=>
   rw[h0] at h hM;simp only[AE] at h hM;have h7:(k==7)=false:=by grind
   rw[Ej,h7] at ht;simp only[AE,AD] at ht
   have part:∀t∈ts,∀(B' r:List Ty),B.length<=B'.length->(Ao Au f t B').1=some r->(Ao Au f t B').2.length<=M->∀p∈r,Pq q (wt t) p:=by
    intro t hm B' r hl h hM;refine ih t B' M q r (λi h1 h2=>hq i (by omega) h2) (F7 (λi hi=>?_) _ (Vz ht.2.2 hm)) h hM
    grind
   have wle:∀t∈ts,wt t<=(gL ts).sum:=by
    intro t hm;rw[LJ];exact Eb (Cp.2 ⟨t,hm,rfl⟩)
   cases h4:k==4 with
   | true=>
    have hk:k=4:=by grind
    subst hk;rw[h4] at h hM;simp only[AH] at h hM;have key:=MC hf (P:=Pq q (wt (.mk 4 n i ts))) (lo:=B.length) (M:=M) ts [] true B (λt hm B' r hl h hM p hp=>(part t hm B' r hl h hM p hp).le (by grind[wt])) (AN _)
    grind
   | false=>
    rw[h4] at h hM;simp only[AE] at h hM;cases h3:k==3 with
    | true=>
     have hk:k=3:=by grind
     subst hk;rw[h3] at h hM;simp only[AH] at h hM;have key:=λr=>Ow hf (P:=Pq q) (w:=wt) (lo:=B.length) (M:=M) ts [] [] B r part (AN _)
     rcases hs:EI (Ao Au f) ts [] B with ⟨_|ls,B1⟩
     .grind
     .rw[hs] at h hM key
      simp only at h hM key;cases he:ls.any List.isEmpty with
      | true=>
       grind
      | false=>
       rw[he] at h hM;simp only[AE] at h hM;cases hc:DR Au ls [[]] with
       | none=>grind
       | some all=>
        rw[hc] at h hM;simp only at h hM;cases hb:Au all.length with
        | true=>grind
        | false=>
         rw[hb] at h;cases h;intro p hp;obtain⟨a,ha,rfl⟩:=Cp.1 hp;have h5:=V6 (q:=q) ls _ _ all 0 (key ls rfl hM AZ) hc (by simp[Du,AQ]) a ha;refine⟨by grind[Ej],?_⟩
         grind[wt,LJ,size]
    | false=>
     rw[h3] at h hM;simp only[AE] at h hM;cases h6:k==6 with
     | false=>
      grind
     | true=>
      have hk:k=6:=by grind
      subst hk;rw[h6] at h hM;simp only[AH] at h hM
      match ts,part,ht with
      | [],_,_=>cases h; simp
      | [_],_,_=>cases h; simp
      | _::_::_::_,_,_=>cases h; simp
      | [b,body],part,ht=>
       simp only[eE] at h hM;have h1:=hf (sub B.length 0 body) (B++[b]);simp only[Du,AD] at ht;rcases hs:Ao Au f (sub B.length 0 body) (B++[b]) with ⟨_|l,B1⟩
       .grind
       .rw[hs] at h hM h1
        have h2:=IB (Au:=Au) (g:=Bl Au (Ao Au f b) B.length) (λa B=>I2 (hf b) _ a B) l [] B1;have key:=λP r eC=>JQ (Au:=Au) (g:=Bl Au (Ao Au f b) B.length) (λa B=>I2 (hf b) _ a B) (P:=P) (lo:=B.length+1) (M:=M) l [] B1 r eC
        simp only[B7,CI,Ce,Cg] at h1 h hM;rcases hc:CX Au (Bl Au (Ao Au f b) B.length) l [] B1 with ⟨_|o,B2⟩
        .grind
        .rw[hc] at h hM h2 key
         simp only at h hM h2 key;cases hb:Au o.length with
         | true=>grind
         | false=>
          rw[hb] at h;cases h;have Uh:=ih (sub B.length 0 body) (B++[b]) M q l (λi h1 h2=>hq i (by grind) h2) (aZ (by grind) body 0 (F7 (λi hi=>by grind) _ ht.2.2.2.1)) (by rw[hs]) (by grind);have qX:=uf B.length body 0;refine key (Pq q (wt (.mk 6 n i [b,body]))) r ?_ (by omega) rfl hM (by simp);intro a ha B' r' hlo h' eF;obtain⟨ta,sa⟩:=Uh a ha;have hsa:=A6 sa qX;have hwt:wt (.mk 6 n i [b,body])=wt body+max 1 (cv body)*wt b:=rfl;have hca:=YV f (sub B.length 0 body) (B++[b]) l (by rw[hs]) a ha;rw[gM] at hca;rw[Bl] at h' eF;rw[hwt];cases ho:Cz B.length true a with
          | true=>
           rw[ho] at h';cases h';intro p hp;rw[DF.1 hp];exact⟨ta,by omega⟩
          | false=>
           rw[ho] at h' eF;simp only[AE] at h' eF;have hcs:BH (·==(B.length:Int)) a<=cA a:=R2 (λ_ _=>rfl) a;refine V5 (Au:=Au) (hf b) (lo:=B.length+1) (M:=M) (W:=wt b) (q:=q) ?_ _ a B' r' ta ?_ hlo h' eF
           .intro B3 r3 hlo3 h3' hM3 c HM
            have:=ih b B3 M (λi=>q i&&!(i==(B.length:Int))) r3 (λi h1 h2=>by grind) (F7 (λi hi=>by grind) _ ht.2.2.1) h3' hM3 c HM;refine⟨F7 (λi hi=>by grind) _ this.1,(Ou (v:=B.length) (by simp) c false this.1).2,this.2⟩
           .have:BH (·==(B.length:Int)) a*wt b<=max 1 (cv body)*wt b:=CJ _ (by omega)
            omega
end
section
variable {Au:Nat->Bool}
theorem ID {α:Type} {g:α->List Ty->FV} (hg:∀a B,B<+:(g a B).2):∀(l:List α) (out B:List Ty),B<+:(CX Au g l out B).2
 | [],_,_=>Cw _
 | a::l,out,B=>by
  have h:=hg a B;rw[CX];rcases hr:g a B with ⟨_|r,B1⟩
  .grind
  .rw[hr] at h
   simp only at h ⊢;cases Au (out++r).length with
   | true=>exact h
   | false=>exact h.trans (ID hg l (out++r) B1)
theorem Hf {ex:List Ty->FV} (hx:∀B,B<+:(ex B).2) (v:Nat):∀(f:Nat) (t:Ty) (B:List Ty),B<+:(CB Au ex v f t B).2
 | 0,_,_=>Cw _
 | f+1,t,B=>by
  have h:=hx B;rw[CB];cases Cz v false t with
  | false=>simp
  | true=>
   rcases hr:ex B with ⟨_|r,B1⟩
   .grind
   .rw[hr] at h
    exact h.trans (ID (λc B=>Hf hx v f _ B) r [] B1)
theorem Ka {ex:List Ty->FV} (hx:∀B,B<+:(ex B).2) (v:Nat) (t:Ty) (B:List Ty):B<+:(Bl Au ex v t B).2:=by grind[Bl,Hf]
theorem Oy {ex:Ty->List Ty->FV} (hx:∀t B,B<+:(ex t B).2):∀(l out:List Ty) (ok:Bool) (B:List Ty),B<+:(G3 ex l out ok B).2
 | [],_,_,_=>Cw _
 | t::l,out,ok,B=>by
  have h:=hx t B;rw[G3];rcases hr:ex t B with ⟨_|r,B1⟩
  .rw[hr] at h
   exact h.trans (Oy hx l out false B1)
  .rw[hr] at h
   exact h.trans (Oy hx l (out++r) ok B1)
theorem TP {ex:Ty->List Ty->FV} (hx:∀t B,B<+:(ex t B).2):∀(l:List Ty) (out:List (List Ty)) (B:List Ty),B<+:(EI ex l out B).2
 | [],_,_=>Cw _
 | t::l,out,B=>by
  have h:=hx t B;rw[EI];rcases hr:ex t B with ⟨_|r,B1⟩
  .grind
  .rw[hr] at h
   exact h.trans (TP hx l (out++[r]) B1)
theorem Fk:∀(f:Nat) (t:Ty) (B:List Ty),B<+:(Ao Au f t B).2
 | 0,_,_=>Cw _
 | f+1,.mk k n i ts,B=>by
  have hf:=Fk f;rw[Ao];cases k==0||k==2||k==7 with
  | true=>simp
  | false=>
   simp only[AE];cases k==4 with
   | true=>
    grind[Oy]
   | false=>
    simp only[AE];cases k==3 with
    | true=>
     grind[TP]
    | false=>
     simp only[AE];cases k==6 with
     | false=>simp
     | true=>
      simp only[AH]
      match ts with
      | []=>exact Cw _
      | [_]=>exact Cw _
      | _::_::_::_=>exact Cw _
      | [b,body]=>
       grind[eE,List.prefix_append,ID,Ka]
theorem Kb (h0:Au 0=false):∀(f:Nat) (t:Ty) (B r:List Ty),(Ao Au f t B).1=some r->Au r.length=false
 | 0,_,_,_,h=>by cases h
 | f+1,.mk k n i ts,B,r,h=>by
  rw[Ao] at h;cases hk0:k==0||k==2||k==7 with
  | true=>
   grind
  | false=>
   rw[hk0] at h;simp only[AE] at h;cases MD:k==4 with
   | true=>
    grind
   | false=>
    rw[MD] at h;simp only[AE] at h;cases Ml:k==3 with
    | true=>
     rw[Ml] at h;simp only[AH] at h;rcases hs:EI (Ao Au f) ts [] B with ⟨_|ls,B1⟩
     .grind
     .rw[hs] at h
      simp only at h;cases he:ls.any List.isEmpty with
      | true=>grind
      | false=>
       rw[he] at h;simp only[AE] at h;cases hc:DR Au ls [[]] with
       | none=>grind
       | some all=>
        rw[hc] at h;simp only at h;cases hb:Au all.length with
        | true=>grind
        | false=>grind
    | false=>
     rw[Ml] at h;simp only[AE] at h;cases YN:k==6 with
     | false=>
      grind
     | true=>
      rw[YN] at h;simp only[AH] at h
      match ts with
      | []=>cases h; omega
      | [_]=>cases h; omega
      | _::_::_::_=>cases h; omega
      | [b,body]=>
       grind[eE]
end
end Go.Proofs.YtpgfpakdnijngaaGreatDoor
