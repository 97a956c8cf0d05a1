/-
  Branches: the program's and the reference's are alike: bounds that are put in, eliminated variables.
-/
import Derived.Test.YtpgfpakdnijngaaGreatDoorTA
set_option linter.all false
namespace Go.Proofs.YtpgfpakdnijngaaGreatDoor
open Go.Tel
def CV {α β:Type} (R:α->β->Prop):List α->List β->Prop
 | [],[]=>True
 | a::l,b::m=>R a b/\CV R l m
 | _,_=>False
section
variable {α β:Type}
theorem CV.mono {R S:α->β->Prop} (h:∀a b,R a b->S a b):∀{l:List α} {m:List β},CV R l m->CV S l m
 | [],[],_=>trivial
 | _::_,_::_,⟨h1,h2⟩=>⟨h _ _ h1,h2.mono h⟩
 | [],_::_,h=>h.elim
 | _::_,[],h=>h.elim
theorem CV.length {R:α->β->Prop}:∀{l:List α} {m:List β},CV R l m->l.length=m.length
 | [],[],_=>rfl
 | _::_,_::_,⟨_,h⟩=>by simp[h.length]
 | [],_::_,h=>h.elim
 | _::_,[],h=>h.elim
theorem CV.append {R:α->β->Prop}:∀{l l':List α} {m m':List β},CV R l m->CV R l' m'->CV R (l++l') (m++m')
 | [],_,[],_,_,h=>h
 | _::_,_,_::_,_,⟨h1,h2⟩,h=>⟨h1,h2.append h⟩
 | [],_,_::_,_,h,_=>h.elim
 | _::_,_,[],_,h,_=>h.elim
end
def Li {α:Type} (Q:List Ty->α->Ty->Prop) (B:List Ty):Option (List α)->Fv->Prop
 | none,(none,B')=>B<+:B'
 | some r,(some ps,B')=>B<+:B'/\CV (Q B') r ps
 | _,_=>False
theorem EJ {A B C:List Ty} (h:A<+:B) (h':B<+:C):A<+:C:=h.trans h'
theorem Mn {A B:List Ty} (h:A<+:B) {i:Nat} {t:Ty} (hi:A[i]?=some t):B[i]?=some t:=by
 obtain⟨C,rfl⟩:=h
 grind
theorem GG {A B:List Ty} (h:A<+:B):A.length<=B.length:=h.length_le
section
variable (BD:Nat->Bool)
theorem gB {α β γ:Type} {Q:List Ty->γ->Ty->Prop} (hQ:∀B B' a b,B<+:B'->Q B a b->Q B' a b) {S:α->β->Prop} {g:α->Option (List γ)} {g':β->List Ty->Fv} {B0:List Ty}
  (hg:∀a b B,B0<+:B->S a b->Li Q B (g a) (g' b B)):∀(l:List α) (m:List β) (out:List γ) (out':List Ty) (B:List Ty),B0<+:B->CV S l m->CV (Q B) out out'->Li Q B (IQ BD g l out) (Ca BD g' m out' B)
 | [],[],out,out',B,_,_,h=>⟨DE _,h⟩
 | [],_::_,_,_,_,_,h,_=>h.elim
 | _::_,[],_,_,_,_,h,_=>h.elim
 | a::l,b::m,out,out',B,hB,⟨h1,h2⟩,h=>by
  have hs:=hg a b B hB h1;rw[IQ,Ca];cases hr:g a with
  | none=>
   rw[hr] at hs;rcases hgb:g' b B with ⟨r',B'⟩
   rw[hgb] at hs;cases r' with
   | some _=>exact hs.elim
   | none=>omega
  | some r=>
   rw[hr] at hs;rcases hgb:g' b B with ⟨r',B'⟩
   rw[hgb] at hs;cases r' with
   | none=>exact hs.elim
   | some ps=>
    obtain⟨hp,ha⟩:=hs;have hall:CV (Q B') (out++r) (out'++ps):=(h.mono λa b=>hQ _ _ a b hp).append ha;have hl:(out++r).length=(out'++ps).length:=hall.length
    show Li Q B (bif BD (out++r).length then none else _) (bif BD (out'++ps).length then(none,B') else _)
    rw[<-hl];cases BD (out++r).length with
    | true=>exact hp
    | false=>
     have:=gB hQ hg l m (out++r) (out'++ps) B' (EJ hB hp) h2 hall;simp only[AH];revert this;cases IQ BD g l (out++r) <;> obtain⟨r2,B2⟩:=Ca BD g' m (out'++ps) B' <;> cases r2 <;> intro this
     .exact EJ hp this
     .exact this
     .exact this
     .exact⟨EJ hp this.1,this.2⟩
end
def Ow (φ σ:List Nat) (v:Nat) (i:Int):Nat:=bif i==hole then v else bif decide (0<=i) then φ.getD i.toNat 0 else σ.getD (-1-i).toNat 0
theorem MF {φ σ:List Nat} {v:Nat}:Ow φ σ v hole=v:=by rfl
theorem kI {φ σ:List Nat} {v x:Nat} {i:Nat} (h:φ[i]?=some x) (hs:φ.length<hole):Ow φ σ v (i:Int)=x:=by grind[Ow]
theorem Hz {φ σ:List Nat} {v:Nat} {i:Int} (h:i<0):Ow φ σ v i=σ.getD (-1-i).toNat 0:=by
 have hne:(i==hole)=false:=by grind[hole]
 grind[Ow]
structure Rl (h:Bool) (v:Nat) (B:List Ty) (lo hi:Nat) (σ:List Nat) (b:Br) (p:Ty) (φ:List Nat):Prop where
 nd:φ.Nodup
 N9:∀x∈φ,lo<=x/\x<hi
 len:b.bounds.length=φ.length
 Kj:∀(i x:Nat),φ[i]?=some x->B[x]?=b.bounds[i]?
 small:φ.length<hole
 bd:bd b.body=true
 vis:∀i∈vis b.body,(0<=i/\i<φ.length)\/(i<0/\-i<=σ.length)\/(h=true/\i=hole)
 eq:p=tr (Ow φ σ v) b.body
theorem Rl.mono {h:Bool} {v:Nat} {B B':List Ty} {lo lo' hi hi':Nat} {σ:List Nat} {b:Br} {p:Ty} {φ:List Nat} (H:Rl h v B lo hi σ b p φ) (hB:B<+:B') (hb:hi<=B.length) (h1:lo'<=lo) (h2:hi<=hi'):Rl h v B' lo' hi' σ b p φ:=
 {H with
  N9:=λx hx=>by have:=H.N9 x hx; omega
  Kj:=λi x hx=>by
   have h3:=H.Kj i x hx;have h4:=(H.N9 x (A5 hx)).2
   grind[Mn] }
theorem gD {φ:List Nat} {i:Int} (h0:0<=i) (h1:i<φ.length):∃x,φ[i.toNat]?=some x/\x∈φ:=by simp[*]
theorem Rl.vD {h:Bool} {v:Nat} {B:List Ty} {lo hi:Nat} {σ:List Nat} {b:Br} {p:Ty} {φ:List Nat} (H:Rl h v B lo hi σ b p φ) {w:Nat} (hw:w<lo\/hi<=w) (hσ:w∉σ) {i:Int} (hi:i∈Proofs.YtpgfpakdnijngaaGreatDoor.vis b.body) (hh:i≠hole):Ow φ σ v i≠w:=by
 rcases H.vis i hi with ⟨h0,h1⟩|⟨h0,h1⟩|⟨_,h1⟩
 .obtain⟨x,hx,hm⟩:=gD h0 h1
  have:=H.N9 x hm
  grind[Ow]
 .rw[Hz h0]
  obtain⟨x,hx⟩:∃x,σ[(-1-i).toNat]?=some x:=⟨_,Ak (by omega)⟩;simp only[List.getD,hx,Ic];rintro rfl;exact hσ (A5 hx)
 omega
theorem GH {l:List Int} {k:Nat} (h:l.findIdx? (·==hole)=some k):l[k]?=some hole/\∀i∈l.take k,i≠hole:=by grind[List.findIdx?_eq_some_iff_getElem,List.getElem_of_mem]
theorem TR {l:List Int} {k:Nat} (h:l[k]?=some hole) (hn:∀i∈l.take k,i≠hole):l.count hole=(l.drop (k+1)).count hole+1/\(l.take k).count hole=0:=by grind[List.drop_eq_getElem_cons,List.take_append_drop]
theorem Ox {φ ψ σ:List Nat} {v:Nat} {i:Int} (h:(0<=i/\i<φ.length)\/(i<0)\/i=hole) (hs:φ.length<hole):Ow (φ++ψ) σ v i=Ow φ σ v i:=by
 rcases h with ⟨h0,h1⟩|h|rfl
 .grind[Ow]
 all_goals grind[Hz,MF]
theorem AO3 {B:List Ty} {lo hi:Nat} {c:Br} {q:Ty} {φ ψ σ:List Nat} {v w:Nat} (H:Rl false w B lo hi [] c q ψ) (hs:φ.length+ψ.length<hole):q=tr (Ow (φ++ψ) σ v) (IB φ.length c.body) /\
  (∀i∈vis (IB φ.length c.body),φ.length<=i/\i<φ.length+ψ.length)/\bd (IB φ.length c.body)=true/\Aj (IB φ.length c.body)=(Aj c.body).map λi=>bif decide (0<=i)&&!(i==hole) then i+φ.length else i:=by
 have hv:∀i∈vis c.body,0<=i/\i<ψ.length:=by
  intro i hi;rcases H.vis i hi with h|h|h
  all_goals grind
 have eg:IB φ.length=CH λi=>var (bif decide (0<=i)&&!(i==hole) then i+φ.length else i):=by grind[IB]
 have hg:∀i∈vis c.body,(bif decide (0<=i)&&!(i==hole) then i+(φ.length:Int) else i)=i+φ.length:=by grind
 rw[eg];refine⟨?_,?_,QC _ _ H.bd,EO _ _⟩
 .rw[H.eq,tr,tr,Hi]
  refine EX _ λi hi=>?_
  have hi':=hv i hi;rw[hg i hi];obtain⟨x,hx,_⟩:=gD hi'.1 hi'.2;have e1:Ow ψ [] w i=x:=by grind[kI]
  have e2:Ow (φ++ψ) σ v (i+φ.length)=x:=by
   have hx':(φ++ψ)[φ.length+i.toNat]?=some x:=by grind
   have:=kI (σ:=σ) (v:=v) hx' (by grind)
   grind
  rw[e1,e2]
 .rw[Ml]
  grind
section
variable {BD:Nat->Bool}
def vE (BD:Nat->Bool) (l:Option (List Br)) (h fR:Nat) (b:Br):Option (List Br):=match h with
 | 0=>some [b]
 | _+1=>match l with
  | none=>none
  | some r=>Ed BD r fR b
theorem fill_eq {l:Option (List Br)} {ex:List Ty->Fv} {v lo:Nat} {σ:List Nat} {w:Nat} (hlo:lo<=v) (hσ:v∉σ)
  (hex:∀B,Li (λB' c q=>∃ψ,Rl false 0 B' B.length B'.length [] c q ψ) B l (ex B)) (hw:∀r,l=some r->∀c∈r,c.bounds.length<=w) :
  ∀(h fR:Nat) (b:Br) (p:Ty) (B:List Ty) (φ:List Nat),Rl true v B (v+1) B.length σ b p φ->v<B.length->oI (·==hole) b.body=false->(Aj b.body).count hole=h->h<=fR->φ.length+h*w<hole ->
   Li (λB' b p=>∃φ,Rl false 0 B' lo B'.length σ b p φ) B (vE BD l h fR b) (CI BD ex v h p B):=by
 intro h
 induction h with
 | zero=>
  intro fR b p B φ H hv hI h0 hf hs;rw[CI,vE]
  suffices G:Rl false 0 B lo B.length σ b p φ from⟨DE _,⟨φ,G⟩,Ab⟩
  have hno:∀i∈vis b.body,i≠hole:=by
   rintro i hi rfl;rcases V2 b.body H.bd _ hi with h|h
   all_goals grind
  refine { nd:=H.nd,N9:=λx hx=>?_,len:=H.len,Kj:=H.Kj,small:=H.small,bd:=H.bd,vis:=λi hi=>?_,eq:=?_ }
  .have:=H.N9 x hx
   omega
  .rcases H.vis i hi with h|h|h
   all_goals grind
  .rw[H.eq]
   grind[EX,Ow]
 | succ h ih=>
  intro fR b p B φ H hv hI h0 hf hs;have hmem:hole∈Aj b.body:=List.count_pos_iff.1 (by omega)
  have vF:DY v false p=true:=by
   rw[H.eq,uy _ _ _ H.bd,Di]
   grind[MF]
  rw[CI,vF];simp only[AN];have hx:=hex B;cases hl:l with
  | none=>
   rw[hl] at hx;rcases hgb:ex B with ⟨r',B'⟩
   rw[hgb] at hx;cases r' with
   | some _=>exact hx.elim
   | none=>exact hx
  | some r=>
   rw[hl] at hx;rcases hgb:ex B with ⟨r',B'⟩
   rw[hgb] at hx;cases r' with
   | none=>exact hx.elim
   | some ps=>
    obtain⟨hp,hall⟩:=hx;obtain⟨f,rfl⟩:∃f,fR=f+1:=⟨fR-1,by omega⟩
    obtain⟨k,hk⟩:∃k,GL b.body=some k:=by
     cases hh:GL b.body with
     | some k=>simp
     | none=>
      grind[GL]
    obtain⟨ZQ,hk2⟩:=GH hk;obtain⟨NW,RL⟩:=TR ZQ hk2;rw[show vE BD (some r) (h+1) (f+1) b=Ed BD r (f+1) b from rfl];simp only;rw[Ed,hk];simp only
    have step:=gB (BD:=BD) (Q:=λB' b p=>∃φ,Rl false 0 B' lo B'.length σ b p φ) (λA A' a q hA ⟨φ,h⟩=>⟨φ,h.mono hA (Ac _) (Ac _) (GG hA)⟩)
     (S:=λc q=>c∈r/\∃ψ,Rl false 0 B' B.length B'.length [] c q ψ) (g:=λc=>Ed BD r f (Dp b k c)) (g':=λc B=>CI BD ex v h (KF (·==(v:Int)) c p 0) B) (B0:=B') ?_ r ps [] [] B' (DE _) ?_ Ab
    .revert step
     cases IQ BD (λc=>Ed BD r f (Dp b k c)) r [] <;> obtain⟨r2,B2⟩:=Ca BD (λc B=>CI BD ex v h (KF (·==(v:Int)) c p 0) B) ps [] B' <;> cases r2 <;> intro step
     .exact EJ hp step
     .exact step
     .exact step
     .exact⟨EJ hp step.1,step.2⟩
    .rintro c q A hA ⟨hcr,ψ,hψ⟩
     have Bi:=hw r hl c hcr;rw[hψ.len] at Bi;have hmul:(h+1)*w=h*w+w:=by rw[EK,Nat.one_mul]
     have ZT:φ.length+ψ.length<hole:=by omega
     obtain⟨s1,s2,s3,s4⟩:=AO3 (φ:=φ) (σ:=σ) (v:=v) hψ ZT;have hkl:k<(Aj b.body).length:=(BL.1 ZQ).1
     have e0:p=tr (Ow (φ++ψ) σ v) b.body:=by
      rw[H.eq];refine EX _ λi hi=>?_
      rw[Ox _ H.small];rcases H.vis i hi with h' | h' | h'
      all_goals omega
     have e1:KF (·==(v:Int)) q p 0=tr (Ow (φ++ψ) σ v) (QB (IB φ.length c.body) b.body k):=by
      rw[s1,e0];refine(AEy _ _ _ _ k 0 H.bd ⟨hole,ZQ,by simp[MF]⟩ ?_).symm;rw[List.countP_eq_zero];intro i hi;have AO4:=Ot b.body i (List.mem_of_mem_take hi);have hne:=H.vD (w:=v) (.inl (Nat.lt_succ_self v)) hσ AO4 (hk2 i hi)
      have:=Ox (ψ:=ψ) (σ:=σ) (v:=v) (φ:=φ) (i:=i) (by
       rcases H.vis i AO4 with h' | h' | h'
       all_goals omega) H.small
      grind
     have hno:hole∉vis (IB φ.length c.body):=λhh=>by grind
     have hnc:(Aj (IB φ.length c.body)).count hole=0:=Rk.2 λhm=>hno (Ot _ _ hm)
     have hBB:B<+:A:=EJ hp hA;have key:=ih f (Dp b k c) (KF (·==(v:Int)) q p 0) A (φ++ψ) ?_ (F0 hv (GG hBB)) ?_ ?_ (by omega) (by grind)
     .rw[hl] at key
      cases h with
      | zero=>
       have hz:GL (Dp b k c).body=none:=by
        have hz0:(Aj (Dp b k c).body).count hole=0:=by
         show(Aj (QB (IB b.bounds.length c.body) b.body k)).count hole=0
         rw[H.len,Ov _ _ _ hkl,Rm,Rm,RL,hnc];omega
        grind[GL]
       have e:Ed BD r f (Dp b k c)=some [Dp b k c]:=by
        cases f with
        | zero=>rfl
        | succ f=>rw[Ed,hz]
       show Li _ A (Ed BD r f (Dp b k c)) _
       rw[e];exact key
      | succ h=>exact key
     .refine { nd:=?_,N9:=?_,len:=?_,Kj:=?_,small:=?_,bd:=?_,vis:=?_,eq:=?_ }
      .rw[XZ]
       refine⟨H.nd,hψ.nd,λx hx y hy=>?_⟩;have:=(H.N9 x hx).2;have:=(hψ.N9 y hy).1;omega
      .intro x hx
       have hAl:=GG hBB;have hAl':=GG hA;rcases B9.1 hx with hx|hx
       .have:=H.N9 x hx
        omega
       .have:=hψ.N9 x hx
        omega
      .simp only[Dp,CD,H.len,hψ.len]
      .intro i x hx
       show A[x]?=(b.bounds++c.bounds)[i]?
       by_cases hi:i<φ.length
       .rw[CZ hi] at hx
        rw[CZ (by rw[H.len]; omega)];have:=H.Kj i x hx;have hxl:=(H.N9 x (A5 hx)).2
        grind[Mn]
       .rw[E3 (by omega)] at hx
        rw[E3 (by rw[H.len]; omega),H.len];have:=hψ.Kj _ x hx;have hxl:=(hψ.N9 x (A5 hx)).2
        grind[Mn]
      .grind
      .show bd (QB (IB b.bounds.length c.body) b.body k)=true
       rw[H.len];exact AE0 _ s3 _ _ H.bd
      .intro i hi
       have hi':i∈vis (QB (IB b.bounds.length c.body) b.body k):=hi;rw[H.len] at hi';rw[CD];rcases u6 _ _ _ i hi' with h' | h'
       .rcases H.vis i h' with h'' | h'' | h''
        all_goals grind
       grind
      .rw[e1]
       show _=tr (Ow (φ++ψ) σ v) (QB (IB b.bounds.length c.body) b.body k)
       rw[H.len]
     .show oI (·==hole) (QB (IB b.bounds.length c.body) b.body k)=false
      rw[H.len];cases hh:oI (·==hole) (QB (IB φ.length c.body) b.body k) with
      | false=>rfl
      | true=>
       rcases AEz _ _ _ _ hh with h' | h'
       all_goals grind[vB]
     .show(Aj (QB (IB b.bounds.length c.body) b.body k)).count hole=h
      rw[H.len,Ov _ _ _ hkl,Rm,Rm,RL,hnc];omega
    .have:∀{r':List Br} {ps:List Ty},(∀c∈r',c∈r)->CV (λc q=>∃ψ,Rl false 0 B' B.length B'.length [] c q ψ) r' ps->CV (λc q=>c∈r/\∃ψ,Rl false 0 B' B.length B'.length [] c q ψ) r' ps:=by
      intro r'
      induction r' with
      | nil=>intro ps _ h; cases ps with
       | nil=>trivial
       | cons _ _=>exact h.elim
      | cons a r' ih=>intro ps hm h; cases ps with
       | nil=>exact h.elim
       | cons q ps=>exact⟨⟨hm a (by simp),h.1⟩,ih (λc hc=>hm c (Eg _ hc)) h.2⟩
     grind
end
def ex6:List Nat->Nat
 | [b,c]=>c*(b+1)
 | _=>0
mutual
def cv:Ty->Nat
 | .mk k _ _ ts=>bif k==6 then ex6 (OA ts) else bif k==3||k==4 then(OA ts).sum else 1
def OA:List Ty->List Nat
 | []=>[]
 | t::l=>cv t::OA l
end
def ex7:List Nat->List Nat->Nat
 | [b,c],[_,cc]=>c+1+(cc+1)*b
 | _,_=>0
mutual
def bw:Ty->Nat
 | .mk k _ _ ts=>bif k==6 then ex7 (vG ts) (OA ts) else bif k==3||k==4 then(vG ts).sum else 0
def vG:List Ty->List Nat
 | []=>[]
 | t::l=>bw t::vG l
end
section
variable {BD:Nat->Bool}
theorem MG {α β:Type} {g:α->Option (List β)}:∀{l:List α} {out r:List β},IQ BD g l out=some r->∀d∈r,d∈out\/∃a∈l,∃s,g a=some s/\d∈s
 | [],out,r,h,d,hd=>by grind[IQ]
 | a::l,out,r,h,d,hd=>by
  rw[IQ] at h;cases hg:g a with
  | none=>grind
  | some s=>
   rw[hg] at h;simp only at h;cases hb:BD (out++s).length with
   | true=>grind
   | false=>
    rw[hb] at h;rcases MG h d hd with h' | ⟨a',h1,s',h2,h3⟩
    all_goals grind
theorem aN (n:Nat) (b:Ty):(Aj (IB n b)).length=(Aj b).length:=by
 have eg:IB n=CH λi=>var (bif decide (0<=i)&&!(i==hole) then i+n else i):=by grind[IB]
 simp[*,EO]
theorem TS (n:Nat):JM n=CH λi=>var (bif i==-1 then(n:Int) else bif decide (i<0) then i+1 else i):=by grind[JM]
theorem Nl (n m:Int):Kg n m=CH λi=>var (bif i==n then m else i):=by grind[Kg]
theorem Nn:rI=CH λi=>var (-1-i):=rfl
theorem TT {l:List Br} {w u:Nat} (hl:∀c∈l,c.bounds.length<=w/\(Aj c.body).length<=u):∀(f:Nat) (b:Br) (r:List Br),Ed BD l f b=some r ->
  ∀d∈r,d.bounds.length<=b.bounds.length+f*w/\(Aj d.body).length<=(Aj b.body).length+f*u
 | 0,b,r,h,d,hd=>by grind[Ed]
 | f+1,b,r,h,d,hd=>by
  rw[Ed] at h;have m1:(f+1)*w=f*w+w:=by rw[EK,Nat.one_mul]
  have m2:(f+1)*u=f*u+u:=by rw[EK,Nat.one_mul]
  cases hk:GL b.body with
  | none=>
   grind
  | some k=>
   rw[hk] at h;rcases MG h d hd with h' | ⟨c,h1,s,h2,h3⟩
   .grind
   .have:=TT hl f _ s h2 d h3
    have hc:=hl c h1;have hkl:k<(Aj b.body).length:=(BL.1 (GH hk).1).1
    grind[Dp,Ov,aN]
theorem aO {TJ:Option (List Br)} {bound:Ty} {b:Br} {w u:Nat} (hl:∀l,TJ=some l->∀c∈l,c.bounds.length<=w/\(Aj c.body).length<=u) {r:List Br} (h:FO BD TJ bound b=some r) :
  ∀d∈r,d.bounds.length<=b.bounds.length+1+(Aj b.body).length*w/\(Aj d.body).length<=(Aj b.body).length*(u+1):=by
 intro d hd;have ec:(Aj (JM b.bounds.length b.body)).length=(Aj b.body).length:=by simp[*,TS,EO]
 have ec2:∀m,(Aj (Kg b.bounds.length m (JM b.bounds.length b.body))).length=(Aj b.body).length:=λm=>by simp[*,Nl,EO]
 have hm:(Aj b.body).length<=(Aj b.body).length*(u+1):=Nat.le_mul_of_pos_right _ (by omega);have hm2:(Aj b.body).length*(u+1)=(Aj b.body).length+(Aj b.body).length*u:=by grind
 unfold FO at h;cases hI:oI (·==(b.bounds.length:Int)) (JM b.bounds.length b.body) with
 | true=>
  grind
 | false=>
  rw[hI] at h;simp only[AH] at h;cases hh:GL (Kg b.bounds.length hole (JM b.bounds.length b.body)) with
  | none=>
   grind
  | some k=>
   rw[hh] at h;cases hb:TJ with
   | none=>grind
   | some l=>
    rw[hb] at h;have:=TT (hl l hb) _ _ r h d hd
    grind
theorem Kk {α β:Type} {g:α->Option β}:∀{ts:List α} {ls:List β},FP (ts.map g)=some ls->CV (λt l=>g t=some l) ts ls
 | [],ls,h=>by
  simp only[Cs,FP,Au] at h;subst h
  trivial
 | t::ts,ls,h=>by
  simp only[CE] at h;cases hg:g t with
  | none=>grind[FP]
  | some a=>
   rw[hg,FP] at h;cases hr:FP (ts.map g) with
   | none=>grind
   | some r=>
    rw[hr] at h;simp only[Au] at h;subst h;exact⟨hg,Kk hr⟩
theorem V4:∀{ls:List (List Br)} {ws us:List Nat} {out r:List Br} {N M:Nat},(CV (λl w=>∀c∈l,c.bounds.length<=w) ls ws)->(CV (λl w=>∀c∈l,(Aj c.body).length<=w) ls us) ->
  (∀b∈out,b.bounds.length<=N/\(Aj b.body).length<=M/\∃args,b.body=.mk 3 [] 0 args)->JN BD ls out=some r->∀d∈r,d.bounds.length<=N+ws.sum/\(Aj d.body).length<=M+us.sum
 | [],[],[],out,r,N,M,_,_,ho,h,d,hd=>by grind[JN]
 | [],_::_,_,_,_,_,_,h,_,_,_,_,_=>h.elim
 | [],[],_::_,_,_,_,_,_,h,_,_,_,_=>h.elim
 | _::_,[],_,_,_,_,_,h,_,_,_,_,_=>h.elim
 | _::_,_::_,[],_,_,_,_,_,h,_,_,_,_=>h.elim
 | l::ls,w::ws,u::us,out,r,N,M,⟨hw,hws⟩,⟨hu,hus⟩,ho,h,d,hd=>by
  rw[JN] at h;cases hb:BD (HI out l).length with
  | true=>grind
  | false=>
   rw[hb] at h;have:=V4 (N:=N+w) (M:=M+u) hws hus ?_ h d hd
   .grind
   .intro b hb'
    unfold HI at hb';obtain⟨b0,h0,h1⟩:=OL.1 hb';obtain⟨c,h2,rfl⟩:=C3.1 h1;obtain⟨q1,q2,args,q3⟩:=ho b0 h0;have:=hw c h2;have:=hu c h2;rw[q3];refine⟨by grind,?_,_,rfl⟩
    have ea:Bp (args++[IB b0.bounds.length c.body])=Bp args++Aj (IB b0.bounds.length c.body):=by
     have:∀(l:List Ty) (t:Ty),Bp (l++[t])=Bp l++Aj t:=by
      intro l t
      induction l with
      | nil=>simp[Bp]
      | cons a l ih=>grind[Bp]
     grind
    grind[Aj,aN]
theorem QE:∀l:List Ty,OA l=l.map cv
 | []=>rfl
 | t::l=>by rw[OA,QE l]; rfl
theorem Gi:∀l:List Ty,vG l=l.map bw
 | []=>rfl
 | t::l=>by rw[vG,Gi l]; rfl
theorem CV.JP {α β γ:Type} {R:α->β->Prop} {S:β->γ->Prop} {g:α->γ}:∀{l:List α} {m:List β},(∀a b,a∈l->R a b->S b (g a))->CV R l m->CV S m (l.map g)
 | [],[],_,_=>trivial
 | a::l,b::m,h,⟨h1,h2⟩=>⟨h a b (by simp) h1,h2.JP λa b ha=>h a b (Eg _ ha)⟩
 | [],_::_,_,h=>h.elim
 | _::_,[],_,h=>h.elim
theorem CV.Mo {α β:Type} {R:α->β->Prop}:∀{l:List α} {m:List β},CV R l m->∀b∈m,∃a∈l,R a b
 | [],[],_,b,h=>by cases h
 | a::l,c::m,⟨h1,h2⟩,b,h=>by
  rcases A6.1 h with rfl|h
  .grind
  .obtain⟨a',h3,h4⟩:=h2.Mo b h
   grind
 | [],_::_,h,_,_=>h.elim
 | _::_,[],h,_,_=>h.elim
theorem D0:∀{l:List Nat} {n:Nat},n∈l->n<=l.sum
 | a::l,n,h=>by
  rw[Mb];rcases A6.1 h with rfl|h
  .omega
  .have:=D0 h
   omega
theorem Df:∀(f:Nat) (t:Ty) (l:List Br),DS BD f t=some l->∀c∈l,c.bounds.length<=bw t/\(Aj c.body).length<=cv t
 | 0,t,l,h,c,hc=>by grind[DS]
 | f+1,.mk k n i ts,l,h,c,hc=>by
  rw[DS] at h;rw[bw,cv]
  by_cases k0:k=0
  .grind[Aj]
  have b0:(k==0)=false:=by grind
  rw[b0] at h;simp only[AH] at h;cases b25:(k==2||k==5) with
  | true=>
   rw[b25] at h;simp only[AN,Au] at h;subst h;rw[E5.1 hc];have b6:(k==6)=false:=by grind
   have b34:(k==3||k==4)=false:=by grind
   rw[b6,b34];simp only[AH,Nn,EO,CC,CJ,Ac,true_and]
   grind[Aj]
  | false=>
   rw[b25] at h;simp only[AH] at h
   by_cases k3:k=3
   .subst k3
    simp only[DL,AN] at h;cases hs:FP (ts.map (DS BD f)) with
    | none=>grind
    | some ls=>
     rw[hs] at h;simp only at h;have ha:=Kk hs;cases he:ls.any List.isEmpty with
     | true=>grind
     | false=>
      rw[he] at h;have q1:CV (λl w=>∀c∈l,c.bounds.length<=w) ls (ts.map bw):=ha.JP λt l _ hg c hc=>(Df f t l hg c hc).1
      have q2:CV (λl w=>∀c∈l,(Aj c.body).length<=w) ls (ts.map cv):=ha.JP λt l _ hg c hc=>(Df f t l hg c hc).2
      have:=V4 (N:=0) (M:=0) q1 q2 (λb hb=>by simp_all[Aj,Bp]) h c hc
      grind[Gi,QE]
   have b3:(k==3)=false:=by grind
   rw[b3] at h;simp only[AH] at h
   by_cases k4:k=4
   .subst k4
    simp only[DL,AN] at h;cases hs:FP (ts.map (DS BD f)) with
    | none=>grind
    | some ls=>
     rw[hs] at h;simp only at h;have ha:=Kk hs;cases hb:BD ls.flatten.length with
     | true=>grind
     | false=>
      rw[hb] at h;simp only[AH,Au] at h;subst h;obtain⟨l',h1,h2⟩:=Xa.1 hc;obtain⟨t,h3,h4⟩:=ha.Mo l' h1;have:=Df f t l' h4 c h2;have s1:bw t<=(vG ts).sum:=by simp[*,Gi,D0,Eh]
      have s2:cv t<=(OA ts).sum:=by simp[*,QE,D0,Eh]
      grind
   have b4:(k==4)=false:=by grind
   rw[b4] at h;simp only[AH] at h
   by_cases k6:k=6
   .subst k6
    simp only[DL,AN] at h ⊢;rcases ts with _|⟨b,_|⟨body,_|⟨z,r⟩⟩⟩
    .cases h; grind
    .cases h; grind
    .simp only[eD] at h
     cases hb:DS BD f body with
     | none=>grind
     | some l0=>
      rw[hb] at h;simp only at h;simp only[OA,vG,ex6,ex7];rcases MG h c hc with h' | ⟨a,h1,s,h2,h3⟩
      .grind
      .have i0:=Df f body l0 hb a h1
       have i1:=aO (λl hl c hc=>Df f b l hl c hc) h2 c h3;have m1:(Aj a.body).length*bw b<=cv body*bw b:=CO _ i0.2;have m2:(Aj a.body).length*(cv b+1)<=cv body*(cv b+1):=CO _ i0.2
       grind
    .cases h; grind
   grind
end
section
variable {BD:Nat->Bool}
theorem Iv {φ σ:List Nat} {v:Nat} {i:Int} (h0:0<=i) (h1:i<φ.length) (hs:φ.length<=hole):∃x,φ[i.toNat]?=some x/\x∈φ/\Ow φ σ v i=x:=by grind[Ow]
theorem AC0 {TJ:Option (List Br)} {ex:List Ty->Fv} {Ec:Ty} {v:Nat} {σ:List Nat} {w:Nat} (hσ:v∉σ)
  (hex:∀B,Li (λB' c q=>∃ψ,Rl false 0 B' B.length B'.length [] c q ψ) B TJ (ex B)) (hw:∀r,TJ=some r->∀c∈r,c.bounds.length<=w)
  {b:Br} {p:Ty} {B:List Ty} {φ:List Nat} (H:Rl false 0 B (v+1) B.length (v::σ) b p φ) (hv:B[v]?=some Ec) (hs:φ.length+1+(Aj b.body).length*w<hole) :
  Li (λB' b p=>∃φ,Rl false 0 B' v B'.length σ b p φ) B (FO BD TJ Ec b) (B5 BD ex v p B):=by
 have hvl:=(BL.1 hv).1;have hφ:(φ.length:Int)+1<hole:=by grind
 obtain⟨g1,hg1⟩:∃g1:Int->Int,g1=λi=>bif i==-1 then(φ.length:Int) else bif decide (i<0) then i+1 else i:=⟨_,rfl⟩
 obtain⟨b1,SX⟩:∃b1,b1=JM b.bounds.length b.body:=⟨_,rfl⟩;have hbi:b1=CH (λi=>var (g1 i)) b.body:=by rw[SX,TS,H.len,hg1]
 have AC1:bd b1=true:=by rw[hbi]; exact QC _ _ H.bd
 have AWD:(Aj b1).length=(Aj b.body).length:=by rw[hbi,EO,CC]
 have hv1:∀i∈vis b1,(0<=i/\i<φ.length+1)\/(i<0/\-i<=σ.length):=by
  rw[hbi,Ml];intro j hj;obtain⟨i,hi,rfl⟩:=C3.1 hj;rw[hg1];rcases H.vis i hi with h|h|h
  all_goals grind
 have hnv:v∉φ:=λhm=>by have:=(H.N9 v hm).1; omega
 have hφ':((φ++[v]).length:Int)<=hole:=by grind
 have e1:p=tr (Ow (φ++[v]) σ 0) b1:=by
  rw[H.eq,hbi,tr,tr,Hi];refine EX _ λi hi=>?_
  rcases H.vis i hi with h|h|h
  .have e1:g1 i=i:=by grind
   rw[e1,Ox (.inl h) H.small];obtain⟨x,hx,_,e3⟩:=Iv (σ:=v::σ) (v:=0) h.1 h.2 (by omega);obtain⟨y,hy,_,e4⟩:=Iv (σ:=σ) (v:=0) h.1 h.2 (by omega)
   grind
  .by_cases e:i=-1
   .subst e
    have e1:g1 (-1)=(φ.length:Int):=by grind
    obtain⟨y,hy,_,e4⟩:=Iv (φ:=φ++[v]) (σ:=σ) (v:=0) (i:=(φ.length:Int)) (by omega) (by grind) hφ'
    simp_all[Hz]
   .have e1:g1 i=i+1:=by grind
    rw[e1,Hz h.1,Hz (by omega)];have e5:(-1-i).toNat=(-1-(i+1)).toNat+1:=by omega
    simp[*]
  grind
 have key:∀i∈vis b1,(Ow (φ++[v]) σ 0 i==v)=(i==(φ.length:Int)):=by
  intro i hi;rw[OJ,K2,K2];rcases hv1 i hi with h|h
  .obtain⟨y,hy,_,e4⟩:=Iv (φ:=φ++[v]) (σ:=σ) (v:=0) h.1 (by grind) hφ'
   grind
  .rw[Hz h.1]
   obtain⟨x,hx⟩:∃x,σ[(-1-i).toNat]?=some x:=⟨_,Ak (by omega)⟩;simp only[List.getD,hx,Ic];constructor
   .rintro rfl
    exact absurd (A5 hx) hσ
   omega
 have vF:DY v true p=oI (·==(b.bounds.length:Int)) b1:=by
  rw[e1,kA _ _ _ AC1,H.len]
  grind[TM]
 unfold FO B5;rw[vF,<-SX];cases hI:oI (·==(b.bounds.length:Int)) b1 with
 | true=>
  refine And.intro (DE _) (And.intro ?_ Ab);refine⟨φ++[v],?_⟩;refine { nd:=?_,N9:=?_,len:=?_,Kj:=?_,small:=?_,bd:=AC1,vis:=?_,eq:=e1 }
  .rw[XZ]
   refine⟨H.nd,by simp,λx hx y hy=>?_⟩
   grind
  .intro x hx
   rcases B9.1 hx with hx|hx
   .have:=H.N9 x hx
    omega
   grind
  .simp[H.len]
  .intro i x hx
   by_cases hi:i<φ.length
   .rw[CZ hi] at hx
    rw[CZ (by rw[H.len]; omega)];exact H.Kj i x hx
   .rw[E3 (by omega)] at hx
    rw[E3 (by rw[H.len]; omega),H.len]
    grind
  all_goals grind
 | false=>
  obtain⟨g2,hg2⟩:∃g2:Int->Int,g2=λi=>bif i==(φ.length:Int) then hole else i:=⟨_,rfl⟩
  have g2t:g2 (φ.length:Int)=hole:=by grind
  have g2f:∀i,i≠(φ.length:Int)->g2 i=i:=by grind
  obtain⟨b2,Ll⟩:∃b2,b2=Kg b.bounds.length hole b1:=⟨_,rfl⟩;have hre:b2=CH (λi=>var (g2 i)) b1:=by rw[Ll,Nl,H.len,hg2]
  have AO7:bd b2=true:=by rw[hre]; exact QC _ _ AC1
  have hne:∀i∈vis b1,i≠hole:=by grind
  have hg2v:∀i∈vis b1,(g2 i==hole)=(i==(φ.length:Int)):=by grind
  have hv2:∀i∈vis b2,(0<=i/\i<φ.length)\/(i<0/\-i<=σ.length)\/(true=true/\i=hole):=by
   rw[hre,Ml]
   grind
  have e2:p=tr (Ow φ σ v) b2:=by
   rw[e1,hre,tr,tr,Hi];refine EX _ λi hi=>?_
   by_cases hb:i=(φ.length:Int)
   .grind[MF]
   .rw[g2f i hb]
    rcases hv1 i hi with h|h
    .rw[Ox (.inl ⟨h.1,by omega⟩) H.small]
     obtain⟨x,hx,_,e3⟩:=Iv (φ:=φ) (σ:=σ) (v:=0) (i:=i) h.1 (by omega) (by omega);obtain⟨y,hy,_,e4⟩:=Iv (φ:=φ) (σ:=σ) (v:=v) (i:=i) h.1 (by omega) (by omega)
     grind
    grind[Hz]
  have hH2:Rl true v B (v+1) B.length σ ⟨b.bounds,b2⟩ p φ:=
   {nd:=H.nd,N9:=H.N9,len:=H.len,Kj:=H.Kj,small:=H.small,bd:=AO7,vis:=hv2,eq:=e2 }
  have hI2:oI (·==hole) b2=false:=by
   rw[hre,ux _ _ _ AC1,<-hI,H.len]
   grind[TM]
  have hcl2:(Aj b2).length=(Aj b.body).length:=by rw[hre,EO,CC,AWD]
  have TU:BU (·==(v:Int)) p=(Aj b2).count hole:=by
   rw[e2,fy _ _ _ AO7,List.count];refine List.countP_congr λi hi=>?_
   have hvi:=Ot _ i hi
   have:(Ow φ σ v i=v)<->i=hole:=by
    constructor
    .intro h
     by_cases hh:i=hole
     .omega
     .exact absurd h (hH2.vD (.inl (Nat.lt_succ_self v)) hσ hvi hh)
    grind[MF]
   grind
  have hle:(Aj b2).count hole<=(Aj b.body).length:=by grind
  have hmul:(((Aj b2).count hole:Nat):Int)*w<=((Aj b.body).length:Int)*w:=by
   have:=CO w hle;omega
  have step:=fill_eq (BD:=BD) (l:=TJ) (ex:=ex) (lo:=v) (Ac v) hσ hex hw ((Aj b2).count hole) (Aj b.body).length ⟨b.bounds,b2⟩ p B φ hH2 hvl hI2 rfl hle (by omega);simp only[AH];rw[<-Ll,TU];cases hh:GL b2 with
  | none=>
   have hz:(Aj b2).count hole=0:=by grind[List.count_eq_zero,GL]
   rw[hz] at step ⊢;exact step
  | some k=>
   have hz:(Aj b2).count hole≠0:=by
    rw[ne_eq,Rk];intro hm;exact hm (A5 (GH hh).1)
   obtain⟨c,hc⟩:∃c,(Aj b2).count hole=c+1:=⟨(Aj b2).count hole-1,by omega⟩;rw[hc] at step ⊢
   assumption
end
theorem NL {k i:Int} {n:List UInt8} {ts:List Ty} (h:root k n i ts=true) :
  (k=0/\n=[]/\i=0/\ts=[])\/(k=1/\n=[]/\i=0/\ts=[])\/k=2\/(k=3/\n=[]/\i=0)\/(k=4/\n=[]/\i=0/\ts≠[])\/(k=5/\n=[]/\ts=[]/\0<=i)\/(k=6/\n=[]/\i=0/\∃b body,ts=[b,body]/\Cv 0 b=true):=by
 unfold root at h;simp only[AG,Di,K2] at h;obtain⟨⟨h1,h2⟩,h3⟩:=h;unfold shape at h3
 by_cases k0:k=0
 .grind
 by_cases k1:k=1
 .grind
 by_cases k2:k=2
 .omega
 by_cases k3:k=3
 .grind
 by_cases k4:k=4
 .grind
 by_cases k5:k=5
 .grind
 by_cases k6:k=6
 .subst k6
  simp at h1 h2 h3;refine .inr (.inr (.inr (.inr (.inr (.inr ⟨rfl,h1,h2,?_⟩)))));rcases ts with _|⟨b,_|⟨c,_|⟨d,l⟩⟩⟩ <;> simp at h3
  exact⟨_,_,rfl,h3⟩
 grind
theorem CV.of_map {α β γ:Type} {R:α->γ->Prop} {g:β->γ}:∀{l:List α} {m:List β},CV (λa b=>R a (g b)) l m->CV R l (m.map g)
 | [],[],_=>trivial
 | _::_,_::_,⟨h1,h2⟩=>⟨h1,h2.of_map⟩
 | [],_::_,h=>h.elim
 | _::_,[],h=>h.elim
section
variable {BD:Nat->Bool}
def Cj (n:Nat):Prop:=(n:Int)<hole
def vH (BD:Nat->Bool) (f:Nat) (σ:List Nat) (t:Ty):Prop:=∀B,(∀x∈σ,x<B.length)->Li (λB' b p=>∃φ,Rl false 0 B' B.length B'.length σ b p φ) B (DS BD f t) (BF BD f (inst σ 0 t) B)
def Ch (B':List Ty) (σ:List Nat):Nat->List Nat->List (List Br)->List (List Ty)->Prop
 | lo,[],[],[]=>lo<=B'.length
 | lo,w::ws,l::ls,ps::rs=>(∀b∈l,b.bounds.length<=w)/\∃mid,lo<=mid/\mid<=B'.length/\CV (λb p=>∃φ,Rl false 0 B' lo mid σ b p φ) l ps/\Ch B' σ mid ws ls rs
 | _,_,_,_=>False
theorem Et {k:Int} (h6:k≠6) (σ:List Nat):∀(l:List Ty) (j:Nat),Db σ 0 k j l=l.map (inst σ 0)
 | [],_=>rfl
 | t::l,j=>by
  have b6:(k==6)=false:=by grind
  have hb:Ec k j=0:=by simp[Ec,b6]
  rw[Db,hb,Gc,Et h6 σ l (j+1)];rfl
theorem kJ {f:Nat} {σ:List Nat}:∀(ts:List Ty) (out:List (List Ty)) (B:List Ty),(∀x∈σ,x<B.length)->(∀t∈ts,vH BD f σ t) ->
  match FP (ts.map (DS BD f)),Er (BF BD f) (ts.map (inst σ 0)) out B with
  | none,(none,B')=>B<+:B'
  | some ls,(some lps,B')=>∃rs,lps=out++rs/\B<+:B'/\Ch B' σ B.length (ts.map bw) ls rs
  | _,_=>False
 | [],out,B,_,_=>by
  simp only[Cs,FP,Er];exact⟨[],by simp,DE _,Ac _⟩
 | t::ts,out,B,hσ,h=>by
  have h0:=h t (by simp) B hσ;simp only[CE];rw[Er];cases hr:DS BD f t with
  | none=>
   rw[hr] at h0;rcases he:BF BD f (inst σ 0 t) B with ⟨r',B'⟩
   rw[he] at h0;cases r' with
   | some _=>exact h0.elim
   | none=>exact h0
  | some l=>
   rw[hr] at h0;rcases he:BF BD f (inst σ 0 t) B with ⟨r',B'⟩
   rw[he] at h0;cases r' with
   | none=>exact h0.elim
   | some ps=>
    obtain⟨hp,hall⟩:=h0;have ih:=kJ ts (out++[ps]) B' (λx hx=>F0 (hσ x hx) (GG hp)) (λt ht=>h t (Eg _ ht));rw[FP];simp only;revert ih;cases FP (ts.map (DS BD f)) <;> rcases Er (BF BD f) (ts.map (inst σ 0)) (out++[ps]) B' with ⟨r2,B2⟩ <;> cases r2 <;> intro ih
    .grind
    .omega
    .omega
    .obtain⟨rs,h1,h2,h3⟩:=ih
     refine⟨ps::rs,by grind,EJ hp h2,?_⟩;refine⟨λb hb=>(Df f t l hr b hb).1,B'.length,GG hp,GG h2,?_,h3⟩;exact hall.mono λa b ⟨φ,hφ⟩=>⟨φ,hφ.mono h2 (Ac _) (Ac _) (Ac _)⟩
theorem V5:∀(l:List Ty) (t:Ty),Bp (l++[t])=Bp l++Aj t
 | [],t=>by simp[Bp]
 | a::l,t=>by simp[Bp,V5 l t]
theorem aP:∀(l:List Ty) (t:Ty),Ef (l++[t])=Ef l++vis t
 | [],t=>by simp[Ef]
 | a::l,t=>by simp[Ef,aP l t]
theorem kL:∀(l:List Ty) (t:Ty),M6 (l++[t])=(M6 l&&bd t)
 | [],t=>by simp[M6]
 | a::l,t=>by simp[M6,kL l t,Rn]
theorem V6 (f:Int->Ty):∀(l:List Ty) (t:Ty),Cr f (l++[t])=Cr f l++[CH f t]
 | [],t=>by rfl
 | a::l,t=>by simp[Cr,V6 f l t]
theorem AC2 (φ:Int->Nat) (l:List Ty) (t:Ty):TN φ (l++[t])=TN φ l++[tr φ t]:=V6 _ l t
theorem tr3 (φ:Int->Nat) (n:List UInt8) (i:Int) (l:List Ty):tr φ (.mk 3 n i l)=.mk 3 n i (TN φ l):=by rfl
theorem AO8 (n:List UInt8) (i:Int) (l:List Ty):vis (.mk 3 n i l)=Ef l:=by rfl
theorem bd3 (n:List UInt8) (i:Int) (l:List Ty):bd (.mk 3 n i l)=M6 l:=by rfl
def TRl (B':List Ty) (σ:List Nat) (vI mid N:Nat) (b:Br) (args:List Ty):Prop:=∃φ bs,Rl false 0 B' vI mid σ b (.mk 3 [] 0 args) φ/\b.body=.mk 3 [] 0 bs/\φ.length<=N
theorem kM {B':List Ty} {σ:List Nat} {vI lo mid N w:Nat} (hlo:vI<=lo) (hmid:lo<=mid) (hm:mid<=B'.length) (hs:((N+w:Nat):Int)<hole):∀{out:List Br} {YS:List (List Ty)} {l:List Br} {ps:List Ty},CV (TRl B' σ vI lo N) out YS ->
  (∀b∈l,b.bounds.length<=w)->CV (λb p=>∃φ,Rl false 0 B' lo mid σ b p φ) l ps->CV (TRl B' σ vI mid (N+w)) (HI out l) (YS.flatMap λp=>ps.map λx=>p++[x])
 | [],[],_,_,_,_,_=>trivial
 | [],_::_,_,_,h,_,_=>h.elim
 | _::_,[],_,_,h,_,_=>h.elim
 | b::out,args::YS,l,ps,⟨h1,h2⟩,hw,h=>by
  have ih:=kM hlo hmid hm hs h2 hw h
  have one:CV (TRl B' σ vI mid (N+w)) (l.map λc=>(⟨b.bounds++c.bounds,match b.body with
    | .mk _ _ _ args=>.mk 3 [] 0 (args++[IB b.bounds.length c.body])⟩:Br)) (ps.map λx=>args++[x]):=by
   obtain⟨φ,bs,H,hb,hN⟩:=h1;clear ih;revert h hw;revert ps
   induction l with
   | nil=>intro ps _ h; cases ps with
    | nil=>trivial
    | cons _ _=>exact h.elim
   | cons c l ihl=>
    intro ps hw h;cases ps with
    | nil=>exact h.elim
    | cons q ps=>
     refine And.intro ?_ (ihl ps (λb hb=>hw b (Eg _ hb)) h.2);obtain⟨ψ,Hc⟩:=h.1
     have hψ:ψ.length<=w:=by
      have:=hw c (by simp);rw[Hc.len] at this;omega
     have ZT:φ.length+ψ.length<hole:=by omega
     obtain⟨gs,hgs⟩:∃gs:Int->Int,gs=λi=>bif decide (0<=i)&&!(i==hole) then i+φ.length else i:=⟨_,rfl⟩
     have eg:IB φ.length=CH λi=>var (gs i):=by grind[IB]
     have gn:∀i:Int,0<=i->i<ψ.length->gs i=i+φ.length:=by grind
     have gm:∀i:Int,i<0->gs i=i:=by grind
     have e1:q=tr (Ow (φ++ψ) σ 0) (IB φ.length c.body):=by
      rw[Hc.eq,eg,tr,tr,Hi];refine EX _ λi hi=>?_
      rcases Hc.vis i hi with h|h|h
      .rw[gn i h.1 h.2]
       obtain⟨x,hx,_⟩:=gD h.1 h.2;obtain⟨y,hy,_,e4⟩:=Iv (φ:=ψ) (σ:=σ) (v:=0) h.1 h.2 (by omega);obtain⟨z,hz,_,e5⟩:=Iv (φ:=φ++ψ) (σ:=σ) (v:=0) (i:=i+φ.length) (by omega) (by grind) (by grind);rw[e4,e5];have e6:(i+(φ.length:Int)).toNat=φ.length+i.toNat:=by omega
       simp_all
      all_goals grind[Hz]
     have e2:(.mk 3 [] 0 args:Ty)=tr (Ow (φ++ψ) σ 0) b.body:=by
      rw[H.eq];refine EX _ λi hi=>?_
      rw[Ox _ H.small];rcases H.vis i hi with h' | h' | h'
      all_goals omega
     have AWF:M6 bs=true:=by rw[<-bd3 [] 0 bs,<-hb]; exact H.bd
     have e3:args=TN (Ow (φ++ψ) σ 0) bs:=by simp_all[tr3]
     refine⟨φ++ψ,bs++[IB φ.length c.body],?_,?_,by grind⟩
     .have eb:(match b.body with|.mk _ _ _ args=>.mk 3 [] 0 (args++[IB b.bounds.length c.body]):Ty)=.mk 3 [] 0 (bs++[IB φ.length c.body]):=by rw[hb,H.len]
      refine { nd:=?_,N9:=?_,len:=?_,Kj:=?_,small:=?_,bd:=?_,vis:=?_,eq:=?_ }
      .rw[XZ]
       refine⟨H.nd,Hc.nd,λx hx y hy=>?_⟩;have:=(H.N9 x hx).2;have:=(Hc.N9 y hy).1;omega
      .intro x hx
       rcases B9.1 hx with hx|hx
       .have:=H.N9 x hx
        omega
       .have:=Hc.N9 x hx
        omega
      .simp only[CD,H.len,Hc.len]
      .intro i x hx
       show B'[x]?=(b.bounds++c.bounds)[i]?
       by_cases hi:i<φ.length
       .rw[CZ hi] at hx
        rw[CZ (by rw[H.len]; omega)];exact H.Kj i x hx
       .rw[E3 (by omega)] at hx
        rw[E3 (by rw[H.len]; omega),H.len];exact Hc.Kj _ x hx
      .grind
      .show bd (match b.body with|.mk _ _ _ args=>.mk 3 [] 0 (args++[IB b.bounds.length c.body]):Ty)=true
       rw[eb,bd3,kL,AWF,eg,QC _ _ Hc.bd];rfl
      .intro i hi
       have hi':i∈vis (match b.body with|.mk _ _ _ args=>.mk 3 [] 0 (args++[IB b.bounds.length c.body]):Ty):=hi;rw[eb,AO8,aP,B9] at hi';simp only[CD];rcases hi' with hi' | hi'
       .have hv:i∈vis b.body:=by grind[AO8]
        rcases H.vis i hv with h' | h' | h'
        all_goals grind
       .rw[eg,Ml] at hi'
        obtain⟨j,hj,rfl⟩:=C3.1 hi';rcases Hc.vis j hj with h' | h' | h'
        all_goals grind
      simp_all[tr3,AC2]
     .show(match b.body with|.mk _ _ _ args=>.mk 3 [] 0 (args++[IB b.bounds.length c.body]):Ty)=_
      rw[hb,H.len]
  unfold HI at ih ⊢;rw[List.flatMap_cons,List.flatMap_cons];exact one.append ih
theorem AC3 {B':List Ty} {σ:List Nat} {vI:Nat} (ls:List (List Br)):∀{ws:List Nat} {rs:List (List Ty)} {lo N:Nat} {out:List Br} {YS:List (List Ty)},vI<=lo->Ch B' σ lo ws ls rs->Cj (N+ws.sum)->CV (TRl B' σ vI lo N) out YS ->
  match JN BD ls out,Dq BD rs YS with
  | none,none=>True
  | some r,some all=>CV (λb args=>∃φ,Rl false 0 B' vI B'.length σ b (.mk 3 [] 0 args) φ) r all
  | _,_=>False:=by
 induction ls with
 | nil=>
  intro ws rs lo N out YS hlo hc hs h;rcases ws with _|⟨w,ws⟩
  .rcases rs with _|⟨ps,rs⟩
   .rw[JN,Dq]
    exact h.mono λa b ⟨φ,bs,H,_,_⟩=>⟨φ,H.mono (DE _) hc (Ac _) hc⟩
   .exact hc.elim
  .exact hc.elim
 | cons l ls ih=>
  intro ws rs lo N out YS hlo hc hs h;rcases ws with _|⟨w,ws⟩
  .exact hc.elim
  rcases rs with _|⟨ps,rs⟩
  .exact hc.elim
  obtain⟨hw,mid,h1,h2,h3,h4⟩:=hc;unfold Cj at hs;rw[Mb] at hs;have hp:=kM hlo h1 h2 (by omega) h hw h3;rw[JN,Dq,<-hp.length];cases BD (HI out l).length with
  | true=>simp
  | false=>exact ih (CN hlo h1) h4 (by grind[Cj]) hp
theorem aQ {B':List Ty} {σ:List Nat}:∀{ws:List Nat} {ls:List (List Br)} {rs:List (List Ty)} {lo:Nat},Ch B' σ lo ws ls rs->ls.any List.isEmpty=rs.any List.isEmpty
 | [],[],[],_,_=>rfl
 | w::ws,l::ls,ps::rs,lo,⟨_,mid,_,_,h3,h4⟩=>by
  have hl:=h3.length;rw[OK,OK,aQ h4]
  grind
 | [],_::_,_,_,h=>h.elim
 | [],[],_::_,_,h=>h.elim
 | _::_,[],_,_,h=>h.elim
 | _::_,_::_,[],_,h=>h.elim
theorem YT {f:Nat} {σ:List Nat}:∀(ts:List Ty) (out:List Ty) (ok:Bool) (B:List Ty),(∀x∈σ,x<B.length)->(∀t∈ts,vH BD f σ t) ->
  match FP (ts.map (DS BD f)),G4 (BF BD f) (ts.map (inst σ 0)) out ok B with
  | none,((_,ok'),B')=>B<+:B'/\ok'=false
  | some ls,((o,ok'),B')=>B<+:B'/\ok'=ok/\∃ps,o=out++ps/\CV (λb p=>∃φ,Rl false 0 B' B.length B'.length σ b p φ) ls.flatten ps
 | [],out,ok,B,_,_=>by
  rw[Cs,Cs,FP,G4];exact⟨DE _,rfl,[],by simp,Ab⟩
 | t::ts,out,ok,B,hσ,h=>by
  have h0:=h t (by simp) B hσ;simp only[CE];rw[G4];cases hr:DS BD f t with
  | none=>
   rw[hr] at h0;rcases he:BF BD f (inst σ 0 t) B with ⟨r',B'⟩
   rw[he] at h0;cases r' with
   | some _=>exact h0.elim
   | none=>
    have hp:B<+:B':=h0;have ih:=YT ts out false B' (λx hx=>F0 (hσ x hx) (GG hp)) (λt ht=>h t (Eg _ ht))
    grind[FP]
  | some l=>
   rw[hr] at h0;rcases he:BF BD f (inst σ 0 t) B with ⟨r',B'⟩
   rw[he] at h0;cases r' with
   | none=>exact h0.elim
   | some ps=>
    obtain⟨hp,hall⟩:=h0;have ih:=YT ts (out++ps) ok B' (λx hx=>F0 (hσ x hx) (GG hp)) (λt ht=>h t (Eg _ ht));rw[FP];simp only;revert ih;cases FP (ts.map (DS BD f)) <;> rcases G4 (BF BD f) (ts.map (inst σ 0)) (out++ps) ok B' with ⟨⟨o2,ok2⟩,B2⟩ <;> intro ih
    .grind
    .obtain⟨h1,h2,qs,h3,h4⟩:=ih
     refine⟨EJ hp h1,h2,ps++qs,by grind,?_⟩;rw[MX];refine CV.append ?_ ?_
     .exact hall.mono λa b ⟨φ,hφ⟩=>⟨φ,hφ.mono h1 (Ac _) (Ac _) (GG h1)⟩
     .exact h4.mono λa b ⟨φ,hφ⟩=>⟨φ,hφ.mono (DE _) (Ac _) (GG hp) (Ac _)⟩
theorem Hj {u:Nat} {k:Int} (h6:k≠6):∀{l:List Ty} {j:Nat} {t:Ty},D8 u k j l=true->t∈l->Cv u t=true
 | a::l,j,t,h,ht=>by
  have b6:(k==6)=false:=by grind
  have hb:Ec k j=0:=by simp[Ec,b6]
  simp only[D8,AG,hb,Gc] at h;rcases A6.1 ht with rfl|ht
  .grind
  .exact Hj h6 h.2 ht
theorem Cb:∀{l:List Ty} {a:Ty},BT l=true->a∈l->valid a=true
 | b::l,a,h1,h=>by
  simp only[BT,AG] at h1;rcases A6.1 h with rfl|h
  .grind
  .exact Cb h1.2 h
theorem gG (hb0:BD 0=false) (SX:BD 1=false):∀(f:Nat) (t:Ty) (σ:List Nat),valid t=true->Cv σ.length t=true->σ.Nodup->Cj (bw t)->vH BD f σ t:=by
 intro f
 induction f with
 | zero=>
  intro t σ _ _ _ _ B _;rw[DS,BF];exact DE _
 | succ f YU=>
  intro t σ hv hc hn hs B hB;obtain⟨k,n,i,ts⟩:=t;have Pz:=hv;simp only[valid,AG] at hv;have leaf:∀{p:Ty} {b:Br},Rl false 0 B B.length B.length σ b p []->Li (λB' b p=>∃φ,Rl false 0 B' B.length B'.length σ b p φ) B (some [b]) (some [p],B):=λH=>⟨DE _,⟨[],H⟩,Ab⟩
  rcases NL hv.1 with ⟨rfl,rfl,rfl,rfl⟩|⟨rfl,rfl,rfl,rfl⟩|rfl|⟨rfl,rfl,rfl⟩|⟨rfl,rfl,rfl,hne⟩|⟨rfl,rfl,rfl,h0⟩|⟨rfl,rfl,rfl,b,body,rfl,hcb⟩
  .rw[DS,inst,Db]
   simp only[show((0:Int)==5)=false from rfl,AH];rw[BF];simp only[DL,Hv,AN,SX,AH];refine leaf { nd:=HC,N9:=λx hx=>(by grind),len:=rfl,Kj:=λi x hx=>(by grind),small:=(by simp[hole]),bd:=?_,vis:=λi hi=>(by grind[vis]),eq:=?_ }
   all_goals rfl
  .rw[DS,inst,Db]
   simp only[show((1:Int)==5)=false from rfl,AH];rw[BF];simp only[show((1:Int)==0)=false from rfl,show((1:Int)==2)=false from rfl,show((1:Int)==7)=false from rfl,show((1:Int)==3)=false from rfl,show((1:Int)==4)=false from rfl,show((1:Int)==5)=false from rfl,show((1:Int)==6)=false from rfl,K4,AH,hb0];exact⟨DE _,Ab⟩
  .have hp:plain (.mk 2 n i ts)=true:=by grind[plain,Q8]
   obtain⟨q1,q2⟩:=Nk σ _ Pz hp hc;have e:BF BD (f+1) (inst σ 0 (.mk 2 n i ts)) B=(some [inst σ 0 (.mk 2 n i ts)],B):=by grind[inst,BF]
   rw[DS,e];simp only[show((2:Int)==0)=false from rfl,DL,Hv,AN,AH];have hb:bd (.mk 2 n i ts)=true:=by assumption
   refine leaf { nd:=HC,N9:=λx hx=>(by grind),len:=rfl,Kj:=λi x hx=>(by grind),small:=(by simp[hole]),bd:=?_,vis:=λj hj=>?_,eq:=?_ }
   .simp[*,Nn,QC]
   .rw[Nn,Ml] at hj
    obtain⟨j',hj',rfl⟩:=C3.1 hj;have:=QD _ _ Pz hc j' hj';omega
   .rw[q2,Nn,tr,tr,Hi]
    refine EX _ λj hj=>?_
    have:=QD _ _ Pz hc j hj
    grind[Hz]
  .have Bi:=D9 hc (by decide)
   have ih:∀t∈ts,vH BD f σ t:=λt ht=>YU t σ (Cb hv.2 ht) (Hj (by decide) Bi ht) hn (by
    have:bw t<=(vG ts).sum:=by simp[*,Gi,D0,Eh]
    grind[Cj,bw])
   have hq:=kJ (BD:=BD) ts [] B hB ih;rw[DS,inst];simp only[show((3:Int)==5)=false from rfl,AH];rw[BF,Et (by decide)];simp only[show((3:Int)==0)=false from rfl,show((3:Int)==2)=false from rfl,show((3:Int)==7)=false from rfl,show((3:Int)==4)=false from rfl,show((3:Int)==5)=false from rfl,K4,AH,DL,AN];cases ha:FP (ts.map (DS BD f)) with
   | none=>
    rw[ha] at hq;rcases he:Er (BF BD f) (ts.map (inst σ 0)) [] B with ⟨r',B'⟩
    rw[he] at hq;cases r' with
    | some _=>grind
    | none=>exact hq
   | some ls=>
    rw[ha] at hq;rcases he:Er (BF BD f) (ts.map (inst σ 0)) [] B with ⟨r',B'⟩
    rw[he] at hq;cases r' with
    | none=>grind
    | some lps=>
     obtain⟨rs,h1,h2,h3⟩:=hq;simp only[Ce] at h1;subst h1;simp only;rw[<-aQ h3];cases hem:ls.any List.isEmpty with
     | true=>exact⟨h2,Ab⟩
     | false=>
      simp only[AH];have hw:Cj (0+(ts.map bw).sum):=by grind[bw,Gi]
      have hcb:=AC3 (BD:=BD) ls (vI:=B.length) (out:=[⟨[],.mk 3 [] 0 []⟩]) (YS:=[[]]) (Ac _) h3 hw (by
       refine And.intro ?_ Ab;refine⟨[],[],{ nd:=HC,N9:=λx hx=>(by grind),len:=rfl,Kj:=λi x hx=>(by grind),small:=(by simp[hole]),bd:=?_,vis:=λi hi=>(by grind[vis,Ef]),eq:=?_ },rfl,Ac _⟩
       all_goals rfl)
      cases ht:JN BD ls [⟨[],.mk 3 [] 0 []⟩] with
      | none=>
       rw[ht] at hcb;cases s9:Dq BD lps [[]] with
       | none=>exact h2
       | some _=>grind
      | some r=>
       rw[ht] at hcb;cases s9:Dq BD lps [[]] with
       | none=>grind
       | some all=>
        rw[s9] at hcb
        have Np:BD all.length=false:=by
         have gen:∀(rs:List (List Ty)) (out:List (List Ty)) (all:List (List Ty)),BD out.length=false->Dq BD rs out=some all->BD all.length=false:=by
          intro rs
          induction rs with
          | nil=>grind[Dq]
          | cons ps rs ih=>
           grind[Dq]
         grind
        simp only[Np,AH];refine⟨h2,?_⟩
        grind[CV.of_map]
  .have Bi:=D9 hc (by decide)
   have ih:∀t∈ts,vH BD f σ t:=λt ht=>YU t σ (Cb hv.2 ht) (Hj (by decide) Bi ht) hn (by
    have:bw t<=(vG ts).sum:=by simp[*,Gi,D0,Eh]
    grind[Cj,bw])
   have hq:=YT (BD:=BD) ts [] true B hB ih;rw[DS,inst];simp only[show((4:Int)==5)=false from rfl,AH];rw[BF,Et (by decide)];simp only[show((4:Int)==0)=false from rfl,show((4:Int)==2)=false from rfl,show((4:Int)==7)=false from rfl,show((4:Int)==3)=false from rfl,show((4:Int)==5)=false from rfl,K4,AH,DL,AN];cases ha:FP (ts.map (DS BD f)) with
   | none=>
    rw[ha] at hq;rcases he:G4 (BF BD f) (ts.map (inst σ 0)) [] true B with ⟨⟨o,ok⟩,B'⟩
    rw[he] at hq;obtain⟨h1,rfl⟩:=hq
    assumption
   | some ls=>
    rw[ha] at hq;rcases he:G4 (BF BD f) (ts.map (inst σ 0)) [] true B with ⟨⟨o,ok⟩,B'⟩
    rw[he] at hq;obtain⟨h1,rfl,ps,h2,h3⟩:=hq;simp only[Ce] at h2;subst h2;simp only[Fb,<-h3.length];cases BD ls.flatten.length with
    | true=>exact h1
    | false=>exact⟨h1,h3⟩
  .have hp:plain (var i)=true:=by rfl
   obtain⟨q1,q2⟩:=Nk σ _ Pz hp hc;have hi:=ME hc;obtain⟨w,hw⟩:∃w,σ[i.toNat]?=some w:=⟨_,Ak (by omega)⟩;have ei:inst σ 0 (var i)=ph w:=by grind[CH]
   rw[DS,ei,BF];simp only[show((5:Int)==0)=false from rfl,show((5:Int)==2)=false from rfl,show((7:Int)==0)=false from rfl,show((7:Int)==2)=false from rfl,DL,HB,AN,AH,SX];refine leaf { nd:=HC,N9:=λx hx=>(by grind),len:=rfl,Kj:=λi x hx=>(by grind),small:=(by simp[hole]),bd:=?_,vis:=λj hj=>?_,eq:=?_ }
   .rfl
   .rw[rI,CH] at hj
    grind[vis]
   .rw[rI,CH]
    grind[CH,Hz]
  .simp only[BT,AG,K5] at hv
   have Bi:=D9 hc (by decide);simp only[D8,AG,K5,show Ec 6 0=0 from rfl,show Ec 6 1=1 from rfl] at Bi;have Zz:bw b<=bw (.mk 6 [] 0 [b,body])/\bw body+1+cv body*bw b<=bw (.mk 6 [] 0 [b,body]):=by grind[bw,vG,OA,ex7]
   unfold Cj at hs;have ihB:=YU b [] hv.2.1 (by omega) HC (by grind[Cj]);have hsub:sub B.length 0 (inst σ 1 body)=inst (B.length::σ) 0 body:=Ki B.length σ body 0 hv.2.2 (by grind);have hnot:B.length∉σ:=λh=>absurd (hB _ h) (by omega)
   have ihY:=YU body (B.length::σ) hv.2.2 (by grind) (List.nodup_cons.2 ⟨hnot,hn⟩) (by grind[Cj]) (B++[b]) (by grind);have hib:inst σ 0 b=b:=Iu σ b 0 hv.2.1 hcb;rw[DS,inst];simp only[show((6:Int)==5)=false from rfl,AH,Db,show Ec 6 0=0 from rfl,show Ec 6 (0+1)=1 from rfl,Gc,CP,hib];rw[BF];simp only[show((6:Int)==0)=false from rfl,show((6:Int)==2)=false from rfl,show((6:Int)==7)=false from rfl,show((6:Int)==3)=false from rfl,show((6:Int)==4)=false from rfl,show((6:Int)==5)=false from rfl,K4,AH,DL,AN,eD];rw[hsub];have hpB:B<+:B++[b]:=List.prefix_append _ _;cases hr:DS BD f body with
   | none=>
    rw[hr] at ihY;rcases he:BF BD f (inst (B.length::σ) 0 body) (B++[b]) with ⟨r',B'⟩
    rw[he] at ihY;cases r' with
    | some _=>exact ihY.elim
    | none=>exact EJ hpB ihY
   | some l=>
    rw[hr] at ihY;rcases he:BF BD f (inst (B.length::σ) 0 body) (B++[b]) with ⟨r',B'⟩
    rw[he] at ihY;cases r' with
    | none=>exact ihY.elim
    | some ps=>
     obtain⟨hp,hall⟩:=ihY;have Ng:(B++[b]).length=B.length+1:=by simp
     rw[Ng] at hall;have e9:B'[B.length]?=some b:=Mn hp (by simp)
     have hex:∀A,Li (λB' c q=>∃ψ,Rl false 0 B' A.length B'.length [] c q ψ) A (DS BD f b) (BF BD f b A):=by
      intro A;have:=ihB A (λx hx=>by grind)
      grind[Iu]
     have hw:∀r,DS BD f b=some r->∀c∈r,c.bounds.length<=bw b:=λr hr c hc=>(Df f b r hr c hc).1
     have hsz:∀c∈l,c.bounds.length<=bw body/\(Aj c.body).length<=cv body:=Df f body l hr
     have step:=gB (BD:=BD) (Q:=λB' b p=>∃φ,Rl false 0 B' B.length B'.length σ b p φ) (λA A' a q hA ⟨φ,h⟩=>⟨φ,h.mono hA (Ac _) (Ac _) (GG hA)⟩)
      (S:=λc q=>c∈l/\∃ψ,Rl false 0 B' (B.length+1) B'.length (B.length::σ) c q ψ) (g:=FO BD (DS BD f b) b) (g':=B5 BD (BF BD f b) B.length) (B0:=B') (by
       rintro c q A hA ⟨Bi,φ,hφ⟩;have hc:=hsz c Bi;rw[hφ.len] at hc;have hφ':=hφ.mono hA (Ac _) (Ac _) (GG hA);have hm:(Aj c.body).length*bw b<=cv body*bw b:=CO _ hc.2;have hm':(((Aj c.body).length:Nat):Int)*(bw b:Nat)<=(cv body:Nat)*(bw b:Nat):=by omega
       have hq:(((bw body+1+cv body*bw b:Nat)):Int)<hole:=by omega
       have hq':((bw body:Nat):Int)+1+(cv body:Nat)*(bw b:Nat)<hole:=by omega
       exact AC0 hnot hex hw hφ' (Mn hA e9) (by omega)) l ps [] [] B' (DE _) (by
       have:∀{l':List Br} {ps:List Ty},(∀c∈l',c∈l)->CV (λc q=>∃ψ,Rl false 0 B' (B.length+1) B'.length (B.length::σ) c q ψ) l' ps->CV (λc q=>c∈l/\∃ψ,Rl false 0 B' (B.length+1) B'.length (B.length::σ) c q ψ) l' ps:=by
        intro l'
        induction l' with
        | nil=>intro ps _ h; cases ps with
         | nil=>trivial
         | cons _ _=>exact h.elim
        | cons a l' ih=>intro ps hm h; cases ps with
         | nil=>exact h.elim
         | cons q ps=>exact⟨⟨hm a (by simp),h.1⟩,ih (λc hc=>hm c (Eg _ hc)) h.2⟩
       grind) Ab
     simp only
     have AO9:∀(m:List Ty) (out:List Ty) (A:List Ty),BD out.length=false->∀r A',Ca BD (B5 BD (BF BD f b) B.length) m out A=(some r,A')->BD r.length=false:=by
      intro m
      induction m with
      | nil=>grind[Ca]
      | cons q m ih=>
       grind[Ca]
     have hbg:=AO9 ps [] B' hb0;revert step;rcases hcs:Ca BD (B5 BD (BF BD f b) B.length) ps [] B' with ⟨r2,B2⟩
     have hpp:B<+:B':=EJ hpB hp;cases IQ BD (FO BD (DS BD f b) b) l [] <;> cases r2 <;> intro step
     .exact EJ hpp step
     .exact step.elim
     .assumption
     .rename_i r1 r2
      simp only[hbg r2 B2 hcs,AH];exact⟨EJ hpp step.1,step.2⟩
end
mutual
def occs:Ty->List Int->List Int
 | .mk k _ i ts,l=>bif k==5 then(bif l.contains i then l else l++[i]) else bif k==2||k==3 then Ga ts l else l
def Ga:List Ty->List Int->List Int
 | [],l=>l
 | t::ts,l=>Ga ts (occs t l)
end
def TV (l:List Int):Nat->Nat->Ty->Ty
 | 0,_,t=>t
 | f+1,j,t=>TV l f (j+1) (Kg (l.getD j 0) (hole+1+j) t)
def TW:Nat->Nat->Ty->Ty
 | 0,_,t=>t
 | f+1,j,t=>TW f (j+1) (Kg (hole+1+j) j t)
def aR:Ty:=.mk 0 [] 0 []
def FQ (b:Br):Br:=⟨(occs b.body []).map λi=>b.bounds.getD i.toNat aR,TW (occs b.body []).length 0 (TV (occs b.body []) (occs b.body []).length 0 b.body)⟩
mutual
def LP (N:Nat):Ty->List Nat->Ty×List Nat
 | .mk k n i ts,o=>bif k==7&&decide (i<N) then(match o.findIdx? (·==i.toNat) with
   | some j=>(var j,o)
   | none=>(var o.length,o++[i.toNat]))
  else(.mk k n i (Gj N ts o).1,(Gj N ts o).2)
def Gj (N:Nat):List Ty->List Nat->List Ty×List Nat
 | [],o=>([],o)
 | t::l,o=>((LP N t o).1::(Gj N l (LP N t o).2).1,(Gj N l (LP N t o).2).2)
end
def KG (B:List Ty) (p:Ty):Br:=⟨(LP B.length p []).2.map λx=>B.getD x aR,(LP B.length p []).1⟩
mutual
theorem V7 (N:Nat):∀(t:Ty) (o:List Nat),valid t=true->LP N t o=(t,o)
 | .mk k n i ts,o,h=>by
  have b7:(k==7)=false:=by grind[JO]
  simp only[valid,AG] at h;rw[LP,b7];simp only[Gd,AH,TX N ts o h.2]
theorem TX (N:Nat):∀(l:List Ty) (o:List Nat),BT l=true->Gj N l o=(l,o)
 | [],_,_=>rfl
 | t::l,o,h=>by
  simp only[BT,AG] at h;rw[Gj,V7 N t o h.1];simp only[TX N l o h.2]
end
mutual
theorem aS:∀(t:Ty) (l:List Int),l<+:occs t l
 | .mk k _ i ts,l=>by
  rw[occs];cases (k==5) with
  | true=>
   grind
  | false=>
   cases (k==2||k==3) with
   | true=>exact Kl ts l
   | false=>simp
theorem Kl:∀(ts:List Ty) (l:List Int),l<+:Ga ts l
 | [],l=>DE _
 | t::ts,l=>(aS t l).trans (Kl ts _)
end
mutual
theorem MH:∀(t:Ty) (l:List Int),∀i∈occs t l,i∈l\/i∈vis t
 | .mk k _ j ts,l,i,hi=>by
  rw[occs] at hi;rw[vis];cases b5:(k==5) with
  | true=>
   grind
  | false=>
   rw[b5] at hi;cases b:(k==2||k==3) with
   | true=>
    rw[b] at hi;exact V8 ts l i hi
   | false=>
    grind
theorem V8:∀(ts:List Ty) (l:List Int),∀i∈Ga ts l,i∈l\/i∈Ef ts
 | [],l,i,hi=>.inl hi
 | t::ts,l,i,hi=>by
  rw[Ef,B9];rcases V8 ts _ i hi with h|h
  .rcases MH t l i h with h|h
   all_goals grind
  grind
end
mutual
theorem TY:∀(t:Ty) (l:List Int),∀i∈vis t,i∈occs t l
 | .mk k _ j ts,l,i,hi=>by
  rw[vis] at hi;rw[occs];cases b5:(k==5) with
  | true=>
   grind
  | false=>
   rw[b5] at hi;cases b:(k==2||k==3) with
   | true=>
    rw[b] at hi;exact V9 ts l i hi
   | false=>
    grind
theorem V9:∀(ts:List Ty) (l:List Int),∀i∈Ef ts,i∈Ga ts l
 | [],l,i,hi=>by cases hi
 | t::ts,l,i,hi=>by
  rw[Ef,B9] at hi;rcases hi with hi|hi
  .exact(Kl ts _).subset (TY t l i hi)
  .exact V9 ts _ i hi
end
mutual
theorem LQ:∀(t:Ty) (l:List Int),l.Nodup->(occs t l).Nodup
 | .mk k _ j ts,l,hl=>by
  rw[occs];cases (k==5) with
  | true=>
   grind
  | false=>
   cases (k==2||k==3) with
   | true=>exact RA ts l hl
   | false=>grind
theorem RA:∀(ts:List Ty) (l:List Int),l.Nodup->(Ga ts l).Nodup
 | [],l,hl=>hl
 | t::ts,l,hl=>RA ts _ (LQ t l hl)
end
mutual
theorem kN:∀(t:Ty) (l:List Int),vis t=[]->occs t l=l
 | .mk k _ j ts,l,hv=>by
  rw[vis] at hv;rw[occs];cases b5:(k==5) with
  | true=>grind
  | false=>
   rw[b5] at hv;cases b:(k==2||k==3) with
   | true=>rw[b] at hv; exact aU ts l hv
   | false=>rfl
theorem aU:∀(ts:List Ty) (l:List Int),Ef ts=[]->Ga ts l=l
 | [],l,_=>rfl
 | t::ts,l,hv=>by
  rw[Ef,jW] at hv;rw[Ga,kN t l hv.1,aU ts l hv.2]
end
def pos (L:List Int) (i:Int):Nat:=L.idxOf i
theorem YV {L:List Int} (hn:L.Nodup) {j:Nat} {i:Int} (h:L[j]?=some i):pos L i=j:=by
 obtain⟨h1,h2⟩:=BL.1 h;have hm:i∈L:=A5 h;have h3:L.idxOf i<L.length:=List.idxOf_lt_length_of_mem hm
 have h4:L[L.idxOf i]?=some i:=by
  rw[Ak h3,List.getElem_idxOf]
 exact(List.getElem?_inj h3 hn).1 (h4.trans h.symm)
section
variable {N:Nat} {ρ:Int->Nat} {L:List Int} (hL:L.Nodup) (hinj:∀i∈L,∀j∈L,ρ i=ρ j->i=j) (hN:∀i∈L,ρ i<N)
include hL hinj hN
mutual
theorem kO:∀(b:Ty) (l:List Int),pl b=true->occs b l<+:L->LP N (tr ρ b) (l.map ρ)=(CH (λi=>var (pos L i)) b,(occs b l).map ρ)
 | .mk k n i ts,l,h,hp=>by
  cases b5:(k==5) with
  | true=>
   rw[tr,CH,CH,occs,b5];simp only[AN]
   have hi:i∈L:=by
    have:i∈occs (.mk k n i ts) l:=TY _ l i (by grind[vis])
    grind
   have hNi:=hN i hi;rw[LP];have hlt:((ρ i:Nat):Int)<N:=by omega
   rw[Ap hlt];simp only[DL,K3,AN,Int.toNat_natCast];have hpre:l<+:L:=(aS _ l).trans hp;cases hc:l.contains i with
   | true=>
    have hm:i∈l:=by grind
    obtain⟨j,hj⟩:=List.getElem?_of_mem hm
    have hjL:L[j]?=some i:=by
     obtain⟨m,rfl⟩:=hpre
     grind
    have hf:(l.map ρ).findIdx? (·==ρ i)=some j:=by
     rw[jX];have hjl:=(BL.1 hj).1;refine⟨by grind,by grind,λa ha=>?_⟩;simp only[List.getElem_map,K2];intro he;have hal:a<l.length:=by omega
     have haL:L[a]?=some l[a]:=by
      obtain⟨m,rfl⟩:=hpre
      grind
     grind[List.getElem?_inj]
    grind[YV]
   | false=>
    have hm:i∉l:=by grind
    have hjL:L[l.length]?=some i:=by
     rw[occs,b5,hc] at hp;simp only[AN,AH] at hp;obtain⟨m,rfl⟩:=hp;simp
    grind[YV]
  | false=>
   cases b2:(k==2) with
   | true=>
    have h2:k=2:=by grind
    subst h2;rw[pl] at h;rw[occs] at hp ⊢;have:=aV ts l (by grind) (by grind)
    grind[CH,LP]
   | false=>
    grind[pl,Mk,V7,Mm,kN,fu]
theorem aV:∀(ts:List Ty) (l:List Int),YQ ts=true->Ga ts l<+:L->Gj N (TN ρ ts) (l.map ρ)=(Cr (λi=>var (pos L i)) ts,(Ga ts l).map ρ)
 | [],l,_,_=>rfl
 | t::ts,l,h,hp=>by
  simp only[YQ,AG] at h;have _h:=hL;have _h:=hinj;have _h:=hN;have h1:=kO t l h.1 ((Kl ts _).trans hp);rw[TN,Cr,Gj,h1];simp only;rw[show Cr (λi=>ph (ρ i)) ts=TN ρ ts from rfl,aV ts (occs t l) h.2 hp];rfl
end
end
section
variable {N:Nat} {ρ:Int->Nat} {L:List Int} (hL:L.Nodup) (hinj:∀i∈L,∀j∈L,ρ i=ρ j->i=j) (hN:∀i∈L,ρ i<N)
include hL hinj hN
mutual
theorem vJ:∀(b:Ty) (l:List Int),bd b=true->occs b l<+:L->LP N (tr ρ b) (l.map ρ)=(CH (λi=>var (pos L i)) b,(occs b l).map ρ)
 | .mk k n i ts,l,h,hp=>by
  cases b3:(k==3) with
  | true=>
   have h3:k=3:=by grind
   subst h3;rw[bd] at h;rw[occs] at hp ⊢;have:=kP ts l (by grind) (by grind)
   grind[CH,LP]
  | false=>
   grind[pl,bd,kO]
theorem kP:∀(ts:List Ty) (l:List Int),M6 ts=true->Ga ts l<+:L->Gj N (TN ρ ts) (l.map ρ)=(Cr (λi=>var (pos L i)) ts,(Ga ts l).map ρ)
 | [],l,_,_=>rfl
 | t::ts,l,h,hp=>by
  simp only[M6,AG] at h;have _h:=hL;have _h:=hinj;have _h:=hN;have h1:=vJ t l h.1 ((Kl ts _).trans hp);rw[TN,Cr,Gj,h1];simp only;rw[show Cr (λi=>ph (ρ i)) ts=TN ρ ts from rfl,kP ts (occs t l) h.2 hp];rfl
end
end
mutual
theorem aW:∀t:Ty,bd t=true->CH (λi=>var i) t=t
 | .mk k n i ts,h=>by
  rw[CH];rw[bd] at h;cases b5:(k==5) with
  | true=>
   grind
  | false=>
   rw[b5] at h;cases b2:(k==2) with
   | true=>
    rw[b2] at h;simp only[AH,AN,Hv] at h ⊢;rw[QF ts h]
   | false=>
    rw[b2] at h;cases b3:(k==3) with
    | true=>
     rw[b3] at h;simp only[AH,AN,HB] at h ⊢;rw[WA ts h]
    | false=>simp
theorem WA:∀l:List Ty,M6 l=true->Cr (λi=>var i) l=l
 | [],_=>rfl
 | t::l,h=>by
  simp only[M6,AG] at h;rw[Cr,aW t h.1,WA l h.2]
theorem vK:∀t:Ty,pl t=true->CH (λi=>var i) t=t
 | .mk k n i ts,h=>by
  rw[CH];rw[pl] at h;cases b5:(k==5) with
  | true=>
   grind
  | false=>
   rw[b5] at h;cases b2:(k==2) with
   | true=>
    rw[b2] at h;simp only[AH,AN,Hv] at h ⊢;rw[QF ts h]
   | false=>
    rw[b2] at h;have hc:Vw (.mk k n i ts)=true:=by grind
    have e:=Mk (.mk k n i ts) (λi=>var i) hc
    grind[CH]
theorem QF:∀l:List Ty,YQ l=true->Cr (λi=>var i) l=l
 | [],_=>rfl
 | t::l,h=>by
  simp only[YQ,AG] at h;rw[Cr,vK t h.1,QF l h.2]
end
theorem kQ (n m:Int) (g:Int->Int) (t:Ty):Kg n m (CH (λi=>var (g i)) t)=CH (λi=>var (bif g i==n then m else g i)) t:=by
 rw[Nl,Hi]
theorem aX {l:List Int}:∀(f j:Nat) (g:Int->Int) (t:Ty),∃g':Int->Int,TV l f j (CH (λi=>var (g i)) t)=CH (λi=>var (g' i)) t /\
  ∀i,(∀q,l[q]?=some (g i)->q<f+j->j<=q->l.Nodup->(∀x∈l,x<hole)->q<l.length->f+j<=l.length->g' i=hole+1+q)/\((∀q,j<=q->q<f+j->l.getD q 0≠g i)->g' i=g i)
 | 0,j,g,t=>⟨g,rfl,λi=>⟨λq _ h1 h2=>by omega,λ_=>rfl⟩⟩
 | f+1,j,g,t=>by
  rw[TV,kQ];obtain⟨g',h1,h2⟩:=aX (l:=l) f (j+1) (λi=>bif g i==l.getD j 0 then hole+1+j else g i) t;refine⟨g',h1,λi=>⟨λq hq q1 q2 hn hh ql hf=>?_,λhno=>?_⟩⟩
  all_goals grind[List.getElem_mem,List.getElem?_inj]
theorem aY:∀(f j:Nat) (g:Int->Int) (t:Ty),∃g':Int->Int,TW f j (CH (λi=>var (g i)) t)=CH (λi=>var (g' i)) t /\
  ∀i,(∀q:Nat,g i=hole+1+q->j<=q->q<f+j->(f+j:Nat)<hole->g' i=q)/\(g i<hole->g' i=g i)
 | 0,j,g,t=>⟨g,rfl,λi=>⟨λq _ h1 h2=>by omega,λ_=>rfl⟩⟩
 | f+1,j,g,t=>by
  rw[TW,kQ];obtain⟨g',h1,h2⟩:=aY f (j+1) (λi=>bif g i==hole+1+j then j else g i) t;refine⟨g',h1,λi=>⟨λq hq q1 q2 hf=>?_,λhlt=>?_⟩⟩
  all_goals grind
theorem AKB {b:Ty} (hb:bd b=true) (hv:∀i∈vis b,0<=i/\i<hole) (hl:Cj (occs b []).length):TW (occs b []).length 0 (TV (occs b []) (occs b []).length 0 b)=CH (λi=>var (pos (occs b []) i)) b:=by
 have hn:=LQ b [] HC
 have hm:∀i∈occs b [],i<hole:=λi hi=>by
  rcases MH b [] i hi with h|h
  all_goals grind
 have e0:b=CH (λi=>var i) b:=(aW b hb).symm;obtain⟨g1,h1,h2⟩:=aX (l:=occs b []) (occs b []).length 0 (λi=>i) b;obtain⟨g2,h3,h4⟩:=aY (occs b []).length 0 g1 b
 have e1:TV (occs b []) (occs b []).length 0 b=CH (λi=>var (g1 i)) b:=by
  rw[<-h1,<-e0]
 rw[e1,h3];refine EX _ λi hi=>?_
 have hmem:=TY b [] i hi;obtain⟨q,hq⟩:=List.getElem?_of_mem hmem;have hql:=(BL.1 hq).1;have:=(h2 i).1 q hq (by omega) (by omega) hn hm hql (by omega);have:=(h4 i).1 q this (by omega) (by omega) hl
 grind[YV]
theorem vL {B:List Ty} {lo hi:Nat} {b:Br} {p:Ty} {φ:List Nat} (H:Rl false 0 B lo hi [] b p φ) (hB:hi<=B.length) (hl:Cj (occs b.body []).length):KG B p=FQ b:=by
 have hv:∀i∈vis b.body,0<=i/\i<φ.length:=by
  intro i hi;rcases H.vis i hi with h|h|h
  all_goals grind
 have hn:=LQ b.body [] HC
 have hmem:∀i∈occs b.body [],0<=i/\i<φ.length:=λi hi=>by
  rcases MH b.body [] i hi with h|h
  all_goals grind
 have hs:=H.small;have Kc:∀i∈occs b.body [],∃x,φ[i.toNat]?=some x/\x∈φ/\Ow φ [] 0 i=x:=λi hi=>Iv (hmem i hi).1 (hmem i hi).2 (by omega)
 have key:=vJ (N:=B.length) (ρ:=Ow φ [] 0) (L:=occs b.body []) hn (by
  intro i hi j hj he;obtain⟨x,hx,_,ex⟩:=Kc i hi;obtain⟨y,hy,_,ey⟩:=Kc j hj;rw[ex,ey] at he;subst he;have h1:=hmem i hi;have h2:=hmem j hj;have:=(List.getElem?_inj (by omega) H.nd).1 (hx.trans hy.symm);omega) (by
  intro i hi;obtain⟨x,hx,hm,ex⟩:=Kc i hi;rw[ex];have:=H.N9 x hm;omega) b.body [] H.bd (DE _)
 simp only[Cs] at key;rw[<-H.eq] at key;have e2:=AKB H.bd (λi hi=>by grind) hl;unfold KG FQ;rw[key,e2];simp only[XT];congr 1;refine List.map_congr_left λi hi=>?_
 obtain⟨x,hx,_,ex⟩:=Kc i hi;simp only[Function.comp_apply];rw[ex,Xb,Xb,H.Kj _ _ hx]
mutual
def Eu (q:Int->Bool):Ty->Bool
 | .mk k n i ts=>bif k==7 then ts.isEmpty&&q i else !(n.head?==some 36)&&(decide (n.length<2 ^ 40)&&D2 q ts)
def D2 (q:Int->Bool):List Ty->Bool
 | []=>true
 | t::l=>Eu q t&&D2 q l
end
mutual
theorem GI {q q':Int->Bool} (h:∀i,q i=true->q' i=true):∀t:Ty,Eu q t=true->Eu q' t=true
 | .mk k n i ts,ht=>by
  rw[Eu] at ht ⊢;cases h7:k==7 with
  | true=>
   grind
  | false=>
   rw[h7] at ht;simp only[AH,AG] at ht ⊢;exact⟨ht.1,ht.2.1,TZ h ts ht.2.2⟩
theorem TZ {q q':Int->Bool} (h:∀i,q i=true->q' i=true):∀l:List Ty,D2 q l=true->D2 q' l=true
 | [],_=>rfl
 | t::l,ht=>by
  simp only[D2,AG] at ht ⊢;exact⟨GI h t ht.1,TZ h l ht.2⟩
end
theorem WB {q:Int->Bool}:∀{l:List Ty} {t:Ty},D2 q l=true->t∈l->Eu q t=true
 | [],_,_,h=>by cases h
 | a::l,t,h,ht=>by
  simp only[D2,AG] at h;rcases A6.1 ht with rfl|ht
  .grind
  .exact WB h.2 ht
theorem Oy {q:Int->Bool}:∀(l m:List Ty),D2 q (l++m)=(D2 q l&&D2 q m)
 | [],m=>by rfl
 | t::l,m=>by simp[D2,Oy l m,Rn]
mutual
theorem aZ {q:Int->Bool} {v:Nat} (hv:q v=true):∀(t:Ty) (u:Nat),Eu q t=true->Eu q (sub v u t)=true
 | .mk k n i ts,u,h=>by
  rw[Eu] at h;rw[sub];cases h5:k==5 with
  | true=>
   grind[Eu]
  | false=>
   simp only[AH];rw[Eu];cases h7:k==7 with
   | true=>
    rw[h7] at h;simp only[AN,AG,Jk] at h ⊢;rw[h.1];exact⟨rfl,h.2⟩
   | false=>
    rw[h7] at h;simp only[AH,AG] at h ⊢;exact⟨h.1,h.2.1,WC hv ts u k 0 h.2.2⟩
theorem WC {q:Int->Bool} {v:Nat} (hv:q v=true):∀(l:List Ty) (u:Nat) (k:Int) (j:Nat),D2 q l=true->D2 q (KE v u k j l)=true
 | [],_,_,_,_=>rfl
 | t::l,u,k,j,h=>by
  simp only[D2,AG] at h;simp only[KE,D2,AG];exact⟨aZ hv t _ h.1,WC hv l u k (j+1) h.2⟩
end
mutual
theorem Ta {q m:Int->Bool} {b:Ty} (hb:Eu q b=true):∀(t:Ty) (k:Nat),Eu q t=true->Eu q (KF m b t k)=true
 | .mk c n i ts,k,h=>by
  have h':=h;rw[Eu] at h;rw[KF];cases h7:c==7 with
  | true=>
   grind
  | false=>
   rw[h7] at h;simp only[AH,AG] at h ⊢;cases c==3 with
   | true=>
    rw[AN,Eu,h7];simp only[AH,AG];exact⟨h.1,h.2.1,WD hb ts k h.2.2⟩
   | false=>grind
theorem WD {q m:Int->Bool} {b:Ty} (hb:Eu q b=true):∀(l:List Ty) (k:Nat),D2 q l=true->D2 q (Jg m b l k)=true
 | [],_,_=>rfl
 | t::l,k,h=>by
  simp only[D2,AG] at h;rw[Jg];cases decide (k<BU m t) with
  | true=>
   simp only[AN,D2,AG];exact⟨Ta hb t k h.1,h.2⟩
  | false=>
   simp only[AH,D2,AG];exact⟨h.1,WD hb l _ h.2⟩
end
mutual
theorem R7 {m:Int->Bool} {b:Ty}:∀(t:Ty) (k:Nat),k<BU m t->BU m (KF m b t k)+1=BU m t+BU m b/\size (KF m b t k)<=size t+size b
 | .mk c n i ts,k,h=>by
  rw[BU] at h;rw[KF];cases h7:c==7 with
  | true=>
   grind[BU]
  | false=>
   rw[h7] at h;simp only[AH] at h ⊢;cases h3:c==3 with
   | false=>grind
   | true=>
    rw[h3] at h;simp only[AN] at h ⊢;have:=bA (m:=m) (b:=b) ts k h
    grind[BU,size]
theorem bA {m:Int->Bool} {b:Ty}:∀(l:List Ty) (k:Nat),k<CX m l->CX m (Jg m b l k)+1=CX m l+BU m b/\AY (Jg m b l k)<=AY l+size b
 | [],k,h=>by grind[CX]
 | t::l,k,h=>by
  rw[CX] at h;rw[Jg]
  by_cases hk:k<BU m t
  .have:=R7 (m:=m) (b:=b) t k hk
   grind[CX,AY]
  .have:=bA (m:=m) (b:=b) l (k-BU m t) (by omega)
   grind[CX,AY]
end
mutual
theorem vM {m:Int->Bool} {b:Ty}:∀(t:Ty) (k:Nat),BU m t<=k->KF m b t k=t
 | .mk c n i ts,k,h=>by
  rw[BU] at h;rw[KF];cases h7:c==7 with
  | true=>
   grind
  | false=>
   rw[h7] at h;simp only[AH] at h ⊢;cases h3:c==3 with
   | false=>rfl
   | true=>
    rw[h3] at h;simp only[AN] at h ⊢;rw[WE ts k h]
theorem WE {m:Int->Bool} {b:Ty}:∀(l:List Ty) (k:Nat),CX m l<=k->Jg m b l k=l
 | [],_,_=>rfl
 | t::l,k,h=>by
  rw[CX] at h;rw[Jg,Aw (by omega),AH,WE (m:=m) (b:=b) l (k-BU m t) (by omega)]
end
mutual
theorem Oz {q:Int->Bool} {v:Nat} (hv:q v=false):∀(t:Ty) (inv:Bool),Eu q t=true->DY v inv t=false/\BU (·==(v:Int)) t=0
 | .mk k n i ts,inv,h=>by
  rw[Eu] at h;rw[DY,BU];cases h7:k==7 with
  | true=>
   grind
  | false=>
   rw[h7] at h;simp only[AH,AG] at h ⊢;have:=WG hv ts (inv&&!(k==2)) h.2.2
   grind
theorem WG {q:Int->Bool} {v:Nat} (hv:q v=false):∀(l:List Ty) (inv:Bool),D2 q l=true->Fu v inv l=false/\CX (·==(v:Int)) l=0
 | [],_,_=>⟨rfl,rfl⟩
 | t::l,inv,h=>by
  simp only[D2,AG] at h;have h1:=Oz hv t inv h.1;have h2:=WG hv l inv h.2
  grind[Fu,CX]
end
section
variable {BD:Nat->Bool}
theorem IC {α:Type} {g:α->List Ty->Fv} (hg:∀a B,B.length<=(g a B).2.length):∀(l:List α) (out B:List Ty),B.length<=(Ca BD g l out B).2.length
 | [],_,_=>Ac _
 | a::l,out,B=>by
  have h:=hg a B;rw[Ca];rcases hr:g a B with ⟨_|r,B1⟩
  .grind
  .rw[hr] at h
   simp only at h ⊢;cases BD (out++r).length with
   | true=>exact h
   | false=>exact CN h (IC hg l (out++r) B1)
theorem JQ {α:Type} {g:α->List Ty->Fv} (hm:∀a B,B.length<=(g a B).2.length) {P:Ty->Prop} {lo M:Nat}:∀(l:List α) (out B:List Ty) (r:List Ty),(∀a∈l,∀B r,lo<=B.length->(g a B).1=some r->(g a B).2.length<=M->∀p∈r,P p) ->
  lo<=B.length->(Ca BD g l out B).1=some r->(Ca BD g l out B).2.length<=M->(∀p∈out,P p)->∀p∈r,P p
 | [],out,B,r,_,_,h,_,ho=>by grind[Ca]
 | a::l,out,B,r,hg,hlo,h,hM,ho=>by
  have h1:=hm a B;have h2:=hg a (by simp) B;rw[Ca] at h hM;rcases hr:g a B with ⟨_|s,B1⟩
  .grind
  .rw[hr] at h hM h1 h2
   simp only at h hM h1 h2;cases hb:BD (out++s).length with
   | true=>grind
   | false=>
    rw[hb] at h hM;simp only[AH] at h hM;have h3:=IC (BD:=BD) hm l (out++s) B1;refine JQ hm l (out++s) B1 r (λa ha=>hg a (by grind)) (by omega) h hM ?_
    grind
theorem Hl {ex:List Ty->Fv} (hx:∀B,B.length<=(ex B).2.length) (v:Nat):∀(f:Nat) (t:Ty) (B:List Ty),B.length<=(CI BD ex v f t B).2.length
 | 0,_,_=>Ac _
 | f+1,t,B=>by
  have h:=hx B;rw[CI];cases DY v false t with
  | false=>simp
  | true=>
   rcases hr:ex B with ⟨_|r,B1⟩
   .grind
   .rw[hr] at h
    exact CN h (IC (λc B=>Hl hx v f _ B) r [] B1)
theorem WH {ex:List Ty->Fv} (hx:∀B,B.length<=(ex B).2.length) {v lo M W S:Nat} {q:Int->Bool} (hr:∀B r,lo<=B.length->(ex B).1=some r->(ex B).2.length<=M->∀c∈r,Eu q c=true/\BU (·==(v:Int)) c=0/\size c<=W) :
  ∀(f:Nat) (t:Ty) (B r:List Ty),Eu q t=true->size t+BU (·==(v:Int)) t*W<=S->lo<=B.length->(CI BD ex v f t B).1=some r->(CI BD ex v f t B).2.length<=M->∀p∈r,Eu q p=true/\size p<=S
 | 0,t,B,r,ht,hS,_,h,_=>by grind[CI]
 | f+1,t,B,r,ht,hS,hlo,h,hM=>by
  have h1:=hx B;have h2:=hr B;rw[CI] at h hM;cases ho:DY v false t with
  | false=>
   grind
  | true=>
   rw[ho] at h hM;simp only[AN] at h hM;rcases he:ex B with ⟨_|cs,B1⟩
   .grind
   .rw[he] at h hM h1 h2
    simp only at h hM h1 h2;have h3:=IC (BD:=BD) (g:=λc B=>CI BD ex v f (KF (·==(v:Int)) c t 0) B) (λc B=>Hl hx v f _ B) cs [] B1;have h4:=h2 cs hlo rfl (by omega);refine JQ (λc B=>Hl hx v f _ B) (lo:=lo) cs [] B1 r ?_ (by omega) h hM (by simp);intro c hc B' r' ACh h' gH;obtain⟨c1,c2,c3⟩:=h4 c hc;refine WH hx hr f _ B' r' (Ta c1 t 0 ht) ?_ ACh h' gH
    by_cases hk:0<BU (·==(v:Int)) t
    .obtain⟨d1,d2⟩:=R7 (b:=c) t 0 hk
     have:BU (·==(v:Int)) t*W=BU (·==(v:Int)) (KF (·==(v:Int)) c t 0)*W+W:=by grind
     omega
    grind[vM]
end
def wx:List Nat->List Nat->Nat
 | [b,c],[_,d]=>c+max 1 d*b
 | _,_=>0
mutual
def wt:Ty->Nat
 | .mk k _ _ ts=>bif k==6 then wx (oa ts) (OA ts) else bif k==3||k==4 then 1+(oa ts).sum else 1+AY ts
def oa:List Ty->List Nat
 | []=>[]
 | t::l=>wt t::oa l
end
theorem AC4 {l m p:List Nat} (h:CV (·<=·) l m):wx l p<=wx m p:=by
 match l,m,h with
 | [],[],_=>simp
 | [_],[_],_=>exact Ac _
 | [b,c],[b',c'],h=>
  obtain⟨h1,h2,_⟩:=h
  match p with
  | []=>exact Ac _
  | [_]=>exact Ac _
  | [_,d]=>exact Nat.add_le_add h2 (Ei _ h1)
  | _::_::_::_=>exact Ac _
 | _::_::_::_,[_,_],h=>exact h.2.2.elim
 | [_,_],_::_::_::_,h=>exact h.2.2.elim
 | _::_::_::_,_::_::_::_,_=>
  match p with
  | []=>exact Ac _
  | [_]=>exact Ac _
  | [_,_]=>exact Ac _
  | _::_::_::_=>exact Ac _
mutual
theorem gI (v:Nat):∀(t:Ty) (u:Nat),cv (sub v u t)=cv t
 | .mk k n i ts,u=>by
  rw[sub];cases h5:k==5 with
  | true=>
   have:k=5:=by grind
   subst this;simp only[AN];cases i==(u:Int) with
   | true=>rfl
   | false=>cases decide ((u:Int)<i) <;> rfl
  | false=>simp only[AH,cv,YW v ts u k 0]
theorem YW (v:Nat):∀(l:List Ty) (u:Nat) (k:Int) (j:Nat),OA (KE v u k j l)=OA l
 | [],_,_,_=>rfl
 | t::l,u,k,j=>by rw[KE,OA,OA,gI v t _,YW v l u k (j+1)]
end
theorem bB:∀{l m:List Nat},CV (·<=·) l m->l.sum<=m.sum
 | [],[],_=>Ac _
 | a::l,b::m,h=>by
  have:=bB h.2;have:=h.1
  grind
mutual
theorem vN (v:Nat):∀(t:Ty) (u:Nat),size (sub v u t)<=size t
 | .mk k n i ts,u=>by
  rw[sub];cases k==5 with
  | true=>
   grind[size,AY]
  | false=>
   have:=QG v ts u k 0
   grind[size]
theorem QG (v:Nat):∀(l:List Ty) (u:Nat) (k:Int) (j:Nat),AY (KE v u k j l)<=AY l
 | [],_,_,_=>Ac _
 | t::l,u,k,j=>by
  have h1:=vN v t (u+Ec k j);have h2:=QG v l u k (j+1)
  grind[KE,AY]
end
mutual
theorem vO (v:Nat):∀(t:Ty) (u:Nat),wt (sub v u t)<=wt t
 | .mk k n i ts,u=>by
  rw[sub];cases h5:k==5 with
  | true=>
   grind[wt,AY]
  | false=>
   have h1:=QG v ts u k 0;have h2:=kR v ts u k 0;have h3:=AC4 (p:=OA ts) h2;have h4:=bB h2
   grind[wt,YW]
theorem kR (v:Nat):∀(l:List Ty) (u:Nat) (k:Int) (j:Nat),CV (·<=·) (oa (KE v u k j l)) (oa l)
 | [],_,_,_=>trivial
 | t::l,u,k,j=>⟨vO v t _,kR v l u k (j+1)⟩
end
mutual
theorem O0 (m:Int->Bool):∀t:Ty,BU m t<=size t
 | .mk c n i ts=>by
  have:=NM m ts
  grind[BU,size]
theorem NM (m:Int->Bool):∀l:List Ty,CX m l<=AY l
 | []=>Ac _
 | t::l=>by
  have h1:=O0 m t;have h2:=NM m l
  grind[CX,AY]
end
section
variable {BD:Nat->Bool}
theorem I3 {ex:List Ty->Fv} (hx:∀B,B.length<=(ex B).2.length) (v:Nat) (t:Ty) (B:List Ty):B.length<=(B5 BD ex v t B).2.length:=by grind[B5,Hl]
theorem O1 {ex:Ty->List Ty->Fv} (hx:∀t B,B.length<=(ex t B).2.length):∀(l out:List Ty) (ok:Bool) (B:List Ty),B.length<=(G4 ex l out ok B).2.length
 | [],_,_,_=>Ac _
 | t::l,out,ok,B=>by
  have h:=hx t B;rw[G4];rcases hr:ex t B with ⟨_|r,B1⟩
  .rw[hr] at h
   exact CN h (O1 hx l out false B1)
  .rw[hr] at h
   exact CN h (O1 hx l (out++r) ok B1)
theorem Tb {ex:Ty->List Ty->Fv} (hx:∀t B,B.length<=(ex t B).2.length):∀(l:List Ty) (out:List (List Ty)) (B:List Ty),B.length<=(Er ex l out B).2.length
 | [],_,_=>Ac _
 | t::l,out,B=>by
  have h:=hx t B;rw[Er];rcases hr:ex t B with ⟨_|r,B1⟩
  .grind
  .rw[hr] at h
   exact CN h (Tb hx l (out++[r]) B1)
theorem JR:∀(f:Nat) (t:Ty) (B:List Ty),B.length<=(BF BD f t B).2.length
 | 0,_,_=>Ac _
 | f+1,.mk k n i ts,B=>by
  have hf:=JR f;rw[BF];cases k==0||k==2||k==7 with
  | true=>simp
  | false=>
   simp only[AH];cases k==4 with
   | true=>
    grind[O1]
   | false=>
    simp only[AH];cases k==3 with
    | true=>
     grind[Tb]
    | false=>
     simp only[AH];cases k==6 with
     | false=>simp
     | true=>
      simp only[AN]
      match ts with
      | []=>exact Ac _
      | [_]=>exact Ac _
      | _::_::_::_=>exact Ac _
      | [b,body]=>
       grind[eD,IC,I3]
end
section
variable {BD:Nat->Bool}
def Pq (q:Int->Bool) (W:Nat) (p:Ty):Prop:=Eu q p=true/\size p<=W
theorem Pq.le {q:Int->Bool} {W V:Nat} {p:Ty} (h:Pq q W p) (hl:W<=V):Pq q V p:=⟨h.1,CN h.2 hl⟩
theorem MI {ex:Ty->List Ty->Fv} (hx:∀t B,B.length<=(ex t B).2.length) {P:Ty->Prop} {lo M:Nat}:∀(l out:List Ty) (ok:Bool) (B:List Ty),(∀t∈l,∀B r,lo<=B.length->(ex t B).1=some r->(ex t B).2.length<=M->∀p∈r,P p) ->
  lo<=B.length->(G4 ex l out ok B).2.length<=M->(∀p∈out,P p)->∀p∈(G4 ex l out ok B).1.1,P p
 | [],_,_,_,_,_,_,ho=>ho
 | t::l,out,ok,B,hg,hlo,hM,ho=>by
  have h1:=hx t B;have h2:=hg t (by simp) B;rw[G4] at hM ⊢;rcases hr:ex t B with ⟨_|s,B1⟩
  .rw[hr] at hM h1
   exact MI hx l out false B1 (λa ha=>hg a (by grind)) (by grind) hM ho
  .rw[hr] at hM h1 h2
   simp only at hM h1 h2 ⊢;have h3:=O1 hx l (out++s) ok B1;refine MI hx l (out++s) ok B1 (λa ha=>hg a (by grind)) (by omega) hM ?_
   grind
def Cho (P:Nat->Ty->Prop):List (List Ty)->List Nat->Prop:=CV λl w=>∀p∈l,P w p
theorem O2 {ex:Ty->List Ty->Fv} (hx:∀t B,B.length<=(ex t B).2.length) {P:Nat->Ty->Prop} {w:Ty->Nat} {lo M:Nat}:∀(l:List Ty) (out:List (List Ty)) (ws:List Nat) (B:List Ty) (r:List (List Ty)),(∀t∈l,∀B r,lo<=B.length->(ex t B).1=some r->(ex t B).2.length<=M->∀p∈r,P (w t) p) ->
  lo<=B.length->(Er ex l out B).1=some r->(Er ex l out B).2.length<=M->Cho P out ws->Cho P r (ws++l.map w)
 | [],out,ws,B,r,_,_,h,_,ho=>by grind[Er]
 | t::l,out,ws,B,r,hg,hlo,h,hM,ho=>by
  have h1:=hx t B;have h2:=hg t (by simp) B;rw[Er] at h hM;rcases hr:ex t B with ⟨_|s,B1⟩
  .grind
  .rw[hr] at h hM h1 h2
   simp only at h hM h1 h2;have h3:=Tb hx l (out++[s]) B1;have:=O2 hx (P:=P) (w:=w) (lo:=lo) (M:=M) l (out++[s]) (ws++[w t]) B1 r (λa ha=>hg a (by grind)) (by omega) h hM (ho.append ⟨h2 s hlo rfl (by omega),Ab⟩)
   grind
theorem WI {q:Int->Bool}:∀(ls:List (List Ty)) (ws:List Nat) (out r:List (List Ty)) (W:Nat),Cho (Pq q) ls ws->Dq BD ls out=some r->(∀p∈out,D2 q p=true/\AY p<=W)->∀p∈r,D2 q p=true/\AY p<=W+ws.sum
 | [],ws,out,r,W,hc,h,ho=>by grind[Dq]
 | l::ls,[],_,_,_,hc,_,_=>hc.elim
 | l::ls,w::ws,out,r,W,hc,h,ho=>by
  rw[Dq] at h;cases hb:BD (out.flatMap λp=>l.map λx=>p++[x]).length with
  | true=>grind
  | false=>
   rw[hb] at h;simp only[AH] at h;intro p hp
   have:=WI ls ws _ r (W+w) hc.2 h (by
    intro p hp;obtain⟨a,ha,hp⟩:=OL.1 hp;obtain⟨x,hx,rfl⟩:=C3.1 hp;have h1:=ho a ha;have h2:=hc.1 x hx;refine⟨?_,?_⟩
    .rw[Oy,h1.1]
     simp[D2,h2.1]
    .have:∀(l:List Ty) (x:Ty),AY (l++[x])=AY l+size x:=by
      intro l x
      induction l with
      | nil=>simp[AY]
      | cons y l ih=>grind[AY]
     rw[this];have:=h2.2;omega) p hp
   grind
end
mutual
theorem R8 {m p:Int->Bool} (h:∀i,m i=true->p i=true):∀t:Ty,BU m t<=BU p t
 | .mk c n i ts=>by
  have:=bC h ts
  grind[BU]
theorem bC {m p:Int->Bool} (h:∀i,m i=true->p i=true):∀l:List Ty,CX m l<=CX p l
 | []=>Ac _
 | t::l=>by
  have h1:=R8 h t;have h2:=bC h l
  grind[CX]
end
mutual
theorem bD {m q:Int->Bool} {b:Ty}:∀(t:Ty) (k:Nat),BU q (KF m b t k)<=BU q t+BU q b
 | .mk c n i ts,k=>by
  have ih:=WJ (m:=m) (q:=q) (b:=b) ts k
  grind[KF,BU]
theorem WJ {m q:Int->Bool} {b:Ty}:∀(l:List Ty) (k:Nat),CX q (Jg m b l k)<=CX q l+BU q b
 | [],_=>AI _
 | t::l,k=>by
  rw[Jg];cases decide (k<BU m t) with
  | true=>
   have:=bD (m:=m) (q:=q) (b:=b) t k
   grind[CX]
  | false=>
   have:=WJ (m:=m) (q:=q) (b:=b) l (k-BU m t)
   grind[CX]
end
theorem O3 (q:Int->Bool):∀(l m:List Ty),CX q (l++m)=CX q l+CX q m
 | [],m=>by simp[CX]
 | t::l,m=>by rw[Dx,CX,CX,O3 q l m]; omega
section
variable {BD:Nat->Bool}
abbrev cA:Ty->Nat:=BU λ_=>true
theorem bE {ex:List Ty->Fv} (hx:∀B,B.length<=(ex B).2.length) {v C:Nat} (hr:∀B r,(ex B).1=some r->∀c∈r,cA c<=C) :
  ∀(f:Nat) (t:Ty) (B r:List Ty),(CI BD ex v f t B).1=some r->∀p∈r,cA p<=cA t+f*C
 | 0,t,B,r,h=>by grind[CI]
 | f+1,t,B,r,h=>by
  have h2:=hr B;rw[CI] at h;cases ho:DY v false t with
  | false=>
   grind
  | true=>
   rw[ho] at h;simp only[AN] at h;rcases he:ex B with ⟨_|cs,B1⟩
   .grind
   .rw[he] at h h2
    simp only at h h2;refine JQ (λc B=>Hl hx v f _ B) (lo:=0) cs [] B1 r ?_ (AI _) h (Ac _) (by simp);intro c hc B' r' _ h' _ p hp;have h3:=bE hx hr f _ B' r' h' p hp
    grind[bD]
theorem QH {q:Int->Bool}:∀(ls:List (List Ty)) (ws:List Nat) (out r:List (List Ty)) (W:Nat),Cho (λw p=>BU q p<=w) ls ws->Dq BD ls out=some r->(∀p∈out,CX q p<=W)->∀p∈r,CX q p<=W+ws.sum
 | [],ws,out,r,W,hc,h,ho=>by grind[Dq]
 | l::ls,[],_,_,_,hc,_,_=>hc.elim
 | l::ls,w::ws,out,r,W,hc,h,ho=>by
  rw[Dq] at h;cases hb:BD (out.flatMap λp=>l.map λx=>p++[x]).length with
  | true=>grind
  | false=>
   rw[hb] at h;simp only[AH] at h;intro p hp
   have:=QH ls ws _ r (W+w) hc.2 h (by
    intro p hp;obtain⟨a,ha,hp⟩:=OL.1 hp;obtain⟨x,hx,rfl⟩:=C3.1 hp;have h1:=ho a ha;have h2:BU q x<=w:=hc.1 x hx
    grind[O3,CX]) p hp
   grind
theorem YX:∀(f:Nat) (t:Ty) (B r:List Ty),(BF BD f t B).1=some r->∀p∈r,cA p<=cv t
 | 0,_,_,_,h=>by cases h
 | f+1,.mk k n i ts,B,r,h=>by
  have hf:=λt B=>JR (BD:=BD) f t B
  have ih:=YX f;rw[BF] at h;cases h0:k==0||k==2||k==7 with
  | true=>
   grind[BU,cv]
  | false=>
   rw[h0] at h;simp only[AH] at h;cases h4:k==4 with
   | true=>
    have hk:k=4:=by grind
    subst hk;rw[h4] at h;simp only[AN] at h;have key:=MI hf (P:=λp=>cA p<=cv (.mk 4 n i ts)) (lo:=0) (M:=(G4 (BF BD f) ts [] true B).2.length) ts [] true B (λt hm B' r _ h _ p hp=>CN (ih t B' r h p hp) (by simp[*,cv,QE,D0,Eh])) (AI _) (Ac _) (by simp)
    grind
   | false=>
    rw[h4] at h;simp only[AH] at h;cases h3:k==3 with
    | true=>
     have hk:k=3:=by grind
     subst hk;rw[h3] at h;simp only[AN] at h;have key:=λr h=>O2 hf (P:=λw p=>cA p<=w) (w:=cv) (lo:=0) (M:=(Er (BF BD f) ts [] B).2.length) ts [] [] B r (λt _ B' r _ h _ p hp=>ih t B' r h p hp) (AI _) h (Ac _) Ab
     rcases hs:Er (BF BD f) ts [] B with ⟨_|ls,B1⟩
     .grind
     .rw[hs] at h key
      simp only at h key;cases he:ls.any List.isEmpty with
      | true=>
       grind
      | false=>
       rw[he] at h;simp only[AH] at h;cases hc:Dq BD ls [[]] with
       | none=>grind
       | some all=>
        rw[hc] at h;simp only at h;cases hb:BD all.length with
        | true=>grind
        | false=>
         rw[hb] at h;cases h;intro p hp;obtain⟨a,ha,rfl⟩:=C3.1 hp;have h5:=QH (q:=λ_=>true) ls _ _ all 0 (key ls rfl) hc (by simp[CX]) a ha
         grind[BU,cv,QE]
    | false=>
     rw[h3] at h;simp only[AH] at h;cases h6:k==6 with
     | false=>
      grind
     | true=>
      have hk:k=6:=by grind
      subst hk;rw[h6] at h;simp only[AN] at h
      match ts with
      | []=>cases h; simp
      | [_]=>cases h; simp
      | _::_::_::_=>cases h; simp
      | [b,body]=>
       simp only[eD] at h;rcases hs:BF BD f (sub B.length 0 body) (B++[b]) with ⟨_|l,B1⟩
       .grind
       .rw[hs] at h
        have kS:=ih (sub B.length 0 body) (B++[b]) l (by rw[hs]);rw[gI] at kS;have key:=λr h1 h=>JQ (BD:=BD) (g:=B5 BD (BF BD f b) B.length) (λa B=>I3 (hf b) _ a B) (P:=λp=>cA p<=cv (.mk 6 n i [b,body])) (lo:=0) (M:=(Ca BD (B5 BD (BF BD f b) B.length) l [] B1).2.length) l [] B1 r h1 (AI _) h (Ac _) (by simp)
        simp only at h;rcases hc:Ca BD (B5 BD (BF BD f b) B.length) l [] B1 with ⟨_|o,B2⟩
        .grind
        .rw[hc] at h key
         simp only at h key;cases hb:BD o.length with
         | true=>grind
         | false=>
          rw[hb] at h;cases h;refine key r (λa ha B' r' _ h' _ p hp=>?_) rfl;have e:cv (.mk 6 n i [b,body])=cv body*(cv b+1):=rfl;have ha1:=kS a ha;rw[e,Ro];rw[B5] at h';cases ho:DY B.length true a with
          | true=>
           grind
          | false=>
           rw[ho] at h';simp only[AH] at h';have h7:=bE (BD:=BD) (hf b) (C:=cv b) (λB r h=>ih b B r h) _ a B' r' h' p hp;have h8:BU (·==(B.length:Int)) a<=cA a:=R8 (λ_ _=>rfl) a;have h9:BU (·==(B.length:Int)) a*cv b<=cv body*cv b:=CO _ (by omega);omega
end
section
variable {BD:Nat->Bool}
theorem IU:∀l:List Ty,oa l=l.map wt
 | []=>rfl
 | t::l=>by rw[oa,IU l]; rfl
theorem bF {k i:Int} {n:List UInt8} {ts:List Ty} (h:(k==0||k==2||k==7)=true):wt (.mk k n i ts)=size (.mk k n i ts):=by grind[wt,size]
theorem JS:∀(f:Nat) (t:Ty) (B:List Ty) (M:Nat) (q:Int->Bool) (r:List Ty),(∀i:Int,(B.length:Int)<=i->i<M->q i=true)->Eu (λi=>q i&&decide (i<B.length)) t=true ->
  (BF BD f t B).1=some r->(BF BD f t B).2.length<=M->∀p∈r,Pq q (wt t) p
 | 0,_,_,_,_,_,_,_,h,_=>by cases h
 | f+1,.mk k n i ts,B,M,q,r,hq,ht,h,hM=>by
  have hf:=λt B=>JR (BD:=BD) f t B
  have ih:=JS f;have htq:Eu q (.mk k n i ts)=true:=GI (λi hi=>by grind) _ ht;rw[BF] at h hM;cases h0:k==0||k==2||k==7 with
  | true=>
   rw[h0] at h;simp only[AN] at h;cases hb:BD 1 with
   | true=>grind
   | false=>
    rw[hb] at h;cases h;intro p hp;rw[E5.1 hp];exact⟨htq,by grind[bF]⟩
  | false=>
   rw[h0] at h hM;simp only[AH] at h hM;have h7:(k==7)=false:=by grind
   rw[Eu,h7] at ht;simp only[AH,AG] at ht
   have part:∀t∈ts,∀(B' r:List Ty),B.length<=B'.length->(BF BD f t B').1=some r->(BF BD f t B').2.length<=M->∀p∈r,Pq q (wt t) p:=by
    intro t hm B' r hl h hM;refine ih t B' M q r (λi h1 h2=>hq i (by omega) h2) (GI (λi hi=>?_) _ (WB ht.2.2 hm)) h hM
    grind
   have wle:∀t∈ts,wt t<=(oa ts).sum:=by
    intro t hm;rw[IU];exact D0 (C3.2 ⟨t,hm,rfl⟩)
   cases h4:k==4 with
   | true=>
    have hk:k=4:=by grind
    subst hk;rw[h4] at h hM;simp only[AN] at h hM;have key:=MI hf (P:=Pq q (wt (.mk 4 n i ts))) (lo:=B.length) (M:=M) ts [] true B (λt hm B' r hl h hM p hp=>(part t hm B' r hl h hM p hp).le (by grind[wt])) (Ac _)
    grind
   | false=>
    rw[h4] at h hM;simp only[AH] at h hM;cases h3:k==3 with
    | true=>
     have hk:k=3:=by grind
     subst hk;rw[h3] at h hM;simp only[AN] at h hM;have key:=λr=>O2 hf (P:=Pq q) (w:=wt) (lo:=B.length) (M:=M) ts [] [] B r part (Ac _)
     rcases hs:Er (BF BD f) ts [] B with ⟨_|ls,B1⟩
     .grind
     .rw[hs] at h hM key
      simp only at h hM key;cases he:ls.any List.isEmpty with
      | true=>
       grind
      | false=>
       rw[he] at h hM;simp only[AH] at h hM;cases hc:Dq BD ls [[]] with
       | none=>grind
       | some all=>
        rw[hc] at h hM;simp only at h hM;cases hb:BD all.length with
        | true=>grind
        | false=>
         rw[hb] at h;cases h;intro p hp;obtain⟨a,ha,rfl⟩:=C3.1 hp;have h5:=WI (q:=q) ls _ _ all 0 (key ls rfl hM Ab) hc (by simp[D2,AY]) a ha;refine⟨by grind[Eu],?_⟩
         grind[wt,IU,size]
    | false=>
     rw[h3] at h hM;simp only[AH] at h hM;cases h6:k==6 with
     | false=>
      grind
     | true=>
      have hk:k=6:=by grind
      subst hk;rw[h6] at h hM;simp only[AN] at h hM
      match ts,part,ht with
      | [],_,_=>cases h; simp
      | [_],_,_=>cases h; simp
      | _::_::_::_,_,_=>cases h; simp
      | [b,body],part,ht=>
       simp only[eD] at h hM;have h1:=hf (sub B.length 0 body) (B++[b]);simp only[D2,AG] at ht;rcases hs:BF BD f (sub B.length 0 body) (B++[b]) with ⟨_|l,B1⟩
       .grind
       .rw[hs] at h hM h1
        have h2:=IC (BD:=BD) (g:=B5 BD (BF BD f b) B.length) (λa B=>I3 (hf b) _ a B) l [] B1;have key:=λP r Zn=>JQ (BD:=BD) (g:=B5 BD (BF BD f b) B.length) (λa B=>I3 (hf b) _ a B) (P:=P) (lo:=B.length+1) (M:=M) l [] B1 r Zn
        simp only[CD,CT,CJ,CP] at h1 h hM;rcases hc:Ca BD (B5 BD (BF BD f b) B.length) l [] B1 with ⟨_|o,B2⟩
        .grind
        .rw[hc] at h hM h2 key
         simp only at h hM h2 key;cases hb:BD o.length with
         | true=>grind
         | false=>
          rw[hb] at h;cases h;have kS:=ih (sub B.length 0 body) (B++[b]) M q l (λi h1 h2=>hq i (by grind) h2) (aZ (by grind) body 0 (GI (λi hi=>by grind) _ ht.2.2.2.1)) (by rw[hs]) (by grind);have hwb:=vO B.length body 0;refine key (Pq q (wt (.mk 6 n i [b,body]))) r ?_ (by omega) rfl hM (by simp);intro a ha B' r' hlo h' gH;obtain⟨ta,sa⟩:=kS a ha;have hsa:=CN sa hwb;have hwt:wt (.mk 6 n i [b,body])=wt body+max 1 (cv body)*wt b:=rfl;have hca:=YX f (sub B.length 0 body) (B++[b]) l (by rw[hs]) a ha;rw[gI] at hca;rw[B5] at h' gH;rw[hwt];cases ho:DY B.length true a with
          | true=>
           rw[ho] at h';cases h';intro p hp;rw[E5.1 hp];exact⟨ta,by omega⟩
          | false=>
           rw[ho] at h' gH;simp only[AH] at h' gH;have hcs:BU (·==(B.length:Int)) a<=cA a:=R8 (λ_ _=>rfl) a;refine WH (BD:=BD) (hf b) (lo:=B.length+1) (M:=M) (W:=wt b) (q:=q) ?_ _ a B' r' ta ?_ hlo h' gH
           .intro B3 r3 hlo3 h3' hM3 c KZ
            have:=ih b B3 M (λi=>q i&&!(i==(B.length:Int))) r3 (λi h1 h2=>by grind) (GI (λi hi=>by grind) _ ht.2.2.1) h3' hM3 c KZ;refine⟨GI (λi hi=>by grind) _ this.1,(Oz (v:=B.length) (by simp) c false this.1).2,this.2⟩
           .have:BU (·==(B.length:Int)) a*wt b<=max 1 (cv body)*wt b:=CO _ (by omega)
            omega
end
section
variable {BD:Nat->Bool}
theorem JT {α:Type} {g:α->List Ty->Fv} (hg:∀a B,B<+:(g a B).2):∀(l:List α) (out B:List Ty),B<+:(Ca BD g l out B).2
 | [],_,_=>DE _
 | a::l,out,B=>by
  have h:=hg a B;rw[Ca];rcases hr:g a B with ⟨_|r,B1⟩
  .grind
  .rw[hr] at h
   simp only at h ⊢;cases BD (out++r).length with
   | true=>exact h
   | false=>exact h.trans (JT hg l (out++r) B1)
theorem Ho {ex:List Ty->Fv} (hx:∀B,B<+:(ex B).2) (v:Nat):∀(f:Nat) (t:Ty) (B:List Ty),B<+:(CI BD ex v f t B).2
 | 0,_,_=>DE _
 | f+1,t,B=>by
  have h:=hx B;rw[CI];cases DY v false t with
  | false=>simp
  | true=>
   rcases hr:ex B with ⟨_|r,B1⟩
   .grind
   .rw[hr] at h
    exact h.trans (JT (λc B=>Ho hx v f _ B) r [] B1)
theorem Mp {ex:List Ty->Fv} (hx:∀B,B<+:(ex B).2) (v:Nat) (t:Ty) (B:List Ty):B<+:(B5 BD ex v t B).2:=by grind[B5,Ho]
theorem O4 {ex:Ty->List Ty->Fv} (hx:∀t B,B<+:(ex t B).2):∀(l out:List Ty) (ok:Bool) (B:List Ty),B<+:(G4 ex l out ok B).2
 | [],_,_,_=>DE _
 | t::l,out,ok,B=>by
  have h:=hx t B;rw[G4];rcases hr:ex t B with ⟨_|r,B1⟩
  .rw[hr] at h
   exact h.trans (O4 hx l out false B1)
  .rw[hr] at h
   exact h.trans (O4 hx l (out++r) ok B1)
theorem Tc {ex:Ty->List Ty->Fv} (hx:∀t B,B<+:(ex t B).2):∀(l:List Ty) (out:List (List Ty)) (B:List Ty),B<+:(Er ex l out B).2
 | [],_,_=>DE _
 | t::l,out,B=>by
  have h:=hx t B;rw[Er];rcases hr:ex t B with ⟨_|r,B1⟩
  .grind
  .rw[hr] at h
   exact h.trans (Tc hx l (out++[r]) B1)
theorem HJ:∀(f:Nat) (t:Ty) (B:List Ty),B<+:(BF BD f t B).2
 | 0,_,_=>DE _
 | f+1,.mk k n i ts,B=>by
  have hf:=HJ f;rw[BF];cases k==0||k==2||k==7 with
  | true=>simp
  | false=>
   simp only[AH];cases k==4 with
   | true=>
    grind[O4]
   | false=>
    simp only[AH];cases k==3 with
    | true=>
     grind[Tc]
    | false=>
     simp only[AH];cases k==6 with
     | false=>simp
     | true=>
      simp only[AN]
      match ts with
      | []=>exact DE _
      | [_]=>exact DE _
      | _::_::_::_=>exact DE _
      | [b,body]=>
       grind[eD,List.prefix_append,JT,Mp]
theorem Km (h0:BD 0=false):∀(f:Nat) (t:Ty) (B r:List Ty),(BF BD f t B).1=some r->BD r.length=false
 | 0,_,_,_,h=>by cases h
 | f+1,.mk k n i ts,B,r,h=>by
  rw[BF] at h;cases Ze:k==0||k==2||k==7 with
  | true=>
   grind
  | false=>
   rw[Ze] at h;simp only[AH] at h;cases vQ:k==4 with
   | true=>
    grind
   | false=>
    rw[vQ] at h;simp only[AH] at h;cases R2:k==3 with
    | true=>
     rw[R2] at h;simp only[AN] at h;rcases hs:Er (BF BD f) ts [] B with ⟨_|ls,B1⟩
     .grind
     .rw[hs] at h
      simp only at h;cases he:ls.any List.isEmpty with
      | true=>grind
      | false=>
       rw[he] at h;simp only[AH] at h;cases hc:Dq BD ls [[]] with
       | none=>grind
       | some all=>
        rw[hc] at h;simp only at h;cases hb:BD all.length with
        | true=>grind
        | false=>grind
    | false=>
     rw[R2] at h;simp only[AH] at h;cases j5:k==6 with
     | false=>
      grind
     | true=>
      rw[j5] at h;simp only[AN] at h
      match ts with
      | []=>cases h; omega
      | [_]=>cases h; omega
      | _::_::_::_=>cases h; omega
      | [b,body]=>
       grind[eD]
end
end Go.Proofs.YtpgfpakdnijngaaGreatDoor
