/-
  Branches: the program's and the reference's are alike: bounds that are put in, eliminated variables.
-/
import Derived.Test.YtpgfpakdnijngaaGreatDoorTA
set_option linter.all false
namespace Go.Proofs.YtpgfpakdnijngaaGreatDoor
open Go.Tel
def CT {α β:Type} (R:α->β->Prop):List α->List β->Prop
 | [],[]=>True
 | a::l,b::m=>R a b/\CT R l m
 | _,_=>False
section
variable {α β:Type}
theorem CT.mono {R S:α->β->Prop} (h:∀a b,R a b->S a b):∀{l:List α} {m:List β},CT R l m->CT S l m
 | [],[],_=>trivial
 | _::_,_::_,⟨h1,h2⟩=>⟨h _ _ h1,h2.mono h⟩
 | [],_::_,h=>h.elim
 | _::_,[],h=>h.elim
theorem CT.length {R:α->β->Prop}:∀{l:List α} {m:List β},CT R l m->l.length=m.length
 | [],[],_=>rfl
 | _::_,_::_,⟨_,h⟩=>by simp[h.length]
 | [],_::_,h=>h.elim
 | _::_,[],h=>h.elim
theorem CT.append {R:α->β->Prop}:∀{l l':List α} {m m':List β},CT R l m->CT R l' m'->CT R (l++l') (m++m')
 | [],_,[],_,_,h=>h
 | _::_,_,_::_,_,⟨h1,h2⟩,h=>⟨h1,h2.append h⟩
 | [],_,_::_,_,h,_=>h.elim
 | _::_,_,[],_,h,_=>h.elim
end
def LS {α:Type} (Q:List Ty->α->Ty->Prop) (B:List Ty):Option (List α)->Fm->Prop
 | none,(none,B')=>B<+:B'
 | some r,(some ps,B')=>B<+:B'/\CT (Q B') r ps
 | _,_=>False
theorem EH {A B C:List Ty} (h:A<+:B) (h':B<+:C):A<+:C:=h.trans h'
theorem Ma {A B:List Ty} (h:A<+:B) {i:Nat} {t:Ty} (hi:A[i]?=some t):B[i]?=some t:=by
 obtain⟨C,rfl⟩:=h
 grind
theorem GC {A B:List Ty} (h:A<+:B):A.length<=B.length:=h.length_le
section
variable (BA:Nat->Bool)
theorem fO {α β γ:Type} {Q:List Ty->γ->Ty->Prop} (hQ:∀B B' a b,B<+:B'->Q B a b->Q B' a b) {S:α->β->Prop} {g:α->Option (List γ)} {g':β->List Ty->Fm} {B0:List Ty}
  (hg:∀a b B,B0<+:B->S a b->LS Q B (g a) (g' b B)):∀(l:List α) (m:List β) (out:List γ) (out':List Ty) (B:List Ty),B0<+:B->CT S l m->CT (Q B) out out'->LS Q B (IP BA g l out) (CZ BA g' m out' B)
 | [],[],out,out',B,_,_,h=>⟨C8 _,h⟩
 | [],_::_,_,_,_,_,h,_=>h.elim
 | _::_,[],_,_,_,_,h,_=>h.elim
 | a::l,b::m,out,out',B,hB,⟨h1,h2⟩,h=>by
  have hs:=hg a b B hB h1;rw[IP,CZ];cases hr:g a with
  | none=>
   rw[hr] at hs;rcases hgb:g' b B with ⟨r',B'⟩
   rw[hgb] at hs;cases r' with
   | some _=>exact hs.elim
   | none=>omega
  | some r=>
   rw[hr] at hs;rcases hgb:g' b B with ⟨r',B'⟩
   rw[hgb] at hs;cases r' with
   | none=>exact hs.elim
   | some ps=>
    obtain⟨hp,ha⟩:=hs;have hall:CT (Q B') (out++r) (out'++ps):=(h.mono λa b=>hQ _ _ a b hp).append ha;have hl:(out++r).length=(out'++ps).length:=hall.length
    show LS Q B (bif BA (out++r).length then none else _) (bif BA (out'++ps).length then(none,B') else _)
    rw[<-hl];cases BA (out++r).length with
    | true=>exact hp
    | false=>
     have:=fO hQ hg l m (out++r) (out'++ps) B' (EH hB hp) h2 hall;simp only[AG];revert this;cases IP BA g l (out++r) <;> obtain⟨r2,B2⟩:=CZ BA g' m (out'++ps) B' <;> cases r2 <;> intro this
     .exact EH hp this
     .exact this
     .exact this
     .exact⟨EH hp this.1,this.2⟩
end
def Oc (φ σ:List Nat) (v:Nat) (i:Int):Nat:=bif i==hole then v else bif decide (0<=i) then φ.getD i.toNat 0 else σ.getD (-1-i).toNat 0
theorem Ly {φ σ:List Nat} {v:Nat}:Oc φ σ v hole=v:=by rfl
theorem j6 {φ σ:List Nat} {v x:Nat} {i:Nat} (h:φ[i]?=some x) (hs:φ.length<hole):Oc φ σ v (i:Int)=x:=by grind[Oc]
theorem Hu {φ σ:List Nat} {v:Nat} {i:Int} (h:i<0):Oc φ σ v i=σ.getD (-1-i).toNat 0:=by
 have hne:(i==hole)=false:=by grind[hole]
 grind[Oc]
structure Rl (h:Bool) (v:Nat) (B:List Ty) (lo hi:Nat) (σ:List Nat) (b:Br) (p:Ty) (φ:List Nat):Prop where
 nd:φ.Nodup
 Nt:∀x∈φ,lo<=x/\x<hi
 len:b.bounds.length=φ.length
 KX:∀(i x:Nat),φ[i]?=some x->B[x]?=b.bounds[i]?
 small:φ.length<hole
 bd:bd b.body=true
 vis:∀i∈vis b.body,(0<=i/\i<φ.length)\/(i<0/\-i<=σ.length)\/(h=true/\i=hole)
 eq:p=tr (Oc φ σ v) b.body
theorem Rl.mono {h:Bool} {v:Nat} {B B':List Ty} {lo lo' hi hi':Nat} {σ:List Nat} {b:Br} {p:Ty} {φ:List Nat} (H:Rl h v B lo hi σ b p φ) (hB:B<+:B') (hb:hi<=B.length) (h1:lo'<=lo) (h2:hi<=hi'):Rl h v B' lo' hi' σ b p φ:=
 {H with
  Nt:=λx hx=>by have:=H.Nt x hx; omega
  KX:=λi x hx=>by
   have h3:=H.KX i x hx;have h4:=(H.Nt x (A2 hx)).2
   grind[Ma] }
theorem fP {φ:List Nat} {i:Int} (h0:0<=i) (h1:i<φ.length):∃x,φ[i.toNat]?=some x/\x∈φ:=by simp[*]
theorem Rl.ud {h:Bool} {v:Nat} {B:List Ty} {lo hi:Nat} {σ:List Nat} {b:Br} {p:Ty} {φ:List Nat} (H:Rl h v B lo hi σ b p φ) {w:Nat} (hw:w<lo\/hi<=w) (hσ:w∉σ) {i:Int} (hi:i∈Proofs.YtpgfpakdnijngaaGreatDoor.vis b.body) (hh:i≠hole):Oc φ σ v i≠w:=by
 rcases H.vis i hi with ⟨h0,h1⟩|⟨h0,h1⟩|⟨_,h1⟩
 .obtain⟨x,hx,hm⟩:=fP h0 h1
  have:=H.Nt x hm
  grind[Oc]
 .rw[Hu h0]
  obtain⟨x,hx⟩:∃x,σ[(-1-i).toNat]?=some x:=⟨_,Ak (by omega)⟩;simp only[List.getD,hx,Ic];rintro rfl;exact hσ (A2 hx)
 omega
theorem GD {l:List Int} {k:Nat} (h:l.findIdx? (·==hole)=some k):l[k]?=some hole/\∀i∈l.take k,i≠hole:=by grind[List.findIdx?_eq_some_iff_getElem,List.getElem_of_mem]
theorem Sx {l:List Int} {k:Nat} (h:l[k]?=some hole) (hn:∀i∈l.take k,i≠hole):l.count hole=(l.drop (k+1)).count hole+1/\(l.take k).count hole=0:=by grind[List.drop_eq_getElem_cons,List.take_append_drop]
theorem Od {φ ψ σ:List Nat} {v:Nat} {i:Int} (h:(0<=i/\i<φ.length)\/(i<0)\/i=hole) (hs:φ.length<hole):Oc (φ++ψ) σ v i=Oc φ σ v i:=by
 rcases h with ⟨h0,h1⟩|h|rfl
 .grind[Oc]
 all_goals grind[Hu,Ly]
theorem APG {B:List Ty} {lo hi:Nat} {c:Br} {q:Ty} {φ ψ σ:List Nat} {v w:Nat} (H:Rl false w B lo hi [] c q ψ) (hs:φ.length+ψ.length<hole):q=tr (Oc (φ++ψ) σ v) (H8 φ.length c.body) /\
  (∀i∈vis (H8 φ.length c.body),φ.length<=i/\i<φ.length+ψ.length)/\bd (H8 φ.length c.body)=true/\Ai (H8 φ.length c.body)=(Ai c.body).map λi=>bif decide (0<=i)&&!(i==hole) then i+φ.length else i:=by
 have hv:∀i∈vis c.body,0<=i/\i<ψ.length:=by
  intro i hi;rcases H.vis i hi with h|h|h
  all_goals grind
 have eg:H8 φ.length=CM λi=>var (bif decide (0<=i)&&!(i==hole) then i+φ.length else i):=by grind[H8]
 have hg:∀i∈vis c.body,(bif decide (0<=i)&&!(i==hole) then i+(φ.length:Int) else i)=i+φ.length:=by grind
 rw[eg];refine⟨?_,?_,Pk _ _ H.bd,EN _ _⟩
 .rw[H.eq,tr,tr,HZ]
  refine EW _ λi hi=>?_
  have hi':=hv i hi;rw[hg i hi];obtain⟨x,hx,_⟩:=fP hi'.1 hi'.2;have e1:Oc ψ [] w i=x:=by grind[j6]
  have e2:Oc (φ++ψ) σ v (i+φ.length)=x:=by
   have hx':(φ++ψ)[φ.length+i.toNat]?=some x:=by grind
   have:=j6 (σ:=σ) (v:=v) hx' (by grind)
   grind
  rw[e1,e2]
 .rw[MY]
  grind
section
variable {BA:Nat->Bool}
def ue (BA:Nat->Bool) (l:Option (List Br)) (h fR:Nat) (b:Br):Option (List Br):=match h with
 | 0=>some [b]
 | _+1=>match l with
  | none=>none
  | some r=>Eb BA r fR b
theorem fill_eq {l:Option (List Br)} {ex:List Ty->Fm} {v lo:Nat} {σ:List Nat} {w:Nat} (hlo:lo<=v) (hσ:v∉σ)
  (hex:∀B,LS (λB' c q=>∃ψ,Rl false 0 B' B.length B'.length [] c q ψ) B l (ex B)) (hw:∀r,l=some r->∀c∈r,c.bounds.length<=w) :
  ∀(h fR:Nat) (b:Br) (p:Ty) (B:List Ty) (φ:List Nat),Rl true v B (v+1) B.length σ b p φ->v<B.length->oI (·==hole) b.body=false->(Ai b.body).count hole=h->h<=fR->φ.length+h*w<hole ->
   LS (λB' b p=>∃φ,Rl false 0 B' lo B'.length σ b p φ) B (ue BA l h fR b) (CN BA ex v h p B):=by
 intro h
 induction h with
 | zero=>
  intro fR b p B φ H hv hI h0 hf hs;rw[CN,ue]
  suffices G:Rl false 0 B lo B.length σ b p φ from⟨C8 _,⟨φ,G⟩,Ae⟩
  have hno:∀i∈vis b.body,i≠hole:=by
   rintro i hi rfl;rcases Va b.body H.bd _ hi with h|h
   all_goals grind
  refine { nd:=H.nd,Nt:=λx hx=>?_,len:=H.len,KX:=H.KX,small:=H.small,bd:=H.bd,vis:=λi hi=>?_,eq:=?_ }
  .have:=H.Nt x hx
   omega
  .rcases H.vis i hi with h|h|h
   all_goals grind
  .rw[H.eq]
   grind[EW,Oc]
 | succ h ih=>
  intro fR b p B φ H hv hI h0 hf hs;have hmem:hole∈Ai b.body:=List.count_pos_iff.1 (by omega)
  have uf:DW v false p=true:=by
   rw[H.eq,uT _ _ _ H.bd,Dk]
   grind[Ly]
  rw[CN,uf];simp only[AN];have hx:=hex B;cases hl:l with
  | none=>
   rw[hl] at hx;rcases hgb:ex B with ⟨r',B'⟩
   rw[hgb] at hx;cases r' with
   | some _=>exact hx.elim
   | none=>exact hx
  | some r=>
   rw[hl] at hx;rcases hgb:ex B with ⟨r',B'⟩
   rw[hgb] at hx;cases r' with
   | none=>exact hx.elim
   | some ps=>
    obtain⟨hp,hall⟩:=hx;obtain⟨f,rfl⟩:∃f,fR=f+1:=⟨fR-1,by omega⟩
    obtain⟨k,hk⟩:∃k,GI b.body=some k:=by
     cases hh:GI b.body with
     | some k=>simp
     | none=>
      grind[GI]
    obtain⟨US,hk2⟩:=GD hk;obtain⟨NC,Qy⟩:=Sx US hk2;rw[show ue BA (some r) (h+1) (f+1) b=Eb BA r (f+1) b from rfl];simp only;rw[Eb,hk];simp only
    have step:=fO (BA:=BA) (Q:=λB' b p=>∃φ,Rl false 0 B' lo B'.length σ b p φ) (λA A' a q hA ⟨φ,h⟩=>⟨φ,h.mono hA (Aa _) (Aa _) (GC hA)⟩)
     (S:=λc q=>c∈r/\∃ψ,Rl false 0 B' B.length B'.length [] c q ψ) (g:=λc=>Eb BA r f (Dm b k c)) (g':=λc B=>CN BA ex v h (KA (·==(v:Int)) c p 0) B) (B0:=B') ?_ r ps [] [] B' (C8 _) ?_ Ae
    .revert step
     cases IP BA (λc=>Eb BA r f (Dm b k c)) r [] <;> obtain⟨r2,B2⟩:=CZ BA (λc B=>CN BA ex v h (KA (·==(v:Int)) c p 0) B) ps [] B' <;> cases r2 <;> intro step
     .exact EH hp step
     .exact step
     .exact step
     .exact⟨EH hp step.1,step.2⟩
    .rintro c q A hA ⟨hcr,ψ,hψ⟩
     have Be:=hw r hl c hcr;rw[hψ.len] at Be;have hmul:(h+1)*w=h*w+w:=by rw[EI,Nat.one_mul]
     have ZF:φ.length+ψ.length<hole:=by omega
     obtain⟨s1,s2,s3,s4⟩:=APG (φ:=φ) (σ:=σ) (v:=v) hψ ZF;have hkl:k<(Ai b.body).length:=(BL.1 US).1
     have e0:p=tr (Oc (φ++ψ) σ v) b.body:=by
      rw[H.eq];refine EW _ λi hi=>?_
      rw[Od _ H.small];rcases H.vis i hi with h' | h' | h'
      all_goals omega
     have e1:KA (·==(v:Int)) q p 0=tr (Oc (φ++ψ) σ v) (Pj (H8 φ.length c.body) b.body k):=by
      rw[s1,e0];refine(AEi _ _ _ _ k 0 H.bd ⟨hole,US,by simp[Ly]⟩ ?_).symm;rw[List.countP_eq_zero];intro i hi;have APH:=OZ b.body i (List.mem_of_mem_take hi);have hne:=H.ud (w:=v) (.inl (W9 v)) hσ APH (hk2 i hi)
      have:=Od (ψ:=ψ) (σ:=σ) (v:=v) (φ:=φ) (i:=i) (by
       rcases H.vis i APH with h' | h' | h'
       all_goals omega) H.small
      grind
     have hno:hole∉vis (H8 φ.length c.body):=λhh=>by grind
     have hnc:(Ai (H8 φ.length c.body)).count hole=0:=RM.2 λhm=>hno (OZ _ _ hm)
     have hBB:B<+:A:=EH hp hA;have key:=ih f (Dm b k c) (KA (·==(v:Int)) q p 0) A (φ++ψ) ?_ (Fx hv (GC hBB)) ?_ ?_ (by omega) (by grind)
     .rw[hl] at key
      cases h with
      | zero=>
       have hz:GI (Dm b k c).body=none:=by
        have hz0:(Ai (Dm b k c).body).count hole=0:=by
         show(Ai (Pj (H8 b.bounds.length c.body) b.body k)).count hole=0
         rw[H.len,Ob _ _ _ hkl,RN,RN,Qy,hnc];omega
        grind[GI]
       have e:Eb BA r f (Dm b k c)=some [Dm b k c]:=by
        cases f with
        | zero=>rfl
        | succ f=>rw[Eb,hz]
       show LS _ A (Eb BA r f (Dm b k c)) _
       rw[e];exact key
      | succ h=>exact key
     .refine { nd:=?_,Nt:=?_,len:=?_,KX:=?_,small:=?_,bd:=?_,vis:=?_,eq:=?_ }
      .rw[XA]
       refine⟨H.nd,hψ.nd,λx hx y hy=>?_⟩;have:=(H.Nt x hx).2;have:=(hψ.Nt y hy).1;omega
      .intro x hx
       have hAl:=GC hBB;have hAl':=GC hA;rcases CG.1 hx with hx|hx
       .have:=H.Nt x hx
        omega
       .have:=hψ.Nt x hx
        omega
      .simp only[Dm,Bo,H.len,hψ.len]
      .intro i x hx
       show A[x]?=(b.bounds++c.bounds)[i]?
       by_cases hi:i<φ.length
       .rw[Ci hi] at hx
        rw[Ci (by rw[H.len]; omega)];have:=H.KX i x hx;have hxl:=(H.Nt x (A2 hx)).2
        grind[Ma]
       .rw[E4 (by omega)] at hx
        rw[E4 (by rw[H.len]; omega),H.len];have:=hψ.KX _ x hx;have hxl:=(hψ.Nt x (A2 hx)).2
        grind[Ma]
      .grind
      .show bd (Pj (H8 b.bounds.length c.body) b.body k)=true
       rw[H.len];exact AEk _ s3 _ _ H.bd
      .intro i hi
       have hi':i∈vis (Pj (H8 b.bounds.length c.body) b.body k):=hi;rw[H.len] at hi';rw[Bo];rcases uV _ _ _ i hi' with h' | h'
       .rcases H.vis i h' with h'' | h'' | h''
        all_goals grind
       grind
      .rw[e1]
       show _=tr (Oc (φ++ψ) σ v) (Pj (H8 b.bounds.length c.body) b.body k)
       rw[H.len]
     .show oI (·==hole) (Pj (H8 b.bounds.length c.body) b.body k)=false
      rw[H.len];cases hh:oI (·==hole) (Pj (H8 φ.length c.body) b.body k) with
      | false=>rfl
      | true=>
       rcases AEj _ _ _ _ hh with h' | h'
       all_goals grind[uZ]
     .show(Ai (Pj (H8 b.bounds.length c.body) b.body k)).count hole=h
      rw[H.len,Ob _ _ _ hkl,RN,RN,Qy,hnc];omega
    .have:∀{r':List Br} {ps:List Ty},(∀c∈r',c∈r)->CT (λc q=>∃ψ,Rl false 0 B' B.length B'.length [] c q ψ) r' ps->CT (λc q=>c∈r/\∃ψ,Rl false 0 B' B.length B'.length [] c q ψ) r' ps:=by
      intro r'
      induction r' with
      | nil=>intro ps _ h; cases ps with
       | nil=>trivial
       | cons _ _=>exact h.elim
      | cons a r' ih=>intro ps hm h; cases ps with
       | nil=>exact h.elim
       | cons q ps=>exact⟨⟨hm a (by simp),h.1⟩,ih (λc hc=>hm c (E5 _ hc)) h.2⟩
     grind
end
def ex6:List Nat->Nat
 | [b,c]=>c*(b+1)
 | _=>0
mutual
def cv:Ty->Nat
 | .mk k _ _ ts=>bif k==6 then ex6 (LU ts) else bif k==3||k==4 then(LU ts).sum else 1
def LU:List Ty->List Nat
 | []=>[]
 | t::l=>cv t::LU l
end
def ex7:List Nat->List Nat->Nat
 | [b,c],[_,cc]=>c+1+(cc+1)*b
 | _,_=>0
mutual
def bw:Ty->Nat
 | .mk k _ _ ts=>bif k==6 then ex7 (bwl ts) (LU ts) else bif k==3||k==4 then(bwl ts).sum else 0
def bwl:List Ty->List Nat
 | []=>[]
 | t::l=>bw t::bwl l
end
section
variable {BA:Nat->Bool}
theorem Lz {α β:Type} {g:α->Option (List β)}:∀{l:List α} {out r:List β},IP BA g l out=some r->∀d∈r,d∈out\/∃a∈l,∃s,g a=some s/\d∈s
 | [],out,r,h,d,hd=>by grind[IP]
 | a::l,out,r,h,d,hd=>by
  rw[IP] at h;cases hg:g a with
  | none=>grind
  | some s=>
   rw[hg] at h;simp only at h;cases hb:BA (out++s).length with
   | true=>grind
   | false=>
    rw[hb] at h;rcases Lz h d hd with h' | ⟨a',h1,s',h2,h3⟩
    all_goals grind
theorem Z3 (n:Nat) (b:Ty):(Ai (H8 n b)).length=(Ai b).length:=by
 have eg:H8 n=CM λi=>var (bif decide (0<=i)&&!(i==hole) then i+n else i):=by grind[H8]
 simp[*,EN]
theorem Sy (n:Nat):JO n=CM λi=>var (bif i==-1 then(n:Int) else bif decide (i<0) then i+1 else i):=by grind[JO]
theorem NQ (n m:Int):KV n m=CM λi=>var (bif i==n then m else i):=by grind[KV]
theorem NR:qf=CM λi=>var (-1-i):=rfl
theorem Sz {l:List Br} {w u:Nat} (hl:∀c∈l,c.bounds.length<=w/\(Ai c.body).length<=u):∀(f:Nat) (b:Br) (r:List Br),Eb BA l f b=some r ->
  ∀d∈r,d.bounds.length<=b.bounds.length+f*w/\(Ai d.body).length<=(Ai b.body).length+f*u
 | 0,b,r,h,d,hd=>by grind[Eb]
 | f+1,b,r,h,d,hd=>by
  rw[Eb] at h;have m1:(f+1)*w=f*w+w:=by rw[EI,Nat.one_mul]
  have m2:(f+1)*u=f*u+u:=by rw[EI,Nat.one_mul]
  cases hk:GI b.body with
  | none=>
   grind
  | some k=>
   rw[hk] at h;rcases Lz h d hd with h' | ⟨c,h1,s,h2,h3⟩
   .grind
   .have:=Sz hl f _ s h2 d h3
    have hc:=hl c h1;have hkl:k<(Ai b.body).length:=(BL.1 (GD hk).1).1
    grind[Dm,Ob,Z3]
theorem Z6 {So:Option (List Br)} {bound:Ty} {b:Br} {w u:Nat} (hl:∀l,So=some l->∀c∈l,c.bounds.length<=w/\(Ai c.body).length<=u) {r:List Br} (h:FL BA So bound b=some r) :
  ∀d∈r,d.bounds.length<=b.bounds.length+1+(Ai b.body).length*w/\(Ai d.body).length<=(Ai b.body).length*(u+1):=by
 intro d hd;have ec:(Ai (JO b.bounds.length b.body)).length=(Ai b.body).length:=by simp[*,Sy,EN]
 have ec2:∀m,(Ai (KV b.bounds.length m (JO b.bounds.length b.body))).length=(Ai b.body).length:=λm=>by simp[*,NQ,EN]
 have hm:(Ai b.body).length<=(Ai b.body).length*(u+1):=Nat.le_mul_of_pos_right _ (by omega);have hm2:(Ai b.body).length*(u+1)=(Ai b.body).length+(Ai b.body).length*u:=by grind
 unfold FL at h;cases hI:oI (·==(b.bounds.length:Int)) (JO b.bounds.length b.body) with
 | true=>
  grind
 | false=>
  rw[hI] at h;simp only[AG] at h;cases hh:GI (KV b.bounds.length hole (JO b.bounds.length b.body)) with
  | none=>
   grind
  | some k=>
   rw[hh] at h;cases hb:So with
   | none=>grind
   | some l=>
    rw[hb] at h;have:=Sz (hl l hb) _ _ r h d hd
    grind
theorem KY {α β:Type} {g:α->Option β}:∀{ts:List α} {ls:List β},FM (ts.map g)=some ls->CT (λt l=>g t=some l) ts ls
 | [],ls,h=>by
  simp only[Cs,FM,BG] at h;subst h
  trivial
 | t::ts,ls,h=>by
  simp only[CH] at h;cases hg:g t with
  | none=>grind[FM]
  | some a=>
   rw[hg,FM] at h;cases hr:FM (ts.map g) with
   | none=>grind
   | some r=>
    rw[hr] at h;simp only[BG] at h;subst h;exact⟨hg,KY hr⟩
theorem Vc:∀{ls:List (List Br)} {ws us:List Nat} {out r:List Br} {N M:Nat},(CT (λl w=>∀c∈l,c.bounds.length<=w) ls ws)->(CT (λl w=>∀c∈l,(Ai c.body).length<=w) ls us) ->
  (∀b∈out,b.bounds.length<=N/\(Ai b.body).length<=M/\∃args,b.body=.mk 3 [] 0 args)->JP BA ls out=some r->∀d∈r,d.bounds.length<=N+ws.sum/\(Ai d.body).length<=M+us.sum
 | [],[],[],out,r,N,M,_,_,ho,h,d,hd=>by grind[JP]
 | [],_::_,_,_,_,_,_,h,_,_,_,_,_=>h.elim
 | [],[],_::_,_,_,_,_,_,h,_,_,_,_=>h.elim
 | _::_,[],_,_,_,_,_,h,_,_,_,_,_=>h.elim
 | _::_,_::_,[],_,_,_,_,_,h,_,_,_,_=>h.elim
 | l::ls,w::ws,u::us,out,r,N,M,⟨hw,hws⟩,⟨hu,hus⟩,ho,h,d,hd=>by
  rw[JP] at h;cases hb:BA (HE out l).length with
  | true=>grind
  | false=>
   rw[hb] at h;have:=Vc (N:=N+w) (M:=M+u) hws hus ?_ h d hd
   .grind
   .intro b hb'
    unfold HE at hb';obtain⟨b0,h0,h1⟩:=N3.1 hb';obtain⟨c,h2,rfl⟩:=C0.1 h1;obtain⟨q1,q2,args,q3⟩:=ho b0 h0;have:=hw c h2;have:=hu c h2;rw[q3];refine⟨by grind,?_,_,rfl⟩
    have ea:Bp (args++[H8 b0.bounds.length c.body])=Bp args++Ai (H8 b0.bounds.length c.body):=by
     have:∀(l:List Ty) (t:Ty),Bp (l++[t])=Bp l++Ai t:=by
      intro l t
      induction l with
      | nil=>simp[Bp]
      | cons a l ih=>grind[Bp]
     grind
    grind[Ai,Z3]
theorem Pn:∀l:List Ty,LU l=l.map cv
 | []=>rfl
 | t::l=>by rw[LU,Pn l]; rfl
theorem GN:∀l:List Ty,bwl l=l.map bw
 | []=>rfl
 | t::l=>by rw[bwl,GN l]; rfl
theorem CT.JS {α β γ:Type} {R:α->β->Prop} {S:β->γ->Prop} {g:α->γ}:∀{l:List α} {m:List β},(∀a b,a∈l->R a b->S b (g a))->CT R l m->CT S m (l.map g)
 | [],[],_,_=>trivial
 | a::l,b::m,h,⟨h1,h2⟩=>⟨h a b (by simp) h1,h2.JS λa b ha=>h a b (E5 _ ha)⟩
 | [],_::_,_,h=>h.elim
 | _::_,[],_,h=>h.elim
theorem CT.Mb {α β:Type} {R:α->β->Prop}:∀{l:List α} {m:List β},CT R l m->∀b∈m,∃a∈l,R a b
 | [],[],_,b,h=>by cases h
 | a::l,c::m,⟨h1,h2⟩,b,h=>by
  rcases A1.1 h with rfl|h
  .grind
  .obtain⟨a',h3,h4⟩:=h2.Mb b h
   grind
 | [],_::_,h,_,_=>h.elim
 | _::_,[],h,_,_=>h.elim
theorem Dx:∀{l:List Nat} {n:Nat},n∈l->n<=l.sum
 | a::l,n,h=>by
  rw[MO];rcases A1.1 h with rfl|h
  .omega
  .have:=Dx h
   omega
theorem De:∀(f:Nat) (t:Ty) (l:List Br),DM BA f t=some l->∀c∈l,c.bounds.length<=bw t/\(Ai c.body).length<=cv t
 | 0,t,l,h,c,hc=>by grind[DM]
 | f+1,.mk k n i ts,l,h,c,hc=>by
  rw[DM] at h;rw[bw,cv]
  by_cases k0:k=0
  .grind[Ai]
  have b0:(k==0)=false:=by grind
  rw[b0] at h;simp only[AG] at h;cases b25:(k==2||k==5) with
  | true=>
   rw[b25] at h;simp only[AN,BG] at h;subst h;rw[E7.1 hc];have b6:(k==6)=false:=by grind
   have b34:(k==3||k==4)=false:=by grind
   rw[b6,b34];simp only[AG,NR,EN,Bx,B8,Aa,true_and]
   grind[Ai]
  | false=>
   rw[b25] at h;simp only[AG] at h
   by_cases k3:k=3
   .subst k3
    simp only[C7,AN] at h;cases hs:FM (ts.map (DM BA f)) with
    | none=>grind
    | some ls=>
     rw[hs] at h;simp only at h;have ha:=KY hs;cases he:ls.any List.isEmpty with
     | true=>grind
     | false=>
      rw[he] at h;have q1:CT (λl w=>∀c∈l,c.bounds.length<=w) ls (ts.map bw):=ha.JS λt l _ hg c hc=>(De f t l hg c hc).1
      have q2:CT (λl w=>∀c∈l,(Ai c.body).length<=w) ls (ts.map cv):=ha.JS λt l _ hg c hc=>(De f t l hg c hc).2
      have:=Vc (N:=0) (M:=0) q1 q2 (λb hb=>by simp_all[Ai,Bp]) h c hc
      grind[GN,Pn]
   have b3:(k==3)=false:=by grind
   rw[b3] at h;simp only[AG] at h
   by_cases k4:k=4
   .subst k4
    simp only[C7,AN] at h;cases hs:FM (ts.map (DM BA f)) with
    | none=>grind
    | some ls=>
     rw[hs] at h;simp only at h;have ha:=KY hs;cases hb:BA ls.flatten.length with
     | true=>grind
     | false=>
      rw[hb] at h;simp only[AG,BG] at h;subst h;obtain⟨l',h1,h2⟩:=XB.1 hc;obtain⟨t,h3,h4⟩:=ha.Mb l' h1;have:=De f t l' h4 c h2;have s1:bw t<=(bwl ts).sum:=by simp[*,GN,Dx,Ef]
      have s2:cv t<=(LU ts).sum:=by simp[*,Pn,Dx,Ef]
      grind
   have b4:(k==4)=false:=by grind
   rw[b4] at h;simp only[AG] at h
   by_cases k6:k=6
   .subst k6
    simp only[C7,AN] at h ⊢;rcases ts with _|⟨b,_|⟨body,_|⟨z,r⟩⟩⟩
    .cases h; grind
    .cases h; grind
    .simp only[dU] at h
     cases hb:DM BA f body with
     | none=>grind
     | some l0=>
      rw[hb] at h;simp only at h;simp only[LU,bwl,ex6,ex7];rcases Lz h c hc with h' | ⟨a,h1,s,h2,h3⟩
      .grind
      .have i0:=De f body l0 hb a h1
       have i1:=Z6 (λl hl c hc=>De f b l hl c hc) h2 c h3;have m1:(Ai a.body).length*bw b<=cv body*bw b:=B9 _ i0.2;have m2:(Ai a.body).length*(cv b+1)<=cv body*(cv b+1):=B9 _ i0.2
       grind
    .cases h; grind
   grind
end
section
variable {BA:Nat->Bool}
theorem Iw {φ σ:List Nat} {v:Nat} {i:Int} (h0:0<=i) (h1:i<φ.length) (hs:φ.length<=hole):∃x,φ[i.toNat]?=some x/\x∈φ/\Oc φ σ v i=x:=by grind[Oc]
theorem ACh {So:Option (List Br)} {ex:List Ty->Fm} {Ea:Ty} {v:Nat} {σ:List Nat} {w:Nat} (hσ:v∉σ)
  (hex:∀B,LS (λB' c q=>∃ψ,Rl false 0 B' B.length B'.length [] c q ψ) B So (ex B)) (hw:∀r,So=some r->∀c∈r,c.bounds.length<=w)
  {b:Br} {p:Ty} {B:List Ty} {φ:List Nat} (H:Rl false 0 B (v+1) B.length (v::σ) b p φ) (hv:B[v]?=some Ea) (hs:φ.length+1+(Ai b.body).length*w<hole) :
  LS (λB' b p=>∃φ,Rl false 0 B' v B'.length σ b p φ) B (FL BA So Ea b) (Bv BA ex v p B):=by
 have hvl:=(BL.1 hv).1;have hφ:(φ.length:Int)+1<hole:=by grind
 obtain⟨g1,hg1⟩:∃g1:Int->Int,g1=λi=>bif i==-1 then(φ.length:Int) else bif decide (i<0) then i+1 else i:=⟨_,rfl⟩
 obtain⟨b1,Qz⟩:∃b1,b1=JO b.bounds.length b.body:=⟨_,rfl⟩;have hbi:b1=CM (λi=>var (g1 i)) b.body:=by rw[Qz,Sy,H.len,hg1]
 have ACi:bd b1=true:=by rw[hbi]; exact Pk _ _ H.bd
 have AWd:(Ai b1).length=(Ai b.body).length:=by rw[hbi,EN,Bx]
 have hv1:∀i∈vis b1,(0<=i/\i<φ.length+1)\/(i<0/\-i<=σ.length):=by
  rw[hbi,MY];intro j hj;obtain⟨i,hi,rfl⟩:=C0.1 hj;rw[hg1];rcases H.vis i hi with h|h|h
  all_goals grind
 have hnv:v∉φ:=λhm=>by have:=(H.Nt v hm).1; omega
 have hφ':((φ++[v]).length:Int)<=hole:=by grind
 have e1:p=tr (Oc (φ++[v]) σ 0) b1:=by
  rw[H.eq,hbi,tr,tr,HZ];refine EW _ λi hi=>?_
  rcases H.vis i hi with h|h|h
  .have e1:g1 i=i:=by grind
   rw[e1,Od (.inl h) H.small];obtain⟨x,hx,_,e3⟩:=Iw (σ:=v::σ) (v:=0) h.1 h.2 (by omega);obtain⟨y,hy,_,e4⟩:=Iw (σ:=σ) (v:=0) h.1 h.2 (by omega)
   grind
  .by_cases e:i=-1
   .subst e
    have e1:g1 (-1)=(φ.length:Int):=by grind
    obtain⟨y,hy,_,e4⟩:=Iw (φ:=φ++[v]) (σ:=σ) (v:=0) (i:=(φ.length:Int)) (by omega) (by grind) hφ'
    simp_all[Hu]
   .have e1:g1 i=i+1:=by grind
    rw[e1,Hu h.1,Hu (by omega)];have e5:(-1-i).toNat=(-1-(i+1)).toNat+1:=by omega
    simp[*]
  grind
 have key:∀i∈vis b1,(Oc (φ++[v]) σ 0 i==v)=(i==(φ.length:Int)):=by
  intro i hi;rw[N1,Jk,Jk];rcases hv1 i hi with h|h
  .obtain⟨y,hy,_,e4⟩:=Iw (φ:=φ++[v]) (σ:=σ) (v:=0) h.1 (by grind) hφ'
   grind
  .rw[Hu h.1]
   obtain⟨x,hx⟩:∃x,σ[(-1-i).toNat]?=some x:=⟨_,Ak (by omega)⟩;simp only[List.getD,hx,Ic];constructor
   .rintro rfl
    exact absurd (A2 hx) hσ
   omega
 have uf:DW v true p=oI (·==(b.bounds.length:Int)) b1:=by
  rw[e1,jv _ _ _ ACi,H.len]
  grind[Ss]
 unfold FL Bv;rw[uf,<-Qz];cases hI:oI (·==(b.bounds.length:Int)) b1 with
 | true=>
  refine And.intro (C8 _) (And.intro ?_ Ae);refine⟨φ++[v],?_⟩;refine { nd:=?_,Nt:=?_,len:=?_,KX:=?_,small:=?_,bd:=ACi,vis:=?_,eq:=e1 }
  .rw[XA]
   refine⟨H.nd,by simp,λx hx y hy=>?_⟩
   grind
  .intro x hx
   rcases CG.1 hx with hx|hx
   .have:=H.Nt x hx
    omega
   grind
  .simp[H.len]
  .intro i x hx
   by_cases hi:i<φ.length
   .rw[Ci hi] at hx
    rw[Ci (by rw[H.len]; omega)];exact H.KX i x hx
   .rw[E4 (by omega)] at hx
    rw[E4 (by rw[H.len]; omega),H.len]
    grind
  all_goals grind
 | false=>
  obtain⟨g2,hg2⟩:∃g2:Int->Int,g2=λi=>bif i==(φ.length:Int) then hole else i:=⟨_,rfl⟩
  have g2t:g2 (φ.length:Int)=hole:=by grind
  have g2f:∀i,i≠(φ.length:Int)->g2 i=i:=by grind
  obtain⟨b2,Lf⟩:∃b2,b2=KV b.bounds.length hole b1:=⟨_,rfl⟩;have hre:b2=CM (λi=>var (g2 i)) b1:=by rw[Lf,NQ,H.len,hg2]
  have APK:bd b2=true:=by rw[hre]; exact Pk _ _ ACi
  have hne:∀i∈vis b1,i≠hole:=by grind
  have hg2v:∀i∈vis b1,(g2 i==hole)=(i==(φ.length:Int)):=by grind
  have hv2:∀i∈vis b2,(0<=i/\i<φ.length)\/(i<0/\-i<=σ.length)\/(true=true/\i=hole):=by
   rw[hre,MY]
   grind
  have e2:p=tr (Oc φ σ v) b2:=by
   rw[e1,hre,tr,tr,HZ];refine EW _ λi hi=>?_
   by_cases hb:i=(φ.length:Int)
   .grind[Ly]
   .rw[g2f i hb]
    rcases hv1 i hi with h|h
    .rw[Od (.inl ⟨h.1,by omega⟩) H.small]
     obtain⟨x,hx,_,e3⟩:=Iw (φ:=φ) (σ:=σ) (v:=0) (i:=i) h.1 (by omega) (by omega);obtain⟨y,hy,_,e4⟩:=Iw (φ:=φ) (σ:=σ) (v:=v) (i:=i) h.1 (by omega) (by omega)
     grind
    grind[Hu]
  have hH2:Rl true v B (v+1) B.length σ ⟨b.bounds,b2⟩ p φ:=
   {nd:=H.nd,Nt:=H.Nt,len:=H.len,KX:=H.KX,small:=H.small,bd:=APK,vis:=hv2,eq:=e2 }
  have hI2:oI (·==hole) b2=false:=by
   rw[hre,uS _ _ _ ACi,<-hI,H.len]
   grind[Ss]
  have hcl2:(Ai b2).length=(Ai b.body).length:=by rw[hre,EN,Bx,AWd]
  have S0:BT (·==(v:Int)) p=(Ai b2).count hole:=by
   rw[e2,fN _ _ _ APK,List.count];refine List.countP_congr λi hi=>?_
   have hvi:=OZ _ i hi
   have:(Oc φ σ v i=v)<->i=hole:=by
    constructor
    .intro h
     by_cases hh:i=hole
     .omega
     .exact absurd h (hH2.ud (.inl (W9 v)) hσ hvi hh)
    grind[Ly]
   grind
  have hle:(Ai b2).count hole<=(Ai b.body).length:=by grind
  have hmul:(((Ai b2).count hole:Nat):Int)*w<=((Ai b.body).length:Int)*w:=by
   have:=B9 w hle;omega
  have step:=fill_eq (BA:=BA) (l:=So) (ex:=ex) (lo:=v) (Aa v) hσ hex hw ((Ai b2).count hole) (Ai b.body).length ⟨b.bounds,b2⟩ p B φ hH2 hvl hI2 rfl hle (by omega);simp only[AG];rw[<-Lf,S0];cases hh:GI b2 with
  | none=>
   have hz:(Ai b2).count hole=0:=by grind[List.count_eq_zero,GI]
   rw[hz] at step ⊢;exact step
  | some k=>
   have hz:(Ai b2).count hole≠0:=by
    rw[ne_eq,RM];intro hm;exact hm (A2 (GD hh).1)
   obtain⟨c,hc⟩:∃c,(Ai b2).count hole=c+1:=⟨(Ai b2).count hole-1,by omega⟩;rw[hc] at step ⊢
   assumption
end
theorem M4 {k i:Int} {n:List UInt8} {ts:List Ty} (h:root k n i ts=true) :
  (k=0/\n=[]/\i=0/\ts=[])\/(k=1/\n=[]/\i=0/\ts=[])\/k=2\/(k=3/\n=[]/\i=0)\/(k=4/\n=[]/\i=0/\ts≠[])\/(k=5/\n=[]/\ts=[]/\0<=i)\/(k=6/\n=[]/\i=0/\∃b body,ts=[b,body]/\Co 0 b=true):=by
 unfold root at h;simp only[AE,Dk,Jk] at h;obtain⟨⟨h1,h2⟩,h3⟩:=h;unfold shape at h3
 by_cases k0:k=0
 .grind
 by_cases k1:k=1
 .grind
 by_cases k2:k=2
 .omega
 by_cases k3:k=3
 .grind
 by_cases k4:k=4
 .grind
 by_cases k5:k=5
 .grind
 by_cases k6:k=6
 .subst k6
  simp at h1 h2 h3;refine .inr (.inr (.inr (.inr (.inr (.inr ⟨rfl,h1,h2,?_⟩)))));rcases ts with _|⟨b,_|⟨c,_|⟨d,l⟩⟩⟩ <;> simp at h3
  exact⟨_,_,rfl,h3⟩
 grind
theorem CT.of_map {α β γ:Type} {R:α->γ->Prop} {g:β->γ}:∀{l:List α} {m:List β},CT (λa b=>R a (g b)) l m->CT R l (m.map g)
 | [],[],_=>trivial
 | _::_,_::_,⟨h1,h2⟩=>⟨h1,h2.of_map⟩
 | [],_::_,h=>h.elim
 | _::_,[],h=>h.elim
section
variable {BA:Nat->Bool}
def Cl (n:Nat):Prop:=(n:Int)<hole
def ug (BA:Nat->Bool) (f:Nat) (σ:List Nat) (t:Ty):Prop:=∀B,(∀x∈σ,x<B.length)->LS (λB' b p=>∃φ,Rl false 0 B' B.length B'.length σ b p φ) B (DM BA f t) (A3 BA f (inst σ 0 t) B)
def Ch (B':List Ty) (σ:List Nat):Nat->List Nat->List (List Br)->List (List Ty)->Prop
 | lo,[],[],[]=>lo<=B'.length
 | lo,w::ws,l::ls,ps::rs=>(∀b∈l,b.bounds.length<=w)/\∃mid,lo<=mid/\mid<=B'.length/\CT (λb p=>∃φ,Rl false 0 B' lo mid σ b p φ) l ps/\Ch B' σ mid ws ls rs
 | _,_,_,_=>False
theorem Et {k:Int} (h6:k≠6) (σ:List Nat):∀(l:List Ty) (j:Nat),Da σ 0 k j l=l.map (inst σ 0)
 | [],_=>rfl
 | t::l,j=>by
  have b6:(k==6)=false:=by grind
  have hb:Ea k j=0:=by simp[Ea,b6]
  rw[Da,hb,GY,Et h6 σ l (j+1)];rfl
theorem j7 {f:Nat} {σ:List Nat}:∀(ts:List Ty) (out:List (List Ty)) (B:List Ty),(∀x∈σ,x<B.length)->(∀t∈ts,ug BA f σ t) ->
  match FM (ts.map (DM BA f)),Er (A3 BA f) (ts.map (inst σ 0)) out B with
  | none,(none,B')=>B<+:B'
  | some ls,(some lps,B')=>∃rs,lps=out++rs/\B<+:B'/\Ch B' σ B.length (ts.map bw) ls rs
  | _,_=>False
 | [],out,B,_,_=>by
  simp only[Cs,FM,Er];exact⟨[],by simp,C8 _,Aa _⟩
 | t::ts,out,B,hσ,h=>by
  have h0:=h t (by simp) B hσ;simp only[CH];rw[Er];cases hr:DM BA f t with
  | none=>
   rw[hr] at h0;rcases he:A3 BA f (inst σ 0 t) B with ⟨r',B'⟩
   rw[he] at h0;cases r' with
   | some _=>exact h0.elim
   | none=>exact h0
  | some l=>
   rw[hr] at h0;rcases he:A3 BA f (inst σ 0 t) B with ⟨r',B'⟩
   rw[he] at h0;cases r' with
   | none=>exact h0.elim
   | some ps=>
    obtain⟨hp,hall⟩:=h0;have ih:=j7 ts (out++[ps]) B' (λx hx=>Fx (hσ x hx) (GC hp)) (λt ht=>h t (E5 _ ht));rw[FM];simp only;revert ih;cases FM (ts.map (DM BA f)) <;> rcases Er (A3 BA f) (ts.map (inst σ 0)) (out++[ps]) B' with ⟨r2,B2⟩ <;> cases r2 <;> intro ih
    .grind
    .omega
    .omega
    .obtain⟨rs,h1,h2,h3⟩:=ih
     refine⟨ps::rs,by grind,EH hp h2,?_⟩;refine⟨λb hb=>(De f t l hr b hb).1,B'.length,GC hp,GC h2,?_,h3⟩;exact hall.mono λa b ⟨φ,hφ⟩=>⟨φ,hφ.mono h2 (Aa _) (Aa _) (Aa _)⟩
theorem Vd:∀(l:List Ty) (t:Ty),Bp (l++[t])=Bp l++Ai t
 | [],t=>by simp[Bp]
 | a::l,t=>by simp[Bp,Vd l t]
theorem Z7:∀(l:List Ty) (t:Ty),Ec (l++[t])=Ec l++vis t
 | [],t=>by simp[Ec]
 | a::l,t=>by simp[Ec,Z7 l t]
theorem j8:∀(l:List Ty) (t:Ty),Mp (l++[t])=(Mp l&&bd t)
 | [],t=>by simp[Mp]
 | a::l,t=>by simp[Mp,j8 l t,N4]
theorem Ve (f:Int->Ty):∀(l:List Ty) (t:Ty),Cp f (l++[t])=Cp f l++[CM f t]
 | [],t=>by rfl
 | a::l,t=>by simp[Cp,Ve f l t]
theorem ACj (φ:Int->Nat) (l:List Ty) (t:Ty):Su φ (l++[t])=Su φ l++[tr φ t]:=Ve _ l t
theorem tr3 (φ:Int->Nat) (n:List UInt8) (i:Int) (l:List Ty):tr φ (.mk 3 n i l)=.mk 3 n i (Su φ l):=by rfl
theorem APL (n:List UInt8) (i:Int) (l:List Ty):vis (.mk 3 n i l)=Ec l:=by rfl
theorem bd3 (n:List UInt8) (i:Int) (l:List Ty):bd (.mk 3 n i l)=Mp l:=by rfl
def TRl (B':List Ty) (σ:List Nat) (uh mid N:Nat) (b:Br) (args:List Ty):Prop:=∃φ bs,Rl false 0 B' uh mid σ b (.mk 3 [] 0 args) φ/\b.body=.mk 3 [] 0 bs/\φ.length<=N
theorem j9 {B':List Ty} {σ:List Nat} {uh lo mid N w:Nat} (hlo:uh<=lo) (hmid:lo<=mid) (hm:mid<=B'.length) (hs:((N+w:Nat):Int)<hole):∀{out:List Br} {X7:List (List Ty)} {l:List Br} {ps:List Ty},CT (TRl B' σ uh lo N) out X7 ->
  (∀b∈l,b.bounds.length<=w)->CT (λb p=>∃φ,Rl false 0 B' lo mid σ b p φ) l ps->CT (TRl B' σ uh mid (N+w)) (HE out l) (X7.flatMap λp=>ps.map λx=>p++[x])
 | [],[],_,_,_,_,_=>trivial
 | [],_::_,_,_,h,_,_=>h.elim
 | _::_,[],_,_,h,_,_=>h.elim
 | b::out,args::X7,l,ps,⟨h1,h2⟩,hw,h=>by
  have ih:=j9 hlo hmid hm hs h2 hw h
  have one:CT (TRl B' σ uh mid (N+w)) (l.map λc=>(⟨b.bounds++c.bounds,match b.body with
    | .mk _ _ _ args=>.mk 3 [] 0 (args++[H8 b.bounds.length c.body])⟩:Br)) (ps.map λx=>args++[x]):=by
   obtain⟨φ,bs,H,hb,hN⟩:=h1;clear ih;revert h hw;revert ps
   induction l with
   | nil=>intro ps _ h; cases ps with
    | nil=>trivial
    | cons _ _=>exact h.elim
   | cons c l ihl=>
    intro ps hw h;cases ps with
    | nil=>exact h.elim
    | cons q ps=>
     refine And.intro ?_ (ihl ps (λb hb=>hw b (E5 _ hb)) h.2);obtain⟨ψ,Hc⟩:=h.1
     have hψ:ψ.length<=w:=by
      have:=hw c (by simp);rw[Hc.len] at this;omega
     have ZF:φ.length+ψ.length<hole:=by omega
     obtain⟨gs,hgs⟩:∃gs:Int->Int,gs=λi=>bif decide (0<=i)&&!(i==hole) then i+φ.length else i:=⟨_,rfl⟩
     have eg:H8 φ.length=CM λi=>var (gs i):=by grind[H8]
     have gn:∀i:Int,0<=i->i<ψ.length->gs i=i+φ.length:=by grind
     have gm:∀i:Int,i<0->gs i=i:=by grind
     have e1:q=tr (Oc (φ++ψ) σ 0) (H8 φ.length c.body):=by
      rw[Hc.eq,eg,tr,tr,HZ];refine EW _ λi hi=>?_
      rcases Hc.vis i hi with h|h|h
      .rw[gn i h.1 h.2]
       obtain⟨x,hx,_⟩:=fP h.1 h.2;obtain⟨y,hy,_,e4⟩:=Iw (φ:=ψ) (σ:=σ) (v:=0) h.1 h.2 (by omega);obtain⟨z,hz,_,e5⟩:=Iw (φ:=φ++ψ) (σ:=σ) (v:=0) (i:=i+φ.length) (by omega) (by grind) (by grind);rw[e4,e5];have e6:(i+(φ.length:Int)).toNat=φ.length+i.toNat:=by omega
       simp_all
      all_goals grind[Hu]
     have e2:(.mk 3 [] 0 args:Ty)=tr (Oc (φ++ψ) σ 0) b.body:=by
      rw[H.eq];refine EW _ λi hi=>?_
      rw[Od _ H.small];rcases H.vis i hi with h' | h' | h'
      all_goals omega
     have AWf:Mp bs=true:=by rw[<-bd3 [] 0 bs,<-hb]; exact H.bd
     have e3:args=Su (Oc (φ++ψ) σ 0) bs:=by simp_all[tr3]
     refine⟨φ++ψ,bs++[H8 φ.length c.body],?_,?_,by grind⟩
     .have eb:(match b.body with|.mk _ _ _ args=>.mk 3 [] 0 (args++[H8 b.bounds.length c.body]):Ty)=.mk 3 [] 0 (bs++[H8 φ.length c.body]):=by rw[hb,H.len]
      refine { nd:=?_,Nt:=?_,len:=?_,KX:=?_,small:=?_,bd:=?_,vis:=?_,eq:=?_ }
      .rw[XA]
       refine⟨H.nd,Hc.nd,λx hx y hy=>?_⟩;have:=(H.Nt x hx).2;have:=(Hc.Nt y hy).1;omega
      .intro x hx
       rcases CG.1 hx with hx|hx
       .have:=H.Nt x hx
        omega
       .have:=Hc.Nt x hx
        omega
      .simp only[Bo,H.len,Hc.len]
      .intro i x hx
       show B'[x]?=(b.bounds++c.bounds)[i]?
       by_cases hi:i<φ.length
       .rw[Ci hi] at hx
        rw[Ci (by rw[H.len]; omega)];exact H.KX i x hx
       .rw[E4 (by omega)] at hx
        rw[E4 (by rw[H.len]; omega),H.len];exact Hc.KX _ x hx
      .grind
      .show bd (match b.body with|.mk _ _ _ args=>.mk 3 [] 0 (args++[H8 b.bounds.length c.body]):Ty)=true
       rw[eb,bd3,j8,AWf,eg,Pk _ _ Hc.bd];rfl
      .intro i hi
       have hi':i∈vis (match b.body with|.mk _ _ _ args=>.mk 3 [] 0 (args++[H8 b.bounds.length c.body]):Ty):=hi;rw[eb,APL,Z7,CG] at hi';simp only[Bo];rcases hi' with hi' | hi'
       .have hv:i∈vis b.body:=by grind[APL]
        rcases H.vis i hv with h' | h' | h'
        all_goals grind
       .rw[eg,MY] at hi'
        obtain⟨j,hj,rfl⟩:=C0.1 hi';rcases Hc.vis j hj with h' | h' | h'
        all_goals grind
      simp_all[tr3,ACj]
     .show(match b.body with|.mk _ _ _ args=>.mk 3 [] 0 (args++[H8 b.bounds.length c.body]):Ty)=_
      rw[hb,H.len]
  unfold HE at ih ⊢;rw[List.flatMap_cons,List.flatMap_cons];exact one.append ih
theorem ACk {B':List Ty} {σ:List Nat} {uh:Nat} (ls:List (List Br)):∀{ws:List Nat} {rs:List (List Ty)} {lo N:Nat} {out:List Br} {X7:List (List Ty)},uh<=lo->Ch B' σ lo ws ls rs->Cl (N+ws.sum)->CT (TRl B' σ uh lo N) out X7 ->
  match JP BA ls out,Dn BA rs X7 with
  | none,none=>True
  | some r,some all=>CT (λb args=>∃φ,Rl false 0 B' uh B'.length σ b (.mk 3 [] 0 args) φ) r all
  | _,_=>False:=by
 induction ls with
 | nil=>
  intro ws rs lo N out X7 hlo hc hs h;rcases ws with _|⟨w,ws⟩
  .rcases rs with _|⟨ps,rs⟩
   .rw[JP,Dn]
    exact h.mono λa b ⟨φ,bs,H,_,_⟩=>⟨φ,H.mono (C8 _) hc (Aa _) hc⟩
   .exact hc.elim
  .exact hc.elim
 | cons l ls ih=>
  intro ws rs lo N out X7 hlo hc hs h;rcases ws with _|⟨w,ws⟩
  .exact hc.elim
  rcases rs with _|⟨ps,rs⟩
  .exact hc.elim
  obtain⟨hw,mid,h1,h2,h3,h4⟩:=hc;unfold Cl at hs;rw[MO] at hs;have hp:=j9 hlo h1 h2 (by omega) h hw h3;rw[JP,Dn,<-hp.length];cases BA (HE out l).length with
  | true=>simp
  | false=>exact ih (Bq hlo h1) h4 (by grind[Cl]) hp
theorem Z8 {B':List Ty} {σ:List Nat}:∀{ws:List Nat} {ls:List (List Br)} {rs:List (List Ty)} {lo:Nat},Ch B' σ lo ws ls rs->ls.any List.isEmpty=rs.any List.isEmpty
 | [],[],[],_,_=>rfl
 | w::ws,l::ls,ps::rs,lo,⟨_,mid,_,_,h3,h4⟩=>by
  have hl:=h3.length;rw[N2,N2,Z8 h4]
  grind
 | [],_::_,_,_,h=>h.elim
 | [],[],_::_,_,h=>h.elim
 | _::_,[],_,_,h=>h.elim
 | _::_,_::_,[],_,h=>h.elim
theorem X8 {f:Nat} {σ:List Nat}:∀(ts:List Ty) (out:List Ty) (ok:Bool) (B:List Ty),(∀x∈σ,x<B.length)->(∀t∈ts,ug BA f σ t) ->
  match FM (ts.map (DM BA f)),Gz (A3 BA f) (ts.map (inst σ 0)) out ok B with
  | none,((_,ok'),B')=>B<+:B'/\ok'=false
  | some ls,((o,ok'),B')=>B<+:B'/\ok'=ok/\∃ps,o=out++ps/\CT (λb p=>∃φ,Rl false 0 B' B.length B'.length σ b p φ) ls.flatten ps
 | [],out,ok,B,_,_=>by
  rw[Cs,Cs,FM,Gz];exact⟨C8 _,rfl,[],by simp,Ae⟩
 | t::ts,out,ok,B,hσ,h=>by
  have h0:=h t (by simp) B hσ;simp only[CH];rw[Gz];cases hr:DM BA f t with
  | none=>
   rw[hr] at h0;rcases he:A3 BA f (inst σ 0 t) B with ⟨r',B'⟩
   rw[he] at h0;cases r' with
   | some _=>exact h0.elim
   | none=>
    have hp:B<+:B':=h0;have ih:=X8 ts out false B' (λx hx=>Fx (hσ x hx) (GC hp)) (λt ht=>h t (E5 _ ht))
    grind[FM]
  | some l=>
   rw[hr] at h0;rcases he:A3 BA f (inst σ 0 t) B with ⟨r',B'⟩
   rw[he] at h0;cases r' with
   | none=>exact h0.elim
   | some ps=>
    obtain⟨hp,hall⟩:=h0;have ih:=X8 ts (out++ps) ok B' (λx hx=>Fx (hσ x hx) (GC hp)) (λt ht=>h t (E5 _ ht));rw[FM];simp only;revert ih;cases FM (ts.map (DM BA f)) <;> rcases Gz (A3 BA f) (ts.map (inst σ 0)) (out++ps) ok B' with ⟨⟨o2,ok2⟩,B2⟩ <;> intro ih
    .grind
    .obtain⟨h1,h2,qs,h3,h4⟩:=ih
     refine⟨EH hp h1,h2,ps++qs,by grind,?_⟩;rw[MK];refine CT.append ?_ ?_
     .exact hall.mono λa b ⟨φ,hφ⟩=>⟨φ,hφ.mono h1 (Aa _) (Aa _) (GC h1)⟩
     .exact h4.mono λa b ⟨φ,hφ⟩=>⟨φ,hφ.mono (C8 _) (Aa _) (GC hp) (Aa _)⟩
theorem He {u:Nat} {k:Int} (h6:k≠6):∀{l:List Ty} {j:Nat} {t:Ty},D7 u k j l=true->t∈l->Co u t=true
 | a::l,j,t,h,ht=>by
  have b6:(k==6)=false:=by grind
  have hb:Ea k j=0:=by simp[Ea,b6]
  simp only[D7,AE,hb,GY] at h;rcases A1.1 ht with rfl|ht
  .grind
  .exact He h6 h.2 ht
theorem Ce:∀{l:List Ty} {a:Ty},BS l=true->a∈l->valid a=true
 | b::l,a,h1,h=>by
  simp only[BS,AE] at h1;rcases A1.1 h with rfl|h
  .grind
  .exact Ce h1.2 h
theorem fQ (hb0:BA 0=false) (Qz:BA 1=false):∀(f:Nat) (t:Ty) (σ:List Nat),valid t=true->Co σ.length t=true->σ.Nodup->Cl (bw t)->ug BA f σ t:=by
 intro f
 induction f with
 | zero=>
  intro t σ _ _ _ _ B _;rw[DM,A3];exact C8 _
 | succ f X9=>
  intro t σ hv hc hn hs B hB;obtain⟨k,n,i,ts⟩:=t;have PX:=hv;simp only[valid,AE] at hv;have leaf:∀{p:Ty} {b:Br},Rl false 0 B B.length B.length σ b p []->LS (λB' b p=>∃φ,Rl false 0 B' B.length B'.length σ b p φ) B (some [b]) (some [p],B):=λH=>⟨C8 _,⟨[],H⟩,Ae⟩
  rcases M4 hv.1 with ⟨rfl,rfl,rfl,rfl⟩|⟨rfl,rfl,rfl,rfl⟩|rfl|⟨rfl,rfl,rfl⟩|⟨rfl,rfl,rfl,hne⟩|⟨rfl,rfl,rfl,h0⟩|⟨rfl,rfl,rfl,b,body,rfl,hcb⟩
  .rw[DM,inst,Da]
   simp only[show((0:Int)==5)=false from rfl,AG];rw[A3];simp only[C7,Hq,AN,Qz,AG];refine leaf { nd:=G7,Nt:=λx hx=>(by grind),len:=rfl,KX:=λi x hx=>(by grind),small:=(by simp[hole]),bd:=?_,vis:=λi hi=>(by grind[vis]),eq:=?_ }
   all_goals rfl
  .rw[DM,inst,Da]
   simp only[show((1:Int)==5)=false from rfl,AG];rw[A3];simp only[show((1:Int)==0)=false from rfl,show((1:Int)==2)=false from rfl,show((1:Int)==7)=false from rfl,show((1:Int)==3)=false from rfl,show((1:Int)==4)=false from rfl,show((1:Int)==5)=false from rfl,show((1:Int)==6)=false from rfl,Ks,AG,hb0];exact⟨C8 _,Ae⟩
  .have hp:plain (.mk 2 n i ts)=true:=by grind[plain,Ql]
   obtain⟨q1,q2⟩:=NP σ _ PX hp hc;have e:A3 BA (f+1) (inst σ 0 (.mk 2 n i ts)) B=(some [inst σ 0 (.mk 2 n i ts)],B):=by grind[inst,A3]
   rw[DM,e];simp only[show((2:Int)==0)=false from rfl,C7,Hq,AN,AG];have hb:bd (.mk 2 n i ts)=true:=by assumption
   refine leaf { nd:=G7,Nt:=λx hx=>(by grind),len:=rfl,KX:=λi x hx=>(by grind),small:=(by simp[hole]),bd:=?_,vis:=λj hj=>?_,eq:=?_ }
   .simp[*,NR,Pk]
   .rw[NR,MY] at hj
    obtain⟨j',hj',rfl⟩:=C0.1 hj;have:=Pm _ _ PX hc j' hj';omega
   .rw[q2,NR,tr,tr,HZ]
    refine EW _ λj hj=>?_
    have:=Pm _ _ PX hc j hj
    grind[Hu]
  .have Be:=D8 hc (by decide)
   have ih:∀t∈ts,ug BA f σ t:=λt ht=>X9 t σ (Ce hv.2 ht) (He (by decide) Be ht) hn (by
    have:bw t<=(bwl ts).sum:=by simp[*,GN,Dx,Ef]
    grind[Cl,bw])
   have hq:=j7 (BA:=BA) ts [] B hB ih;rw[DM,inst];simp only[show((3:Int)==5)=false from rfl,AG];rw[A3,Et (by decide)];simp only[show((3:Int)==0)=false from rfl,show((3:Int)==2)=false from rfl,show((3:Int)==7)=false from rfl,show((3:Int)==4)=false from rfl,show((3:Int)==5)=false from rfl,Ks,AG,C7,AN];cases ha:FM (ts.map (DM BA f)) with
   | none=>
    rw[ha] at hq;rcases he:Er (A3 BA f) (ts.map (inst σ 0)) [] B with ⟨r',B'⟩
    rw[he] at hq;cases r' with
    | some _=>grind
    | none=>exact hq
   | some ls=>
    rw[ha] at hq;rcases he:Er (A3 BA f) (ts.map (inst σ 0)) [] B with ⟨r',B'⟩
    rw[he] at hq;cases r' with
    | none=>grind
    | some lps=>
     obtain⟨rs,h1,h2,h3⟩:=hq;simp only[Cb] at h1;subst h1;simp only;rw[<-Z8 h3];cases hem:ls.any List.isEmpty with
     | true=>exact⟨h2,Ae⟩
     | false=>
      simp only[AG];have hw:Cl (0+(ts.map bw).sum):=by grind[bw,GN]
      have hcb:=ACk (BA:=BA) ls (uh:=B.length) (out:=[⟨[],.mk 3 [] 0 []⟩]) (X7:=[[]]) (Aa _) h3 hw (by
       refine And.intro ?_ Ae;refine⟨[],[],{ nd:=G7,Nt:=λx hx=>(by grind),len:=rfl,KX:=λi x hx=>(by grind),small:=(by simp[hole]),bd:=?_,vis:=λi hi=>(by grind[vis,Ec]),eq:=?_ },rfl,Aa _⟩
       all_goals rfl)
      cases ht:JP BA ls [⟨[],.mk 3 [] 0 []⟩] with
      | none=>
       rw[ht] at hcb;cases hcc:Dn BA lps [[]] with
       | none=>exact h2
       | some _=>grind
      | some r=>
       rw[ht] at hcb;cases hcc:Dn BA lps [[]] with
       | none=>grind
       | some all=>
        rw[hcc] at hcb
        have NT:BA all.length=false:=by
         have gen:∀(rs:List (List Ty)) (out:List (List Ty)) (all:List (List Ty)),BA out.length=false->Dn BA rs out=some all->BA all.length=false:=by
          intro rs
          induction rs with
          | nil=>grind[Dn]
          | cons ps rs ih=>
           grind[Dn]
         grind
        simp only[NT,AG];refine⟨h2,?_⟩
        grind[CT.of_map]
  .have Be:=D8 hc (by decide)
   have ih:∀t∈ts,ug BA f σ t:=λt ht=>X9 t σ (Ce hv.2 ht) (He (by decide) Be ht) hn (by
    have:bw t<=(bwl ts).sum:=by simp[*,GN,Dx,Ef]
    grind[Cl,bw])
   have hq:=X8 (BA:=BA) ts [] true B hB ih;rw[DM,inst];simp only[show((4:Int)==5)=false from rfl,AG];rw[A3,Et (by decide)];simp only[show((4:Int)==0)=false from rfl,show((4:Int)==2)=false from rfl,show((4:Int)==7)=false from rfl,show((4:Int)==3)=false from rfl,show((4:Int)==5)=false from rfl,Ks,AG,C7,AN];cases ha:FM (ts.map (DM BA f)) with
   | none=>
    rw[ha] at hq;rcases he:Gz (A3 BA f) (ts.map (inst σ 0)) [] true B with ⟨⟨o,ok⟩,B'⟩
    rw[he] at hq;obtain⟨h1,rfl⟩:=hq
    assumption
   | some ls=>
    rw[ha] at hq;rcases he:Gz (A3 BA f) (ts.map (inst σ 0)) [] true B with ⟨⟨o,ok⟩,B'⟩
    rw[he] at hq;obtain⟨h1,rfl,ps,h2,h3⟩:=hq;simp only[Cb] at h2;subst h2;simp only[E6,<-h3.length];cases BA ls.flatten.length with
    | true=>exact h1
    | false=>exact⟨h1,h3⟩
  .have hp:plain (var i)=true:=by rfl
   obtain⟨q1,q2⟩:=NP σ _ PX hp hc;have hi:=Lx hc;obtain⟨w,hw⟩:∃w,σ[i.toNat]?=some w:=⟨_,Ak (by omega)⟩;have ei:inst σ 0 (var i)=ph w:=by grind[CM]
   rw[DM,ei,A3];simp only[show((5:Int)==0)=false from rfl,show((5:Int)==2)=false from rfl,show((7:Int)==0)=false from rfl,show((7:Int)==2)=false from rfl,C7,G6,AN,AG,Qz];refine leaf { nd:=G7,Nt:=λx hx=>(by grind),len:=rfl,KX:=λi x hx=>(by grind),small:=(by simp[hole]),bd:=?_,vis:=λj hj=>?_,eq:=?_ }
   .rfl
   .rw[qf,CM] at hj
    grind[vis]
   .rw[qf,CM]
    grind[CM,Hu]
  .simp only[BS,AE,Kt] at hv
   have Be:=D8 hc (by decide);simp only[D7,AE,Kt,show Ea 6 0=0 from rfl,show Ea 6 1=1 from rfl] at Be;have oC:bw b<=bw (.mk 6 [] 0 [b,body])/\bw body+1+cv body*bw b<=bw (.mk 6 [] 0 [b,body]):=by grind[bw,bwl,LU,ex7]
   unfold Cl at hs;have ihB:=X9 b [] hv.2.1 (by omega) G7 (by grind[Cl]);have hsub:sub B.length 0 (inst σ 1 body)=inst (B.length::σ) 0 body:=JR B.length σ body 0 hv.2.2 (by grind);have hnot:B.length∉σ:=λh=>absurd (hB _ h) (by omega)
   have ihY:=X9 body (B.length::σ) hv.2.2 (by grind) (List.nodup_cons.2 ⟨hnot,hn⟩) (by grind[Cl]) (B++[b]) (by grind);have hib:inst σ 0 b=b:=Iv σ b 0 hv.2.1 hcb;rw[DM,inst];simp only[show((6:Int)==5)=false from rfl,AG,Da,show Ea 6 0=0 from rfl,show Ea 6 (0+1)=1 from rfl,GY,CQ,hib];rw[A3];simp only[show((6:Int)==0)=false from rfl,show((6:Int)==2)=false from rfl,show((6:Int)==7)=false from rfl,show((6:Int)==3)=false from rfl,show((6:Int)==4)=false from rfl,show((6:Int)==5)=false from rfl,Ks,AG,C7,AN,dU];rw[hsub];have hpB:B<+:B++[b]:=List.prefix_append _ _;cases hr:DM BA f body with
   | none=>
    rw[hr] at ihY;rcases he:A3 BA f (inst (B.length::σ) 0 body) (B++[b]) with ⟨r',B'⟩
    rw[he] at ihY;cases r' with
    | some _=>exact ihY.elim
    | none=>exact EH hpB ihY
   | some l=>
    rw[hr] at ihY;rcases he:A3 BA f (inst (B.length::σ) 0 body) (B++[b]) with ⟨r',B'⟩
    rw[he] at ihY;cases r' with
    | none=>exact ihY.elim
    | some ps=>
     obtain⟨hp,hall⟩:=ihY;have Rb:(B++[b]).length=B.length+1:=by simp
     rw[Rb] at hall;have eK:B'[B.length]?=some b:=Ma hp (by simp)
     have hex:∀A,LS (λB' c q=>∃ψ,Rl false 0 B' A.length B'.length [] c q ψ) A (DM BA f b) (A3 BA f b A):=by
      intro A;have:=ihB A (λx hx=>by grind)
      grind[Iv]
     have hw:∀r,DM BA f b=some r->∀c∈r,c.bounds.length<=bw b:=λr hr c hc=>(De f b r hr c hc).1
     have hsz:∀c∈l,c.bounds.length<=bw body/\(Ai c.body).length<=cv body:=De f body l hr
     have step:=fO (BA:=BA) (Q:=λB' b p=>∃φ,Rl false 0 B' B.length B'.length σ b p φ) (λA A' a q hA ⟨φ,h⟩=>⟨φ,h.mono hA (Aa _) (Aa _) (GC hA)⟩)
      (S:=λc q=>c∈l/\∃ψ,Rl false 0 B' (B.length+1) B'.length (B.length::σ) c q ψ) (g:=FL BA (DM BA f b) b) (g':=Bv BA (A3 BA f b) B.length) (B0:=B') (by
       rintro c q A hA ⟨Be,φ,hφ⟩;have hc:=hsz c Be;rw[hφ.len] at hc;have hφ':=hφ.mono hA (Aa _) (Aa _) (GC hA);have hm:(Ai c.body).length*bw b<=cv body*bw b:=B9 _ hc.2;have hm':(((Ai c.body).length:Nat):Int)*(bw b:Nat)<=(cv body:Nat)*(bw b:Nat):=by omega
       have hq:(((bw body+1+cv body*bw b:Nat)):Int)<hole:=by omega
       have hq':((bw body:Nat):Int)+1+(cv body:Nat)*(bw b:Nat)<hole:=by omega
       exact ACh hnot hex hw hφ' (Ma hA eK) (by omega)) l ps [] [] B' (C8 _) (by
       have:∀{l':List Br} {ps:List Ty},(∀c∈l',c∈l)->CT (λc q=>∃ψ,Rl false 0 B' (B.length+1) B'.length (B.length::σ) c q ψ) l' ps->CT (λc q=>c∈l/\∃ψ,Rl false 0 B' (B.length+1) B'.length (B.length::σ) c q ψ) l' ps:=by
        intro l'
        induction l' with
        | nil=>intro ps _ h; cases ps with
         | nil=>trivial
         | cons _ _=>exact h.elim
        | cons a l' ih=>intro ps hm h; cases ps with
         | nil=>exact h.elim
         | cons q ps=>exact⟨⟨hm a (by simp),h.1⟩,ih (λc hc=>hm c (E5 _ hc)) h.2⟩
       grind) Ae
     simp only
     have APM:∀(m:List Ty) (out:List Ty) (A:List Ty),BA out.length=false->∀r A',CZ BA (Bv BA (A3 BA f b) B.length) m out A=(some r,A')->BA r.length=false:=by
      intro m
      induction m with
      | nil=>grind[CZ]
      | cons q m ih=>
       grind[CZ]
     have hbg:=APM ps [] B' hb0;revert step;rcases hcs:CZ BA (Bv BA (A3 BA f b) B.length) ps [] B' with ⟨r2,B2⟩
     have hpp:B<+:B':=EH hpB hp;cases IP BA (FL BA (DM BA f b) b) l [] <;> cases r2 <;> intro step
     .exact EH hpp step
     .exact step.elim
     .assumption
     .rename_i r1 r2
      simp only[hbg r2 B2 hcs,AG];exact⟨EH hpp step.1,step.2⟩
end
mutual
def occs:Ty->List Int->List Int
 | .mk k _ i ts,l=>bif k==5 then(bif l.contains i then l else l++[i]) else bif k==2||k==3 then GX ts l else l
def GX:List Ty->List Int->List Int
 | [],l=>l
 | t::ts,l=>GX ts (occs t l)
end
def S1 (l:List Int):Nat->Nat->Ty->Ty
 | 0,_,t=>t
 | f+1,j,t=>S1 l f (j+1) (KV (l.getD j 0) (hole+1+j) t)
def S2:Nat->Nat->Ty->Ty
 | 0,_,t=>t
 | f+1,j,t=>S2 f (j+1) (KV (hole+1+j) j t)
def Z9:Ty:=.mk 0 [] 0 []
def FN (b:Br):Br:=⟨(occs b.body []).map λi=>b.bounds.getD i.toNat Z9,S2 (occs b.body []).length 0 (S1 (occs b.body []) (occs b.body []).length 0 b.body)⟩
mutual
def LA (N:Nat):Ty->List Nat->Ty×List Nat
 | .mk k n i ts,o=>bif k==7&&decide (i<N) then(match o.findIdx? (·==i.toNat) with
   | some j=>(var j,o)
   | none=>(var o.length,o++[i.toNat]))
  else(.mk k n i (Gh N ts o).1,(Gh N ts o).2)
def Gh (N:Nat):List Ty->List Nat->List Ty×List Nat
 | [],o=>([],o)
 | t::l,o=>((LA N t o).1::(Gh N l (LA N t o).2).1,(Gh N l (LA N t o).2).2)
end
def Jf (B:List Ty) (p:Ty):Br:=⟨(LA B.length p []).2.map λx=>B.getD x Z9,(LA B.length p []).1⟩
mutual
theorem Vf (N:Nat):∀(t:Ty) (o:List Nat),valid t=true->LA N t o=(t,o)
 | .mk k n i ts,o,h=>by
  have b7:(k==7)=false:=by grind[JQ]
  simp only[valid,AE] at h;rw[LA,b7];simp only[Ga,AG,S3 N ts o h.2]
theorem S3 (N:Nat):∀(l:List Ty) (o:List Nat),BS l=true->Gh N l o=(l,o)
 | [],_,_=>rfl
 | t::l,o,h=>by
  simp only[BS,AE] at h;rw[Gh,Vf N t o h.1];simp only[S3 N l o h.2]
end
mutual
theorem aA:∀(t:Ty) (l:List Int),l<+:occs t l
 | .mk k _ i ts,l=>by
  rw[occs];cases (k==5) with
  | true=>
   grind
  | false=>
   cases (k==2||k==3) with
   | true=>exact KZ ts l
   | false=>simp
theorem KZ:∀(ts:List Ty) (l:List Int),l<+:GX ts l
 | [],l=>C8 _
 | t::ts,l=>(aA t l).trans (KZ ts _)
end
mutual
theorem L1:∀(t:Ty) (l:List Int),∀i∈occs t l,i∈l\/i∈vis t
 | .mk k _ j ts,l,i,hi=>by
  rw[occs] at hi;rw[vis];cases b5:(k==5) with
  | true=>
   grind
  | false=>
   rw[b5] at hi;cases b:(k==2||k==3) with
   | true=>
    rw[b] at hi;exact Vg ts l i hi
   | false=>
    grind
theorem Vg:∀(ts:List Ty) (l:List Int),∀i∈GX ts l,i∈l\/i∈Ec ts
 | [],l,i,hi=>.inl hi
 | t::ts,l,i,hi=>by
  rw[Ec,CG];rcases Vg ts _ i hi with h|h
  .rcases L1 t l i h with h|h
   all_goals grind
  grind
end
mutual
theorem S4:∀(t:Ty) (l:List Int),∀i∈vis t,i∈occs t l
 | .mk k _ j ts,l,i,hi=>by
  rw[vis] at hi;rw[occs];cases b5:(k==5) with
  | true=>
   grind
  | false=>
   rw[b5] at hi;cases b:(k==2||k==3) with
   | true=>
    rw[b] at hi;exact Vh ts l i hi
   | false=>
    grind
theorem Vh:∀(ts:List Ty) (l:List Int),∀i∈Ec ts,i∈GX ts l
 | [],l,i,hi=>by cases hi
 | t::ts,l,i,hi=>by
  rw[Ec,CG] at hi;rcases hi with hi|hi
  .exact(KZ ts _).subset (S4 t l i hi)
  .exact Vh ts _ i hi
end
mutual
theorem LB:∀(t:Ty) (l:List Int),l.Nodup->(occs t l).Nodup
 | .mk k _ j ts,l,hl=>by
  rw[occs];cases (k==5) with
  | true=>
   grind
  | false=>
   cases (k==2||k==3) with
   | true=>exact Qn ts l hl
   | false=>grind
theorem Qn:∀(ts:List Ty) (l:List Int),l.Nodup->(GX ts l).Nodup
 | [],l,hl=>hl
 | t::ts,l,hl=>Qn ts _ (LB t l hl)
end
mutual
theorem kA:∀(t:Ty) (l:List Int),vis t=[]->occs t l=l
 | .mk k _ j ts,l,hv=>by
  rw[vis] at hv;rw[occs];cases b5:(k==5) with
  | true=>grind
  | false=>
   rw[b5] at hv;cases b:(k==2||k==3) with
   | true=>rw[b] at hv; exact aB ts l hv
   | false=>rfl
theorem aB:∀(ts:List Ty) (l:List Int),Ec ts=[]->GX ts l=l
 | [],l,_=>rfl
 | t::ts,l,hv=>by
  rw[Ec,jJ] at hv;rw[GX,kA t l hv.1,aB ts l hv.2]
end
def pos (L:List Int) (i:Int):Nat:=L.idxOf i
theorem YA {L:List Int} (hn:L.Nodup) {j:Nat} {i:Int} (h:L[j]?=some i):pos L i=j:=by
 obtain⟨h1,h2⟩:=BL.1 h;have hm:i∈L:=A2 h;have h3:L.idxOf i<L.length:=List.idxOf_lt_length_of_mem hm
 have h4:L[L.idxOf i]?=some i:=by
  rw[Ak h3,List.getElem_idxOf]
 exact(List.getElem?_inj h3 hn).1 (h4.trans h.symm)
section
variable {N:Nat} {ρ:Int->Nat} {L:List Int} (hL:L.Nodup) (hinj:∀i∈L,∀j∈L,ρ i=ρ j->i=j) (hN:∀i∈L,ρ i<N)
include hL hinj hN
mutual
theorem kB:∀(b:Ty) (l:List Int),pl b=true->occs b l<+:L->LA N (tr ρ b) (l.map ρ)=(CM (λi=>var (pos L i)) b,(occs b l).map ρ)
 | .mk k n i ts,l,h,hp=>by
  cases b5:(k==5) with
  | true=>
   rw[tr,CM,CM,occs,b5];simp only[AN]
   have hi:i∈L:=by
    have:i∈occs (.mk k n i ts) l:=S4 _ l i (by grind[vis])
    grind
   have hNi:=hN i hi;rw[LA];have hlt:((ρ i:Nat):Int)<N:=by omega
   rw[Ap hlt];simp only[C7,Kr,AN,Int.toNat_natCast];have hpre:l<+:L:=(aA _ l).trans hp;cases hc:l.contains i with
   | true=>
    have hm:i∈l:=by grind
    obtain⟨j,hj⟩:=List.getElem?_of_mem hm
    have hjL:L[j]?=some i:=by
     obtain⟨m,rfl⟩:=hpre
     grind
    have hf:(l.map ρ).findIdx? (·==ρ i)=some j:=by
     rw[jK];have hjl:=(BL.1 hj).1;refine⟨by grind,by grind,λa ha=>?_⟩;simp only[List.getElem_map,Jk];intro he;have hal:a<l.length:=by omega
     have haL:L[a]?=some l[a]:=by
      obtain⟨m,rfl⟩:=hpre
      grind
     grind[List.getElem?_inj]
    grind[YA]
   | false=>
    have hm:i∉l:=by grind
    have hjL:L[l.length]?=some i:=by
     rw[occs,b5,hc] at hp;simp only[AN,AG] at hp;obtain⟨m,rfl⟩:=hp;simp
    grind[YA]
  | false=>
   cases b2:(k==2) with
   | true=>
    have h2:k=2:=by grind
    subst h2;rw[pl] at h;rw[occs] at hp ⊢;have:=aC ts l (by grind) (by grind)
    grind[CM,LA]
   | false=>
    grind[pl,MX,Vf,MZ,kA,fM]
theorem aC:∀(ts:List Ty) (l:List Int),X5 ts=true->GX ts l<+:L->Gh N (Su ρ ts) (l.map ρ)=(Cp (λi=>var (pos L i)) ts,(GX ts l).map ρ)
 | [],l,_,_=>rfl
 | t::ts,l,h,hp=>by
  simp only[X5,AE] at h;have _h:=hL;have _h:=hinj;have _h:=hN;have h1:=kB t l h.1 ((KZ ts _).trans hp);rw[Su,Cp,Gh,h1];simp only;rw[show Cp (λi=>ph (ρ i)) ts=Su ρ ts from rfl,aC ts (occs t l) h.2 hp];rfl
end
end
section
variable {N:Nat} {ρ:Int->Nat} {L:List Int} (hL:L.Nodup) (hinj:∀i∈L,∀j∈L,ρ i=ρ j->i=j) (hN:∀i∈L,ρ i<N)
include hL hinj hN
mutual
theorem uj:∀(b:Ty) (l:List Int),bd b=true->occs b l<+:L->LA N (tr ρ b) (l.map ρ)=(CM (λi=>var (pos L i)) b,(occs b l).map ρ)
 | .mk k n i ts,l,h,hp=>by
  cases b3:(k==3) with
  | true=>
   have h3:k=3:=by grind
   subst h3;rw[bd] at h;rw[occs] at hp ⊢;have:=kC ts l (by grind) (by grind)
   grind[CM,LA]
  | false=>
   grind[pl,bd,kB]
theorem kC:∀(ts:List Ty) (l:List Int),Mp ts=true->GX ts l<+:L->Gh N (Su ρ ts) (l.map ρ)=(Cp (λi=>var (pos L i)) ts,(GX ts l).map ρ)
 | [],l,_,_=>rfl
 | t::ts,l,h,hp=>by
  simp only[Mp,AE] at h;have _h:=hL;have _h:=hinj;have _h:=hN;have h1:=uj t l h.1 ((KZ ts _).trans hp);rw[Su,Cp,Gh,h1];simp only;rw[show Cp (λi=>ph (ρ i)) ts=Su ρ ts from rfl,kC ts (occs t l) h.2 hp];rfl
end
end
mutual
theorem aD:∀t:Ty,bd t=true->CM (λi=>var i) t=t
 | .mk k n i ts,h=>by
  rw[CM];rw[bd] at h;cases b5:(k==5) with
  | true=>
   grind
  | false=>
   rw[b5] at h;cases b2:(k==2) with
   | true=>
    rw[b2] at h;simp only[AG,AN,Hq] at h ⊢;rw[Po ts h]
   | false=>
    rw[b2] at h;cases b3:(k==3) with
    | true=>
     rw[b3] at h;simp only[AG,AN,G6] at h ⊢;rw[Vi ts h]
    | false=>simp
theorem Vi:∀l:List Ty,Mp l=true->Cp (λi=>var i) l=l
 | [],_=>rfl
 | t::l,h=>by
  simp only[Mp,AE] at h;rw[Cp,aD t h.1,Vi l h.2]
theorem uk:∀t:Ty,pl t=true->CM (λi=>var i) t=t
 | .mk k n i ts,h=>by
  rw[CM];rw[pl] at h;cases b5:(k==5) with
  | true=>
   grind
  | false=>
   rw[b5] at h;cases b2:(k==2) with
   | true=>
    rw[b2] at h;simp only[AG,AN,Hq] at h ⊢;rw[Po ts h]
   | false=>
    rw[b2] at h;have hc:VV (.mk k n i ts)=true:=by grind
    have e:=MX (.mk k n i ts) (λi=>var i) hc
    grind[CM]
theorem Po:∀l:List Ty,X5 l=true->Cp (λi=>var i) l=l
 | [],_=>rfl
 | t::l,h=>by
  simp only[X5,AE] at h;rw[Cp,uk t h.1,Po l h.2]
end
theorem kD (n m:Int) (g:Int->Int) (t:Ty):KV n m (CM (λi=>var (g i)) t)=CM (λi=>var (bif g i==n then m else g i)) t:=by
 rw[NQ,HZ]
theorem aE {l:List Int}:∀(f j:Nat) (g:Int->Int) (t:Ty),∃g':Int->Int,S1 l f j (CM (λi=>var (g i)) t)=CM (λi=>var (g' i)) t /\
  ∀i,(∀q,l[q]?=some (g i)->q<f+j->j<=q->l.Nodup->(∀x∈l,x<hole)->q<l.length->f+j<=l.length->g' i=hole+1+q)/\((∀q,j<=q->q<f+j->l.getD q 0≠g i)->g' i=g i)
 | 0,j,g,t=>⟨g,rfl,λi=>⟨λq _ h1 h2=>by omega,λ_=>rfl⟩⟩
 | f+1,j,g,t=>by
  rw[S1,kD];obtain⟨g',h1,h2⟩:=aE (l:=l) f (j+1) (λi=>bif g i==l.getD j 0 then hole+1+j else g i) t;refine⟨g',h1,λi=>⟨λq hq q1 q2 hn hh ql hf=>?_,λhno=>?_⟩⟩
  all_goals grind[List.getElem_mem,List.getElem?_inj]
theorem aF:∀(f j:Nat) (g:Int->Int) (t:Ty),∃g':Int->Int,S2 f j (CM (λi=>var (g i)) t)=CM (λi=>var (g' i)) t /\
  ∀i,(∀q:Nat,g i=hole+1+q->j<=q->q<f+j->(f+j:Nat)<hole->g' i=q)/\(g i<hole->g' i=g i)
 | 0,j,g,t=>⟨g,rfl,λi=>⟨λq _ h1 h2=>by omega,λ_=>rfl⟩⟩
 | f+1,j,g,t=>by
  rw[S2,kD];obtain⟨g',h1,h2⟩:=aF f (j+1) (λi=>bif g i==hole+1+j then j else g i) t;refine⟨g',h1,λi=>⟨λq hq q1 q2 hf=>?_,λhlt=>?_⟩⟩
  all_goals grind
theorem AKG {b:Ty} (hb:bd b=true) (hv:∀i∈vis b,0<=i/\i<hole) (hl:Cl (occs b []).length):S2 (occs b []).length 0 (S1 (occs b []) (occs b []).length 0 b)=CM (λi=>var (pos (occs b []) i)) b:=by
 have hn:=LB b [] G7
 have hm:∀i∈occs b [],i<hole:=λi hi=>by
  rcases L1 b [] i hi with h|h
  all_goals grind
 have e0:b=CM (λi=>var i) b:=(aD b hb).symm;obtain⟨g1,h1,h2⟩:=aE (l:=occs b []) (occs b []).length 0 (λi=>i) b;obtain⟨g2,h3,h4⟩:=aF (occs b []).length 0 g1 b
 have e1:S1 (occs b []) (occs b []).length 0 b=CM (λi=>var (g1 i)) b:=by
  rw[<-h1,<-e0]
 rw[e1,h3];refine EW _ λi hi=>?_
 have hmem:=S4 b [] i hi;obtain⟨q,hq⟩:=List.getElem?_of_mem hmem;have hql:=(BL.1 hq).1;have:=(h2 i).1 q hq (by omega) (by omega) hn hm hql (by omega);have:=(h4 i).1 q this (by omega) (by omega) hl
 grind[YA]
theorem um {B:List Ty} {lo hi:Nat} {b:Br} {p:Ty} {φ:List Nat} (H:Rl false 0 B lo hi [] b p φ) (hB:hi<=B.length) (hl:Cl (occs b.body []).length):Jf B p=FN b:=by
 have hv:∀i∈vis b.body,0<=i/\i<φ.length:=by
  intro i hi;rcases H.vis i hi with h|h|h
  all_goals grind
 have hn:=LB b.body [] G7
 have hmem:∀i∈occs b.body [],0<=i/\i<φ.length:=λi hi=>by
  rcases L1 b.body [] i hi with h|h
  all_goals grind
 have hs:=H.small;have KT:∀i∈occs b.body [],∃x,φ[i.toNat]?=some x/\x∈φ/\Oc φ [] 0 i=x:=λi hi=>Iw (hmem i hi).1 (hmem i hi).2 (by omega)
 have key:=uj (N:=B.length) (ρ:=Oc φ [] 0) (L:=occs b.body []) hn (by
  intro i hi j hj he;obtain⟨x,hx,_,ex⟩:=KT i hi;obtain⟨y,hy,_,ey⟩:=KT j hj;rw[ex,ey] at he;subst he;have h1:=hmem i hi;have h2:=hmem j hj;have:=(List.getElem?_inj (by omega) H.nd).1 (hx.trans hy.symm);omega) (by
  intro i hi;obtain⟨x,hx,hm,ex⟩:=KT i hi;rw[ex];have:=H.Nt x hm;omega) b.body [] H.bd (C8 _)
 simp only[Cs] at key;rw[<-H.eq] at key;have e2:=AKG H.bd (λi hi=>by grind) hl;unfold Jf FN;rw[key,e2];simp only[Wz];congr 1;refine List.map_congr_left λi hi=>?_
 obtain⟨x,hx,_,ex⟩:=KT i hi;simp only[Function.comp_apply];rw[ex,XC,XC,H.KX _ _ hx]
mutual
def Eu (q:Int->Bool):Ty->Bool
 | .mk k n i ts=>bif k==7 then ts.isEmpty&&q i else !(n.head?==some 36)&&(decide (n.length<2 ^ 40)&&D1 q ts)
def D1 (q:Int->Bool):List Ty->Bool
 | []=>true
 | t::l=>Eu q t&&D1 q l
end
mutual
theorem GF {q q':Int->Bool} (h:∀i,q i=true->q' i=true):∀t:Ty,Eu q t=true->Eu q' t=true
 | .mk k n i ts,ht=>by
  rw[Eu] at ht ⊢;cases h7:k==7 with
  | true=>
   grind
  | false=>
   rw[h7] at ht;simp only[AG,AE] at ht ⊢;exact⟨ht.1,ht.2.1,S5 h ts ht.2.2⟩
theorem S5 {q q':Int->Bool} (h:∀i,q i=true->q' i=true):∀l:List Ty,D1 q l=true->D1 q' l=true
 | [],_=>rfl
 | t::l,ht=>by
  simp only[D1,AE] at ht ⊢;exact⟨GF h t ht.1,S5 h l ht.2⟩
end
theorem Vj {q:Int->Bool}:∀{l:List Ty} {t:Ty},D1 q l=true->t∈l->Eu q t=true
 | [],_,_,h=>by cases h
 | a::l,t,h,ht=>by
  simp only[D1,AE] at h;rcases A1.1 ht with rfl|ht
  .grind
  .exact Vj h.2 ht
theorem Oe {q:Int->Bool}:∀(l m:List Ty),D1 q (l++m)=(D1 q l&&D1 q m)
 | [],m=>by rfl
 | t::l,m=>by simp[D1,Oe l m,N4]
mutual
theorem aH {q:Int->Bool} {v:Nat} (hv:q v=true):∀(t:Ty) (u:Nat),Eu q t=true->Eu q (sub v u t)=true
 | .mk k n i ts,u,h=>by
  rw[Eu] at h;rw[sub];cases h5:k==5 with
  | true=>
   grind[Eu]
  | false=>
   simp only[AG];rw[Eu];cases h7:k==7 with
   | true=>
    rw[h7] at h;simp only[AN,AE,Jl] at h ⊢;rw[h.1];exact⟨rfl,h.2⟩
   | false=>
    rw[h7] at h;simp only[AG,AE] at h ⊢;exact⟨h.1,h.2.1,Vk hv ts u k 0 h.2.2⟩
theorem Vk {q:Int->Bool} {v:Nat} (hv:q v=true):∀(l:List Ty) (u:Nat) (k:Int) (j:Nat),D1 q l=true->D1 q (J9 v u k j l)=true
 | [],_,_,_,_=>rfl
 | t::l,u,k,j,h=>by
  simp only[D1,AE] at h;simp only[J9,D1,AE];exact⟨aH hv t _ h.1,Vk hv l u k (j+1) h.2⟩
end
mutual
theorem S6 {q m:Int->Bool} {b:Ty} (hb:Eu q b=true):∀(t:Ty) (k:Nat),Eu q t=true->Eu q (KA m b t k)=true
 | .mk c n i ts,k,h=>by
  have h':=h;rw[Eu] at h;rw[KA];cases h7:c==7 with
  | true=>
   grind
  | false=>
   rw[h7] at h;simp only[AG,AE] at h ⊢;cases c==3 with
   | true=>
    rw[AN,Eu,h7];simp only[AG,AE];exact⟨h.1,h.2.1,Vl hb ts k h.2.2⟩
   | false=>grind
theorem Vl {q m:Int->Bool} {b:Ty} (hb:Eu q b=true):∀(l:List Ty) (k:Nat),D1 q l=true->D1 q (Jj m b l k)=true
 | [],_,_=>rfl
 | t::l,k,h=>by
  simp only[D1,AE] at h;rw[Jj];cases decide (k<BT m t) with
  | true=>
   simp only[AN,D1,AE];exact⟨S6 hb t k h.1,h.2⟩
  | false=>
   simp only[AG,D1,AE];exact⟨h.1,Vl hb l _ h.2⟩
end
mutual
theorem Rg {m:Int->Bool} {b:Ty}:∀(t:Ty) (k:Nat),k<BT m t->BT m (KA m b t k)+1=BT m t+BT m b/\size (KA m b t k)<=size t+size b
 | .mk c n i ts,k,h=>by
  rw[BT] at h;rw[KA];cases h7:c==7 with
  | true=>
   grind[BT]
  | false=>
   rw[h7] at h;simp only[AG] at h ⊢;cases h3:c==3 with
   | false=>grind
   | true=>
    rw[h3] at h;simp only[AN] at h ⊢;have:=aI (m:=m) (b:=b) ts k h
    grind[BT,size]
theorem aI {m:Int->Bool} {b:Ty}:∀(l:List Ty) (k:Nat),k<CX m l->CX m (Jj m b l k)+1=CX m l+BT m b/\AZ (Jj m b l k)<=AZ l+size b
 | [],k,h=>by grind[CX]
 | t::l,k,h=>by
  rw[CX] at h;rw[Jj]
  by_cases hk:k<BT m t
  .have:=Rg (m:=m) (b:=b) t k hk
   grind[CX,AZ]
  .have:=aI (m:=m) (b:=b) l (k-BT m t) (by omega)
   grind[CX,AZ]
end
mutual
theorem uo {m:Int->Bool} {b:Ty}:∀(t:Ty) (k:Nat),BT m t<=k->KA m b t k=t
 | .mk c n i ts,k,h=>by
  rw[BT] at h;rw[KA];cases h7:c==7 with
  | true=>
   grind
  | false=>
   rw[h7] at h;simp only[AG] at h ⊢;cases h3:c==3 with
   | false=>rfl
   | true=>
    rw[h3] at h;simp only[AN] at h ⊢;rw[Vm ts k h]
theorem Vm {m:Int->Bool} {b:Ty}:∀(l:List Ty) (k:Nat),CX m l<=k->Jj m b l k=l
 | [],_,_=>rfl
 | t::l,k,h=>by
  rw[CX] at h;rw[Jj,Aw (by omega),AG,Vm (m:=m) (b:=b) l (k-BT m t) (by omega)]
end
mutual
theorem Og {q:Int->Bool} {v:Nat} (hv:q v=false):∀(t:Ty) (inv:Bool),Eu q t=true->DW v inv t=false/\BT (·==(v:Int)) t=0
 | .mk k n i ts,inv,h=>by
  rw[Eu] at h;rw[DW,BT];cases h7:k==7 with
  | true=>
   grind
  | false=>
   rw[h7] at h;simp only[AG,AE] at h ⊢;have:=Vn hv ts (inv&&!(k==2)) h.2.2
   grind
theorem Vn {q:Int->Bool} {v:Nat} (hv:q v=false):∀(l:List Ty) (inv:Bool),D1 q l=true->Fl v inv l=false/\CX (·==(v:Int)) l=0
 | [],_,_=>⟨rfl,rfl⟩
 | t::l,inv,h=>by
  simp only[D1,AE] at h;have h1:=Og hv t inv h.1;have h2:=Vn hv l inv h.2
  grind[Fl,CX]
end
section
variable {BA:Nat->Bool}
theorem H9 {α:Type} {g:α->List Ty->Fm} (hg:∀a B,B.length<=(g a B).2.length):∀(l:List α) (out B:List Ty),B.length<=(CZ BA g l out B).2.length
 | [],_,_=>Aa _
 | a::l,out,B=>by
  have h:=hg a B;rw[CZ];rcases hr:g a B with ⟨_|r,B1⟩
  .grind
  .rw[hr] at h
   simp only at h ⊢;cases BA (out++r).length with
   | true=>exact h
   | false=>exact Bq h (H9 hg l (out++r) B1)
theorem JT {α:Type} {g:α->List Ty->Fm} (hm:∀a B,B.length<=(g a B).2.length) {P:Ty->Prop} {lo M:Nat}:∀(l:List α) (out B:List Ty) (r:List Ty),(∀a∈l,∀B r,lo<=B.length->(g a B).1=some r->(g a B).2.length<=M->∀p∈r,P p) ->
  lo<=B.length->(CZ BA g l out B).1=some r->(CZ BA g l out B).2.length<=M->(∀p∈out,P p)->∀p∈r,P p
 | [],out,B,r,_,_,h,_,ho=>by grind[CZ]
 | a::l,out,B,r,hg,hlo,h,hM,ho=>by
  have h1:=hm a B;have h2:=hg a (by simp) B;rw[CZ] at h hM;rcases hr:g a B with ⟨_|s,B1⟩
  .grind
  .rw[hr] at h hM h1 h2
   simp only at h hM h1 h2;cases hb:BA (out++s).length with
   | true=>grind
   | false=>
    rw[hb] at h hM;simp only[AG] at h hM;have h3:=H9 (BA:=BA) hm l (out++s) B1;refine JT hm l (out++s) B1 r (λa ha=>hg a (by grind)) (by omega) h hM ?_
    grind
theorem Hf {ex:List Ty->Fm} (hx:∀B,B.length<=(ex B).2.length) (v:Nat):∀(f:Nat) (t:Ty) (B:List Ty),B.length<=(CN BA ex v f t B).2.length
 | 0,_,_=>Aa _
 | f+1,t,B=>by
  have h:=hx B;rw[CN];cases DW v false t with
  | false=>simp
  | true=>
   rcases hr:ex B with ⟨_|r,B1⟩
   .grind
   .rw[hr] at h
    exact Bq h (H9 (λc B=>Hf hx v f _ B) r [] B1)
theorem Vo {ex:List Ty->Fm} (hx:∀B,B.length<=(ex B).2.length) {v lo M W S:Nat} {q:Int->Bool} (hr:∀B r,lo<=B.length->(ex B).1=some r->(ex B).2.length<=M->∀c∈r,Eu q c=true/\BT (·==(v:Int)) c=0/\size c<=W) :
  ∀(f:Nat) (t:Ty) (B r:List Ty),Eu q t=true->size t+BT (·==(v:Int)) t*W<=S->lo<=B.length->(CN BA ex v f t B).1=some r->(CN BA ex v f t B).2.length<=M->∀p∈r,Eu q p=true/\size p<=S
 | 0,t,B,r,ht,hS,_,h,_=>by grind[CN]
 | f+1,t,B,r,ht,hS,hlo,h,hM=>by
  have h1:=hx B;have h2:=hr B;rw[CN] at h hM;cases ho:DW v false t with
  | false=>
   grind
  | true=>
   rw[ho] at h hM;simp only[AN] at h hM;rcases he:ex B with ⟨_|cs,B1⟩
   .grind
   .rw[he] at h hM h1 h2
    simp only at h hM h1 h2;have h3:=H9 (BA:=BA) (g:=λc B=>CN BA ex v f (KA (·==(v:Int)) c t 0) B) (λc B=>Hf hx v f _ B) cs [] B1;have h4:=h2 cs hlo rfl (by omega);refine JT (λc B=>Hf hx v f _ B) (lo:=lo) cs [] B1 r ?_ (by omega) h hM (by simp);intro c hc B' r' ACN h' fT;obtain⟨c1,c2,c3⟩:=h4 c hc;refine Vo hx hr f _ B' r' (S6 c1 t 0 ht) ?_ ACN h' fT
    by_cases hk:0<BT (·==(v:Int)) t
    .obtain⟨d1,d2⟩:=Rg (b:=c) t 0 hk
     have:BT (·==(v:Int)) t*W=BT (·==(v:Int)) (KA (·==(v:Int)) c t 0)*W+W:=by grind
     omega
    grind[uo]
end
def wx:List Nat->List Nat->Nat
 | [b,c],[_,d]=>c+max 1 d*b
 | _,_=>0
mutual
def wt:Ty->Nat
 | .mk k _ _ ts=>bif k==6 then wx (qg ts) (LU ts) else bif k==3||k==4 then 1+(qg ts).sum else 1+AZ ts
def qg:List Ty->List Nat
 | []=>[]
 | t::l=>wt t::qg l
end
theorem ACl {l m p:List Nat} (h:CT (·<=·) l m):wx l p<=wx m p:=by
 match l,m,h with
 | [],[],_=>simp
 | [_],[_],_=>exact Aa _
 | [b,c],[b',c'],h=>
  obtain⟨h1,h2,_⟩:=h
  match p with
  | []=>exact Aa _
  | [_]=>exact Aa _
  | [_,d]=>exact Nat.add_le_add h2 (Eg _ h1)
  | _::_::_::_=>exact Aa _
 | _::_::_::_,[_,_],h=>exact h.2.2.elim
 | [_,_],_::_::_::_,h=>exact h.2.2.elim
 | _::_::_::_,_::_::_::_,_=>
  match p with
  | []=>exact Aa _
  | [_]=>exact Aa _
  | [_,_]=>exact Aa _
  | _::_::_::_=>exact Aa _
mutual
theorem fU (v:Nat):∀(t:Ty) (u:Nat),cv (sub v u t)=cv t
 | .mk k n i ts,u=>by
  rw[sub];cases h5:k==5 with
  | true=>
   have:k=5:=by grind
   subst this;simp only[AN];cases i==(u:Int) with
   | true=>rfl
   | false=>cases decide ((u:Int)<i) <;> rfl
  | false=>simp only[AG,cv,YB v ts u k 0]
theorem YB (v:Nat):∀(l:List Ty) (u:Nat) (k:Int) (j:Nat),LU (J9 v u k j l)=LU l
 | [],_,_,_=>rfl
 | t::l,u,k,j=>by rw[J9,LU,LU,fU v t _,YB v l u k (j+1)]
end
theorem aJ:∀{l m:List Nat},CT (·<=·) l m->l.sum<=m.sum
 | [],[],_=>Aa _
 | a::l,b::m,h=>by
  have:=aJ h.2;have:=h.1
  grind
mutual
theorem uq (v:Nat):∀(t:Ty) (u:Nat),size (sub v u t)<=size t
 | .mk k n i ts,u=>by
  rw[sub];cases k==5 with
  | true=>
   grind[size,AZ]
  | false=>
   have:=Pr v ts u k 0
   grind[size]
theorem Pr (v:Nat):∀(l:List Ty) (u:Nat) (k:Int) (j:Nat),AZ (J9 v u k j l)<=AZ l
 | [],_,_,_=>Aa _
 | t::l,u,k,j=>by
  have h1:=uq v t (u+Ea k j);have h2:=Pr v l u k (j+1)
  grind[J9,AZ]
end
mutual
theorem ur (v:Nat):∀(t:Ty) (u:Nat),wt (sub v u t)<=wt t
 | .mk k n i ts,u=>by
  rw[sub];cases h5:k==5 with
  | true=>
   grind[wt,AZ]
  | false=>
   have h1:=Pr v ts u k 0;have h2:=kF v ts u k 0;have h3:=ACl (p:=LU ts) h2;have h4:=aJ h2
   grind[wt,YB]
theorem kF (v:Nat):∀(l:List Ty) (u:Nat) (k:Int) (j:Nat),CT (·<=·) (qg (J9 v u k j l)) (qg l)
 | [],_,_,_=>trivial
 | t::l,u,k,j=>⟨ur v t _,kF v l u k (j+1)⟩
end
mutual
theorem Oh (m:Int->Bool):∀t:Ty,BT m t<=size t
 | .mk c n i ts=>by
  have:=M5 m ts
  grind[BT,size]
theorem M5 (m:Int->Bool):∀l:List Ty,CX m l<=AZ l
 | []=>Aa _
 | t::l=>by
  have h1:=Oh m t;have h2:=M5 m l
  grind[CX,AZ]
end
section
variable {BA:Nat->Bool}
theorem I6 {ex:List Ty->Fm} (hx:∀B,B.length<=(ex B).2.length) (v:Nat) (t:Ty) (B:List Ty):B.length<=(Bv BA ex v t B).2.length:=by grind[Bv,Hf]
theorem Oi {ex:Ty->List Ty->Fm} (hx:∀t B,B.length<=(ex t B).2.length):∀(l out:List Ty) (ok:Bool) (B:List Ty),B.length<=(Gz ex l out ok B).2.length
 | [],_,_,_=>Aa _
 | t::l,out,ok,B=>by
  have h:=hx t B;rw[Gz];rcases hr:ex t B with ⟨_|r,B1⟩
  .rw[hr] at h
   exact Bq h (Oi hx l out false B1)
  .rw[hr] at h
   exact Bq h (Oi hx l (out++r) ok B1)
theorem S7 {ex:Ty->List Ty->Fm} (hx:∀t B,B.length<=(ex t B).2.length):∀(l:List Ty) (out:List (List Ty)) (B:List Ty),B.length<=(Er ex l out B).2.length
 | [],_,_=>Aa _
 | t::l,out,B=>by
  have h:=hx t B;rw[Er];rcases hr:ex t B with ⟨_|r,B1⟩
  .grind
  .rw[hr] at h
   exact Bq h (S7 hx l (out++[r]) B1)
theorem JU:∀(f:Nat) (t:Ty) (B:List Ty),B.length<=(A3 BA f t B).2.length
 | 0,_,_=>Aa _
 | f+1,.mk k n i ts,B=>by
  have hf:=JU f;rw[A3];cases k==0||k==2||k==7 with
  | true=>simp
  | false=>
   simp only[AG];cases k==4 with
   | true=>
    grind[Oi]
   | false=>
    simp only[AG];cases k==3 with
    | true=>
     grind[S7]
    | false=>
     simp only[AG];cases k==6 with
     | false=>simp
     | true=>
      simp only[AN]
      match ts with
      | []=>exact Aa _
      | [_]=>exact Aa _
      | _::_::_::_=>exact Aa _
      | [b,body]=>
       grind[dU,H9,I6]
end
section
variable {BA:Nat->Bool}
def Pq (q:Int->Bool) (W:Nat) (p:Ty):Prop:=Eu q p=true/\size p<=W
theorem Pq.le {q:Int->Bool} {W V:Nat} {p:Ty} (h:Pq q W p) (hl:W<=V):Pq q V p:=⟨h.1,Bq h.2 hl⟩
theorem L2 {ex:Ty->List Ty->Fm} (hx:∀t B,B.length<=(ex t B).2.length) {P:Ty->Prop} {lo M:Nat}:∀(l out:List Ty) (ok:Bool) (B:List Ty),(∀t∈l,∀B r,lo<=B.length->(ex t B).1=some r->(ex t B).2.length<=M->∀p∈r,P p) ->
  lo<=B.length->(Gz ex l out ok B).2.length<=M->(∀p∈out,P p)->∀p∈(Gz ex l out ok B).1.1,P p
 | [],_,_,_,_,_,_,ho=>ho
 | t::l,out,ok,B,hg,hlo,hM,ho=>by
  have h1:=hx t B;have h2:=hg t (by simp) B;rw[Gz] at hM ⊢;rcases hr:ex t B with ⟨_|s,B1⟩
  .rw[hr] at hM h1
   exact L2 hx l out false B1 (λa ha=>hg a (by grind)) (by grind) hM ho
  .rw[hr] at hM h1 h2
   simp only at hM h1 h2 ⊢;have h3:=Oi hx l (out++s) ok B1;refine L2 hx l (out++s) ok B1 (λa ha=>hg a (by grind)) (by omega) hM ?_
   grind
def Cho (P:Nat->Ty->Prop):List (List Ty)->List Nat->Prop:=CT λl w=>∀p∈l,P w p
theorem Oj {ex:Ty->List Ty->Fm} (hx:∀t B,B.length<=(ex t B).2.length) {P:Nat->Ty->Prop} {w:Ty->Nat} {lo M:Nat}:∀(l:List Ty) (out:List (List Ty)) (ws:List Nat) (B:List Ty) (r:List (List Ty)),(∀t∈l,∀B r,lo<=B.length->(ex t B).1=some r->(ex t B).2.length<=M->∀p∈r,P (w t) p) ->
  lo<=B.length->(Er ex l out B).1=some r->(Er ex l out B).2.length<=M->Cho P out ws->Cho P r (ws++l.map w)
 | [],out,ws,B,r,_,_,h,_,ho=>by grind[Er]
 | t::l,out,ws,B,r,hg,hlo,h,hM,ho=>by
  have h1:=hx t B;have h2:=hg t (by simp) B;rw[Er] at h hM;rcases hr:ex t B with ⟨_|s,B1⟩
  .grind
  .rw[hr] at h hM h1 h2
   simp only at h hM h1 h2;have h3:=S7 hx l (out++[s]) B1;have:=Oj hx (P:=P) (w:=w) (lo:=lo) (M:=M) l (out++[s]) (ws++[w t]) B1 r (λa ha=>hg a (by grind)) (by omega) h hM (ho.append ⟨h2 s hlo rfl (by omega),Ae⟩)
   grind
theorem Vp {q:Int->Bool}:∀(ls:List (List Ty)) (ws:List Nat) (out r:List (List Ty)) (W:Nat),Cho (Pq q) ls ws->Dn BA ls out=some r->(∀p∈out,D1 q p=true/\AZ p<=W)->∀p∈r,D1 q p=true/\AZ p<=W+ws.sum
 | [],ws,out,r,W,hc,h,ho=>by grind[Dn]
 | l::ls,[],_,_,_,hc,_,_=>hc.elim
 | l::ls,w::ws,out,r,W,hc,h,ho=>by
  rw[Dn] at h;cases hb:BA (out.flatMap λp=>l.map λx=>p++[x]).length with
  | true=>grind
  | false=>
   rw[hb] at h;simp only[AG] at h;intro p hp
   have:=Vp ls ws _ r (W+w) hc.2 h (by
    intro p hp;obtain⟨a,ha,hp⟩:=N3.1 hp;obtain⟨x,hx,rfl⟩:=C0.1 hp;have h1:=ho a ha;have h2:=hc.1 x hx;refine⟨?_,?_⟩
    .rw[Oe,h1.1]
     simp[D1,h2.1]
    .have:∀(l:List Ty) (x:Ty),AZ (l++[x])=AZ l+size x:=by
      intro l x
      induction l with
      | nil=>simp[AZ]
      | cons y l ih=>grind[AZ]
     rw[this];have:=h2.2;omega) p hp
   grind
end
mutual
theorem Rh {m p:Int->Bool} (h:∀i,m i=true->p i=true):∀t:Ty,BT m t<=BT p t
 | .mk c n i ts=>by
  have:=aK h ts
  grind[BT]
theorem aK {m p:Int->Bool} (h:∀i,m i=true->p i=true):∀l:List Ty,CX m l<=CX p l
 | []=>Aa _
 | t::l=>by
  have h1:=Rh h t;have h2:=aK h l
  grind[CX]
end
mutual
theorem aL {m q:Int->Bool} {b:Ty}:∀(t:Ty) (k:Nat),BT q (KA m b t k)<=BT q t+BT q b
 | .mk c n i ts,k=>by
  have ih:=Vq (m:=m) (q:=q) (b:=b) ts k
  grind[KA,BT]
theorem Vq {m q:Int->Bool} {b:Ty}:∀(l:List Ty) (k:Nat),CX q (Jj m b l k)<=CX q l+BT q b
 | [],_=>AI _
 | t::l,k=>by
  rw[Jj];cases decide (k<BT m t) with
  | true=>
   have:=aL (m:=m) (q:=q) (b:=b) t k
   grind[CX]
  | false=>
   have:=Vq (m:=m) (q:=q) (b:=b) l (k-BT m t)
   grind[CX]
end
theorem Ol (q:Int->Bool):∀(l m:List Ty),CX q (l++m)=CX q l+CX q m
 | [],m=>by simp[CX]
 | t::l,m=>by rw[Dh,CX,CX,Ol q l m]; omega
section
variable {BA:Nat->Bool}
abbrev cA:Ty->Nat:=BT λ_=>true
theorem aM {ex:List Ty->Fm} (hx:∀B,B.length<=(ex B).2.length) {v C:Nat} (hr:∀B r,(ex B).1=some r->∀c∈r,cA c<=C) :
  ∀(f:Nat) (t:Ty) (B r:List Ty),(CN BA ex v f t B).1=some r->∀p∈r,cA p<=cA t+f*C
 | 0,t,B,r,h=>by grind[CN]
 | f+1,t,B,r,h=>by
  have h2:=hr B;rw[CN] at h;cases ho:DW v false t with
  | false=>
   grind
  | true=>
   rw[ho] at h;simp only[AN] at h;rcases he:ex B with ⟨_|cs,B1⟩
   .grind
   .rw[he] at h h2
    simp only at h h2;refine JT (λc B=>Hf hx v f _ B) (lo:=0) cs [] B1 r ?_ (AI _) h (Aa _) (by simp);intro c hc B' r' _ h' _ p hp;have h3:=aM hx hr f _ B' r' h' p hp
    grind[aL]
theorem Pt {q:Int->Bool}:∀(ls:List (List Ty)) (ws:List Nat) (out r:List (List Ty)) (W:Nat),Cho (λw p=>BT q p<=w) ls ws->Dn BA ls out=some r->(∀p∈out,CX q p<=W)->∀p∈r,CX q p<=W+ws.sum
 | [],ws,out,r,W,hc,h,ho=>by grind[Dn]
 | l::ls,[],_,_,_,hc,_,_=>hc.elim
 | l::ls,w::ws,out,r,W,hc,h,ho=>by
  rw[Dn] at h;cases hb:BA (out.flatMap λp=>l.map λx=>p++[x]).length with
  | true=>grind
  | false=>
   rw[hb] at h;simp only[AG] at h;intro p hp
   have:=Pt ls ws _ r (W+w) hc.2 h (by
    intro p hp;obtain⟨a,ha,hp⟩:=N3.1 hp;obtain⟨x,hx,rfl⟩:=C0.1 hp;have h1:=ho a ha;have h2:BT q x<=w:=hc.1 x hx
    grind[Ol,CX]) p hp
   grind
theorem YC:∀(f:Nat) (t:Ty) (B r:List Ty),(A3 BA f t B).1=some r->∀p∈r,cA p<=cv t
 | 0,_,_,_,h=>by cases h
 | f+1,.mk k n i ts,B,r,h=>by
  have hf:=λt B=>JU (BA:=BA) f t B
  have ih:=YC f;rw[A3] at h;cases h0:k==0||k==2||k==7 with
  | true=>
   grind[BT,cv]
  | false=>
   rw[h0] at h;simp only[AG] at h;cases h4:k==4 with
   | true=>
    have hk:k=4:=by grind
    subst hk;rw[h4] at h;simp only[AN] at h;have key:=L2 hf (P:=λp=>cA p<=cv (.mk 4 n i ts)) (lo:=0) (M:=(Gz (A3 BA f) ts [] true B).2.length) ts [] true B (λt hm B' r _ h _ p hp=>Bq (ih t B' r h p hp) (by simp[*,cv,Pn,Dx,Ef])) (AI _) (Aa _) (by simp)
    grind
   | false=>
    rw[h4] at h;simp only[AG] at h;cases h3:k==3 with
    | true=>
     have hk:k=3:=by grind
     subst hk;rw[h3] at h;simp only[AN] at h;have key:=λr h=>Oj hf (P:=λw p=>cA p<=w) (w:=cv) (lo:=0) (M:=(Er (A3 BA f) ts [] B).2.length) ts [] [] B r (λt _ B' r _ h _ p hp=>ih t B' r h p hp) (AI _) h (Aa _) Ae
     rcases hs:Er (A3 BA f) ts [] B with ⟨_|ls,B1⟩
     .grind
     .rw[hs] at h key
      simp only at h key;cases he:ls.any List.isEmpty with
      | true=>
       grind
      | false=>
       rw[he] at h;simp only[AG] at h;cases hc:Dn BA ls [[]] with
       | none=>grind
       | some all=>
        rw[hc] at h;simp only at h;cases hb:BA all.length with
        | true=>grind
        | false=>
         rw[hb] at h;cases h;intro p hp;obtain⟨a,ha,rfl⟩:=C0.1 hp;have h5:=Pt (q:=λ_=>true) ls _ _ all 0 (key ls rfl) hc (by simp[CX]) a ha
         grind[BT,cv,Pn]
    | false=>
     rw[h3] at h;simp only[AG] at h;cases h6:k==6 with
     | false=>
      grind
     | true=>
      have hk:k=6:=by grind
      subst hk;rw[h6] at h;simp only[AN] at h
      match ts with
      | []=>cases h; simp
      | [_]=>cases h; simp
      | _::_::_::_=>cases h; simp
      | [b,body]=>
       simp only[dU] at h;rcases hs:A3 BA f (sub B.length 0 body) (B++[b]) with ⟨_|l,B1⟩
       .grind
       .rw[hs] at h
        have kG:=ih (sub B.length 0 body) (B++[b]) l (by rw[hs]);rw[fU] at kG;have key:=λr h1 h=>JT (BA:=BA) (g:=Bv BA (A3 BA f b) B.length) (λa B=>I6 (hf b) _ a B) (P:=λp=>cA p<=cv (.mk 6 n i [b,body])) (lo:=0) (M:=(CZ BA (Bv BA (A3 BA f b) B.length) l [] B1).2.length) l [] B1 r h1 (AI _) h (Aa _) (by simp)
        simp only at h;rcases hc:CZ BA (Bv BA (A3 BA f b) B.length) l [] B1 with ⟨_|o,B2⟩
        .grind
        .rw[hc] at h key
         simp only at h key;cases hb:BA o.length with
         | true=>grind
         | false=>
          rw[hb] at h;cases h;refine key r (λa ha B' r' _ h' _ p hp=>?_) rfl;have e:cv (.mk 6 n i [b,body])=cv body*(cv b+1):=rfl;have ha1:=kG a ha;rw[e,RO];rw[Bv] at h';cases ho:DW B.length true a with
          | true=>
           grind
          | false=>
           rw[ho] at h';simp only[AG] at h';have h7:=aM (BA:=BA) (hf b) (C:=cv b) (λB r h=>ih b B r h) _ a B' r' h' p hp;have h8:BT (·==(B.length:Int)) a<=cA a:=Rh (λ_ _=>rfl) a;have h9:BT (·==(B.length:Int)) a*cv b<=cv body*cv b:=B9 _ (by omega);omega
end
section
variable {BA:Nat->Bool}
theorem IQ:∀l:List Ty,qg l=l.map wt
 | []=>rfl
 | t::l=>by rw[qg,IQ l]; rfl
theorem aN {k i:Int} {n:List UInt8} {ts:List Ty} (h:(k==0||k==2||k==7)=true):wt (.mk k n i ts)=size (.mk k n i ts):=by grind[wt,size]
theorem IA:∀(f:Nat) (t:Ty) (B:List Ty) (M:Nat) (q:Int->Bool) (r:List Ty),(∀i:Int,(B.length:Int)<=i->i<M->q i=true)->Eu (λi=>q i&&decide (i<B.length)) t=true ->
  (A3 BA f t B).1=some r->(A3 BA f t B).2.length<=M->∀p∈r,Pq q (wt t) p
 | 0,_,_,_,_,_,_,_,h,_=>by cases h
 | f+1,.mk k n i ts,B,M,q,r,hq,ht,h,hM=>by
  have hf:=λt B=>JU (BA:=BA) f t B
  have ih:=IA f;have htq:Eu q (.mk k n i ts)=true:=GF (λi hi=>by grind) _ ht;rw[A3] at h hM;cases h0:k==0||k==2||k==7 with
  | true=>
   rw[h0] at h;simp only[AN] at h;cases hb:BA 1 with
   | true=>grind
   | false=>
    rw[hb] at h;cases h;intro p hp;rw[E7.1 hp];exact⟨htq,by grind[aN]⟩
  | false=>
   rw[h0] at h hM;simp only[AG] at h hM;have h7:(k==7)=false:=by grind
   rw[Eu,h7] at ht;simp only[AG,AE] at ht
   have part:∀t∈ts,∀(B' r:List Ty),B.length<=B'.length->(A3 BA f t B').1=some r->(A3 BA f t B').2.length<=M->∀p∈r,Pq q (wt t) p:=by
    intro t hm B' r hl h hM;refine ih t B' M q r (λi h1 h2=>hq i (by omega) h2) (GF (λi hi=>?_) _ (Vj ht.2.2 hm)) h hM
    grind
   have wle:∀t∈ts,wt t<=(qg ts).sum:=by
    intro t hm;rw[IQ];exact Dx (C0.2 ⟨t,hm,rfl⟩)
   cases h4:k==4 with
   | true=>
    have hk:k=4:=by grind
    subst hk;rw[h4] at h hM;simp only[AN] at h hM;have key:=L2 hf (P:=Pq q (wt (.mk 4 n i ts))) (lo:=B.length) (M:=M) ts [] true B (λt hm B' r hl h hM p hp=>(part t hm B' r hl h hM p hp).le (by grind[wt])) (Aa _)
    grind
   | false=>
    rw[h4] at h hM;simp only[AG] at h hM;cases h3:k==3 with
    | true=>
     have hk:k=3:=by grind
     subst hk;rw[h3] at h hM;simp only[AN] at h hM;have key:=λr=>Oj hf (P:=Pq q) (w:=wt) (lo:=B.length) (M:=M) ts [] [] B r part (Aa _)
     rcases hs:Er (A3 BA f) ts [] B with ⟨_|ls,B1⟩
     .grind
     .rw[hs] at h hM key
      simp only at h hM key;cases he:ls.any List.isEmpty with
      | true=>
       grind
      | false=>
       rw[he] at h hM;simp only[AG] at h hM;cases hc:Dn BA ls [[]] with
       | none=>grind
       | some all=>
        rw[hc] at h hM;simp only at h hM;cases hb:BA all.length with
        | true=>grind
        | false=>
         rw[hb] at h;cases h;intro p hp;obtain⟨a,ha,rfl⟩:=C0.1 hp;have h5:=Vp (q:=q) ls _ _ all 0 (key ls rfl hM Ae) hc (by simp[D1,AZ]) a ha;refine⟨by grind[Eu],?_⟩
         grind[wt,IQ,size]
    | false=>
     rw[h3] at h hM;simp only[AG] at h hM;cases h6:k==6 with
     | false=>
      grind
     | true=>
      have hk:k=6:=by grind
      subst hk;rw[h6] at h hM;simp only[AN] at h hM
      match ts,part,ht with
      | [],_,_=>cases h; simp
      | [_],_,_=>cases h; simp
      | _::_::_::_,_,_=>cases h; simp
      | [b,body],part,ht=>
       simp only[dU] at h hM;have h1:=hf (sub B.length 0 body) (B++[b]);simp only[D1,AE] at ht;rcases hs:A3 BA f (sub B.length 0 body) (B++[b]) with ⟨_|l,B1⟩
       .grind
       .rw[hs] at h hM h1
        have h2:=H9 (BA:=BA) (g:=Bv BA (A3 BA f b) B.length) (λa B=>I6 (hf b) _ a B) l [] B1;have key:=λP r ZD=>JT (BA:=BA) (g:=Bv BA (A3 BA f b) B.length) (λa B=>I6 (hf b) _ a B) (P:=P) (lo:=B.length+1) (M:=M) l [] B1 r ZD
        simp only[Bo,CO,B8,CQ] at h1 h hM;rcases hc:CZ BA (Bv BA (A3 BA f b) B.length) l [] B1 with ⟨_|o,B2⟩
        .grind
        .rw[hc] at h hM h2 key
         simp only at h hM h2 key;cases hb:BA o.length with
         | true=>grind
         | false=>
          rw[hb] at h;cases h;have kG:=ih (sub B.length 0 body) (B++[b]) M q l (λi h1 h2=>hq i (by grind) h2) (aH (by grind) body 0 (GF (λi hi=>by grind) _ ht.2.2.2.1)) (by rw[hs]) (by grind);have hwb:=ur B.length body 0;refine key (Pq q (wt (.mk 6 n i [b,body]))) r ?_ (by omega) rfl hM (by simp);intro a ha B' r' hlo h' fT;obtain⟨ta,sa⟩:=kG a ha;have hsa:=Bq sa hwb;have hwt:wt (.mk 6 n i [b,body])=wt body+max 1 (cv body)*wt b:=rfl;have hca:=YC f (sub B.length 0 body) (B++[b]) l (by rw[hs]) a ha;rw[fU] at hca;rw[Bv] at h' fT;rw[hwt];cases ho:DW B.length true a with
          | true=>
           rw[ho] at h';cases h';intro p hp;rw[E7.1 hp];exact⟨ta,by omega⟩
          | false=>
           rw[ho] at h' fT;simp only[AG] at h' fT;have hcs:BT (·==(B.length:Int)) a<=cA a:=Rh (λ_ _=>rfl) a;refine Vo (BA:=BA) (hf b) (lo:=B.length+1) (M:=M) (W:=wt b) (q:=q) ?_ _ a B' r' ta ?_ hlo h' fT
           .intro B3 r3 hlo3 h3' hM3 c KQ
            have:=ih b B3 M (λi=>q i&&!(i==(B.length:Int))) r3 (λi h1 h2=>by grind) (GF (λi hi=>by grind) _ ht.2.2.1) h3' hM3 c KQ;refine⟨GF (λi hi=>by grind) _ this.1,(Og (v:=B.length) (by simp) c false this.1).2,this.2⟩
           .have:BT (·==(B.length:Int)) a*wt b<=max 1 (cv body)*wt b:=B9 _ (by omega)
            omega
end
section
variable {BA:Nat->Bool}
theorem IB {α:Type} {g:α->List Ty->Fm} (hg:∀a B,B<+:(g a B).2):∀(l:List α) (out B:List Ty),B<+:(CZ BA g l out B).2
 | [],_,_=>C8 _
 | a::l,out,B=>by
  have h:=hg a B;rw[CZ];rcases hr:g a B with ⟨_|r,B1⟩
  .grind
  .rw[hr] at h
   simp only at h ⊢;cases BA (out++r).length with
   | true=>exact h
   | false=>exact h.trans (IB hg l (out++r) B1)
theorem Hg {ex:List Ty->Fm} (hx:∀B,B<+:(ex B).2) (v:Nat):∀(f:Nat) (t:Ty) (B:List Ty),B<+:(CN BA ex v f t B).2
 | 0,_,_=>C8 _
 | f+1,t,B=>by
  have h:=hx B;rw[CN];cases DW v false t with
  | false=>simp
  | true=>
   rcases hr:ex B with ⟨_|r,B1⟩
   .grind
   .rw[hr] at h
    exact h.trans (IB (λc B=>Hg hx v f _ B) r [] B1)
theorem Ka {ex:List Ty->Fm} (hx:∀B,B<+:(ex B).2) (v:Nat) (t:Ty) (B:List Ty):B<+:(Bv BA ex v t B).2:=by grind[Bv,Hg]
theorem Om {ex:Ty->List Ty->Fm} (hx:∀t B,B<+:(ex t B).2):∀(l out:List Ty) (ok:Bool) (B:List Ty),B<+:(Gz ex l out ok B).2
 | [],_,_,_=>C8 _
 | t::l,out,ok,B=>by
  have h:=hx t B;rw[Gz];rcases hr:ex t B with ⟨_|r,B1⟩
  .rw[hr] at h
   exact h.trans (Om hx l out false B1)
  .rw[hr] at h
   exact h.trans (Om hx l (out++r) ok B1)
theorem S8 {ex:Ty->List Ty->Fm} (hx:∀t B,B<+:(ex t B).2):∀(l:List Ty) (out:List (List Ty)) (B:List Ty),B<+:(Er ex l out B).2
 | [],_,_=>C8 _
 | t::l,out,B=>by
  have h:=hx t B;rw[Er];rcases hr:ex t B with ⟨_|r,B1⟩
  .grind
  .rw[hr] at h
   exact h.trans (S8 hx l (out++[r]) B1)
theorem Fo:∀(f:Nat) (t:Ty) (B:List Ty),B<+:(A3 BA f t B).2
 | 0,_,_=>C8 _
 | f+1,.mk k n i ts,B=>by
  have hf:=Fo f;rw[A3];cases k==0||k==2||k==7 with
  | true=>simp
  | false=>
   simp only[AG];cases k==4 with
   | true=>
    grind[Om]
   | false=>
    simp only[AG];cases k==3 with
    | true=>
     grind[S8]
    | false=>
     simp only[AG];cases k==6 with
     | false=>simp
     | true=>
      simp only[AN]
      match ts with
      | []=>exact C8 _
      | [_]=>exact C8 _
      | _::_::_::_=>exact C8 _
      | [b,body]=>
       grind[dU,List.prefix_append,IB,Ka]
theorem Kb (h0:BA 0=false):∀(f:Nat) (t:Ty) (B r:List Ty),(A3 BA f t B).1=some r->BA r.length=false
 | 0,_,_,_,h=>by cases h
 | f+1,.mk k n i ts,B,r,h=>by
  rw[A3] at h;cases qY:k==0||k==2||k==7 with
  | true=>
   grind
  | false=>
   rw[qY] at h;simp only[AG] at h;cases L3:k==4 with
   | true=>
    grind
   | false=>
    rw[L3] at h;simp only[AG] at h;cases Lb:k==3 with
    | true=>
     rw[Lb] at h;simp only[AN] at h;rcases hs:Er (A3 BA f) ts [] B with ⟨_|ls,B1⟩
     .grind
     .rw[hs] at h
      simp only at h;cases he:ls.any List.isEmpty with
      | true=>grind
      | false=>
       rw[he] at h;simp only[AG] at h;cases hc:Dn BA ls [[]] with
       | none=>grind
       | some all=>
        rw[hc] at h;simp only at h;cases hb:BA all.length with
        | true=>grind
        | false=>grind
    | false=>
     rw[Lb] at h;simp only[AG] at h;cases fL:k==6 with
     | false=>
      grind
     | true=>
      rw[fL] at h;simp only[AN] at h
      match ts with
      | []=>cases h; omega
      | [_]=>cases h; omega
      | _::_::_::_=>cases h; omega
      | [b,body]=>
       grind[dU]
end
end Go.Proofs.YtpgfpakdnijngaaGreatDoor
