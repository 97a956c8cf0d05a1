/-
  The reference: fill.
-/
import Derived.Test.YtpgfpakdnijngaaGreatDoorTG
set_option linter.unusedSimpArgs false
set_option linter.unusedVariables false
namespace Go.Proofs.YtpgfpakdnijngaaGreatDoor
open Go.Tel
theorem NJ.keep {lo:Nat} {bs bs':List (List AV)} {l:List Br} {a:AV} {e:Nat} {c d:List AV} (h:NJ lo bs l a) (he:bs[e]?=some c) (hc:c.length=2) (hT:bs'.take bs.length=bs.set e d):NJ lo bs' l a:=by
 rcases h with h|⟨id,rows,h1,h2,h3,h4,h5⟩
 ·exact .inl h
 ·refine .inr ⟨id,rows,h1,h2,?_,h4,h5⟩
  have hne:e≠id:=by
   rintro rfl;rw[he] at h3;cases h3;have:=(M9 h4).1;omega
  exact Dh hT (by rw[Cd hne]; exact h3)
structure ASZ (e:Nat) (x:Bool) (l:List Br) (s s':AK) (v:AV):Prop where
 cr:NJ s.bs.length s'.bs l v
 tk:s'.bs.take s.bs.length=s.bs.set e [BB true,BB x]
 len:s.bs.length<=s'.bs.length
 ok:B9 s'
 V7:Ew (.AA []) (.AA []) s.ts s'.ts
theorem K4 (b:Br):(K0 b).length=5:=by simp[K0,Am]
theorem mS {a b:List AV} {p q:List PV} (ha:Cn a=some p) (hb:Cn b=some q):Cn (a++b)=some (p++q):=by
 induction a generalizing p with
 | nil=>
  have:p=[]:=by simpa[Cn] using ha.symm
  subst this;simpa using hb
 | cons x a ih=>
  simp only[Cn] at ha;cases hx:I3 x with
  | none=>rw[hx] at ha; simp at ha
  | some u=>
   rw[hx] at ha;cases hr:Cn a with
   | none=>rw[hr] at ha; simp at ha
   | some r=>
    rw[hr] at ha;have:p=u::r:=by simpa using ha.symm
    subst this;simp only[EZ,Cn,hx,ih hr]
theorem FD.Cn {b:Br} {row:List AV} (h:FD b (.agg row)):Cn row=some (K0 b):=by
 obtain⟨a,y,he,ha,ht⟩:=h;cases he;rcases hb:b.body with ⟨k,n,i,ts⟩
 rw[hb] at ht;obtain⟨a2,hy,U1⟩:=ht;cases hy
 have h1:Tel.Cn [a,AD k,SS n,AD i,a2]=some [.list (AQ b.bounds),.sc (.int .i64 k),.sc (.string ⟨n.toArray⟩),.sc (.int .i64 i),.list (AQ ts)]:=by
  simp only[Tel.Cn,ha.I3,U1.I3];rfl
 rw[h1,K0,hb,Ah]
theorem T2 {l:List Br} {rows:List (List AV)} (h:CY (fun b row=>FD b (.agg row)) l rows):Cn rows.flatten=some ((l.map K0).flatten):=by
 induction l generalizing rows with
 | nil=>
  cases rows with
  | nil=>rfl
  | cons _ _=>exact h.elim
 | cons b l ih=>
  cases rows with
  | nil=>exact h.elim
  | cons row rows=>
   rw[GO,CI,GO];exact mS h.1.Cn (ih h.2)
theorem NJ.NA {lo N:Nat} {bs X:List (List AV)} {l:List Br} {a:AV} (h:NJ lo X l a) (hT:bs.take N=X):NJ lo bs l a:=
 h.mono (AL _) fun _ _ _ hj=>Dh hT hj
section
variable {R:RT}
structure TpG (S N:Nat) (b:Br):Prop where
 g:UY S b
 n:b.bounds.length<=N
 t:∃ args,b.body=.mk 3 [] 0 args
end
attribute [local simp] CX Cx MP MQ AX Df Ia wO setCells C2 FA DN Ca Bo alive Dx Hv KX nT Bi DF Bz Ib Fj Eo nU pY okB wX pZ wY pg wZ lu we wh wj wk wm wo wq wu wz w6 w7 okF w8 w9 xA xB xD Zh xE Ur Us Ut Uu xH xJ xK xN xO xQ xS xT xU xV Ic xW pn xX xY xZ xd pq xe xg xh xj xk Cn g0 g1 xI xL xM xF xG xC lf Y4 Y5
section
variable {R:RT}
theorem zo:∀ (f:Nat) (t:Ty) (l:List Br),Gi (AR 32) f t=some l->l.length<=32:=by
 intro f t l h
 have cat:∀ {α:Type} (g:α->Option (List Br)) (l:List α) (out r:List Br),out.length<=32->O2 (AR 32) g l out=some r->r.length<=32:=by
  intro α g l
  induction l with
  | nil=>
   intro out r ho h;rw[O2] at h;cases h;exact ho
  | cons a l ih=>
   intro out r ho h;rw[O2] at h;cases hg:g a with
   | none=>rw[hg] at h; cases h
   | some s=>
    rw[hg] at h;simp only at h;cases hb:AR 32 (out++s).length with
    | true=>rw[hb] at h; cases h
    | false=>rw[hb] at h; exact ih _ r (by simpa[AR] using hb) h
 have tup:∀ (ls:List (List Br)) (out r:List Br),out.length<=32->NI (AR 32) ls out=some r->r.length<=32:=by
  intro ls
  induction ls with
  | nil=>
   intro out r ho h;rw[NI] at h;cases h;exact ho
  | cons a l ih=>
   intro out r ho h;rw[NI] at h;cases hb:AR 32 (Ja out a).length with
   | true=>rw[hb] at h; cases h
   | false=>rw[hb] at h; exact ih _ r (by simpa[AR] using hb) h
 cases f with
 | zero=>rw[Gi] at h; cases h
 | succ f=>
  obtain⟨k,n,i,ts⟩:=t;rw[Gi] at h;cases h0:k==0 with
  | true=>rw[h0] at h; cases h; simp
  | false=>
   rw[h0] at h;simp only[AB] at h;cases h2:k==2||k==5 with
   | true=>rw[h2] at h; cases h; simp
   | false=>
    rw[h2] at h;simp only[AB] at h;cases h3:k==3 with
    | true=>
     rw[h3] at h;simp only[AE] at h;cases hs:Hw (ts.map (Gi (AR 32) f)) with
     | none=>rw[hs] at h; cases h
     | some ls=>
      rw[hs] at h;simp only at h;cases he:ls.any List.isEmpty with
      | true=>rw[he] at h; cases h; simp
      | false=>rw[he] at h; exact tup _ _ _ (by simp) h
    | false=>
     rw[h3] at h;simp only[AB] at h;cases h4:k==4 with
     | true=>
      rw[h4] at h;simp only[AE] at h;cases hs:Hw (ts.map (Gi (AR 32) f)) with
      | none=>rw[hs] at h; cases h
      | some ls=>
       rw[hs] at h;simp only at h;cases hb:AR 32 ls.flatten.length with
       | true=>rw[hb] at h; cases h
       | false=>
        rw[hb] at h;cases h;simpa[AR] using hb
     | false=>
      rw[h4] at h;simp only[AB] at h;cases h6:k==6 with
      | false=>rw[h6] at h; cases h; simp
      | true=>
       rw[h6] at h;simp only[AE] at h;rcases ts with _|⟨b,_|⟨body,_|⟨z,r⟩⟩⟩
       ·cases h; simp
       ·cases h; simp
       ·simp only[Zn] at h
        cases hb:Gi (AR 32) f body with
        | none=>rw[hb] at h; cases h
        | some l0=>rw[hb] at h; exact cat _ _ _ _ (by simp) h
       ·cases h; simp
end
mutual
theorem cC:∀ (t:Ty) (l:List Int),(occs t l).length<=l.length+size t
 | .mk k _ i ts,l=>by
  have:=Wc ts l;rw[occs,size];cases k==5 with
  | true=>cases l.contains i <;> simp only[AE,AB,Ab,A3,BV] <;> omega
  | false=>cases k==2||k==3 <;> simp only[AE,AB] <;> omega
theorem Wc:∀ (ts:List Ty) (l:List Int),(Jc ts l).length<=l.length+Ac ts
 | [],l=>by simp[Jc,Ac]
 | t::ts,l=>by
  have h1:=cC t l;have h2:=Wc ts (occs t l);rw[Jc,Ac];omega
end
end Go.Proofs.YtpgfpakdnijngaaGreatDoor
