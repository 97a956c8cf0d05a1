/-
  A row that is appended as zero and then written: the world meanwhile.
-/
import Derived.Test.YtpgfpakdnijngaaGreatDoorEvE
set_option linter.all false
namespace Go.Tel
open Option renaming some->Y,none->G
open Bool renaming true->Z,false->ϴ
open Go renaming World->ϙ,Value->ϛ,TypeId->ϝ,Program->ϟ,Oper->ϡ,Operand->ϧ
def rP (us:List ϛ):∀(vs vs':List ϛ) (k:Nat),vs.length=vs'.length->(∀q,(q<k\/k+us.length<=q)->vs[q]?=vs'[q]?)->Ca vs k us=Ca vs' k us:=by
 induction us with
 | nil=>intro vs vs' k b h; simp only[Ca]; exact Fw λq=>h q AB
 | cons u us d=>
  grind[Ca]
theorem Wz (us b:List ϛ) (h:b.length=us.length) (vs:List ϛ) (k:Nat):Ca (Ca vs k b) k us=Ca vs k us:=
 rP us _ _ k (B8 _ _ _) λ_ d=>Fk _ _ _ _ AA
def rQ (us:List ϛ):∀(os r:List ϛ),r.length=us.length->∀rest,Ca (os++r++rest) os.length us=os++us++rest:=by
 intro os r d rest;apply Fw;intro q;rcases Fv q os.length with a|a
 .grind[Fk]
 .rcases Fv q (os.length+us.length) with b|b
  .obtain⟨j,rfl⟩:∃j,q=os.length+j:=⟨q-os.length,AA⟩
   simp_all[HP,Ei,C3]
  grind[Fk]
theorem Te {os rest:List ϛ} (b us:List ϛ) (h:b.length=us.length):Ca (os++b++rest) os.length us=os++us++rest:=rQ us os b h rest
theorem Gz {w:ϙ} {vs us:List ϛ} {e:ϝ}:Bd (Cy w vs e) w.heap.size us e=Cy w us e:=by
 refine Jp ?_ rfl rfl rfl rfl;apply Sk
 grind[Bv,Cy]
theorem VP.one {I:Nat->Nat->Prop} {w:ϙ} {p:PV} {u:ϛ} (g:AZ) (b:g.I=I) (h:VP I w p u) (d:BS (.pv p)=Z):u.oneCell'=true:=by
 subst b;exact J3 (.pv h) d
theorem Flat.one {I:Nat->Nat->Prop} {w:ϙ} {z:Ϧ} {us:List ϛ} (g:AZ) (e:g.I=I) (h:Flat I w [z] z.length us) (f:(z.map AV.pv).all BS=Z):∀u∈us,u.oneCell'=true:=by
 intro u d;obtain⟨j,i,rfl⟩:=Nf.1 d;have b:=h.len;simp at b;have⟨k,l,m⟩:=h.at_ 0 z j z[j] rfl AD
 grind[VP.one]
def My {E:Env} {L:Ba} {g:AZ} {w:ϙ} {s a3:AY} (X:Inv E g w s) {t elem T:ϝ} {i:TypeInfo} {x y v:AV} {a4 a5:ϛ} {rows:Ϯ} {z row:Ϧ} {us:List ϛ}
  (μ:E.P.underlying t=Y (.slice elem)) (a6:E.P.info? elem=Y i) (γ:i.size≠0) (hze:(zeroOf E.P elem).map List.length=Y i.size)
  (hx:V g w x a4) (ε:rowsOf x=Y rows) (hy:V g w y a5) (b4:rowsOf y=Y [z]) (b5:z.length=i.size) (b6:(z.map AV.pv).all BS=Z)
  (ζ:us.length=i.size) (hrow:row.length=i.size) (b7:∀(j:Nat) p,row[j]?=Y p->∃u,us[j]?=Y u/\VP g.I w p u)
  (h:LP L s elem i x row=Y (v,a3)) :
  ∃b cap φ e H a7 wv g',
   (Builtin.append_ #[t,t] T #[a4,a5]).run E.P w=.ok (.slice (Y ⟨b,0,G⟩) (rows.length+1) cap) a7 /\
   V g' wv v (.slice (Y ⟨b,0,G⟩) (rows.length+1) cap)/\Ext L g w g' wv/\Inv E g' wv a3 /\
   wv.heap[b]?=Y (.cells ⟨Ca φ (rows.length*i.size) us⟩ e H)/\a7=Bd wv b φ e H/\(rows.length*i.size+us.length<=φ.length/\H.2<=rows.length*i.size) /\
   (∃k l,g'.tok k=Y l/\l.b=b):=by
 obtain⟨b0,Λ,yb,yo,ysz,yf,rfl,AYr,b2⟩:=EU hy b4;have⟨M,b8,_,Θ⟩:=b2.Ww (k:=i.size) γ AB Λ;have Ξ:M.length=i.size:=by have:=b8.len; grind
 have b1:∀u∈M,u.oneCell'=true:=Flat.one g rfl (by rw[b5]; omega) b6;obtain⟨a8,b9⟩:∃a8,zeroOf E.P elem=Y a8:=by grind[zeroOf]
 have⟨r,zv,hi',Ψ,_,b3⟩:=ET (g:=g) (w:=w) b9;have:r=i:=AB;subst this;have Ω:Dy E.P elem=Y r.size:=by grind[Dy]
 have a0:zv.cells.size=r.size:=by rw[<-IZ,<-b3.len]; grind
 have hn:(Builtin.lenOf (.slice b0 [z].length Λ)).run E.P w=.ok 1 w:=bC _ _ _;have a9:∀k,TypeDesc.slice elem≠.int k:=λk e=>by grind
 have a1:Flat g.I w [row] r.size us:=by
  have:=Ip (k:=r.size) (n:=1) (ps:=row) (us:=us) (I:=g.I) (w:=w) AA AA b7
  grind[CZ]
 unfold LP at h;split at h
 .rename_i m
  simp[rowsOf] at ε; subst ε;split at h
  .rename_i χ
   obtain⟨ς,τ,ο⟩:=χ;have ψ:=L8 ο;simp only[BU,Bg] at h;obtain⟨rfl,rfl⟩:=h;cases hx with
   | @AE _ Φ b o sz f ω=>
    have⟨C,B,_,ν⟩:=ω.Ww γ ψ m.length;have⟨A,D,β,υ,π⟩:=run_append_grow (base:=Φ) (sCap:=m.length) T [] μ a6 μ a9 hn (Θ E.P (Bt w) rfl) (ν E.P (Bt w) rfl) Ψ AA ς τ;have⟨U,Γ⟩:=X.drew (L:=L);have η:=B.append a1
    have ρ:(C++us++D).length=A*r.size:=by
     simp only[B6,B.len,ζ,υ,a0];rw[show m.length*r.size+r.size=(m.length+1)*r.size by grind,<-DM];rw[show m.length+1+(A-(m.length+1))=A by omega]
    have⟨e3,i3⟩:=Γ.kz (L:=L) (t:=s.ts.length) (n:=m.length+1) (e:=elem) ρ β γ Ω (.inl ⟨rfl,rfl⟩);have W:(m++[row]).length=m.length+1:=AD;refine⟨w.heap.size,A,C++M++D,elem,(0,0),_,Cy (Bt w) (C++us++D) elem,_,π,?_,U.trans e3,i3,?_,?_,?_,s.ts.length,⟨(Bt w).heap.size,A,r.size,m.length+1,elem⟩,by simp[AZ.Gu],rfl⟩
    .have α:=HQ (g:=g.Gu s.ts.length ⟨(Bt w).heap.size,A,r.size,m.length+1,elem⟩) (w:=Cy (Bt w) (C++us++D) elem) (t:=s.ts.length) (b:=(Bt w).heap.size) (cap:=A) (e:=elem)
      (by simp[AZ.Gu]) (η.mono (U.trans e3).mono (U.trans e3).cell) W β (λo δ=>.inr ⟨rfl,δ⟩) (λq u S=>by
       rw[CI (by rw[Cb]; exact if_pos rfl),C3 (DY S)]; omega)
     rw[W] at α;exact α
    .rw[Cb,if_pos (show w.heap.size=(Bt w).heap.size from rfl),<-B.len,Te M us AA]
    .grind[Gz,Bt]
    .exact⟨by simp[B.len,Ξ,ζ],AO _⟩
  grind
 .rename_i k m
  simp[rowsOf] at ε; subst ε;split at h
  .rename_i χ
   obtain⟨ς,τ,hts,a2,ο⟩:=χ;have ψ:=L8 ο;simp only[BU,Bg] at h;obtain⟨rfl,rfl⟩:=h;have W:(m++[row]).length=m.length+1:=AD;cases hx with
   | @own _ _ Φ b o sz cap f l ω hcap θ hnl hf=>
    have⟨d,hl1,ι,AVs⟩:=X.HH k _ _ hts;have:d=l:=AB;subst this;obtain⟨rfl,rfl,rfl,rfl,rfl⟩:=hf ι.symm;have⟨C,B,hco,ν⟩:=ω.Ww γ ψ d.cap;have η:=B.append a1;have⟨O,H,Δ,AVu,hnc,hsz,hfz,hsl⟩:=X.tok k d θ;have κ:d.sz=r.size:=AB
    by_cases ξ:m.length+1<=d.cap
    .have hbd:d.n*d.sz+r.size<=O.length:=by
      have:=Be r.size ξ
      grind
     have hst:=Fj (P:=E.P) (b:=d.b) (o:=d.n*d.sz) (e:=d.e) hfz M 0 w O b1 Δ AA;have⟨e3,i3⟩:=X.ABM (L:=L) (n:=m.length+1) (us:=us) θ Δ AA ξ a2;have i3':Inv E (g.Gu k { d with n:=m.length+1 }) (Bd w d.b (Ca O (d.n*d.sz) us) d.e H) { s with ts:=s.ts.set k (m.length+1,elem) }:=AB;refine⟨d.b,d.cap,Ca O (d.n*d.sz) M,d.e,H,Bd w d.b (Ca O (d.n*d.sz) M) d.e H,Bd w d.b (Ca O (d.n*d.sz) us) d.e H,_,?_,?_,e3,i3',?_,?_,?_,k,{ d with n:=m.length+1 },by simp[AZ.Gu],rfl⟩
     .simp_all[run_append_room,Dl]
     .have α:=HQ (g:=g.Gu k { d with n:=m.length+1 }) (w:=Bd w d.b (Ca O (d.n*d.sz) us) d.e H) (t:=k) (b:=d.b) (cap:=d.cap) (sz:=d.sz) (e:=d.e)
       (by simp[AZ.Gu]) (Flat.ALh κ.symm (η.mono e3.mono e3.cell)) W ξ (λo δ=>.inr ⟨rfl,δ⟩) (λq u S=>by
        rw[CI (by rw[Bv,if_pos rfl,if_pos (X.GM θ)])];rcases Fv q C.length with x|x
        .rw[C3 x] at S
         have:=(hco q u S).2;rw[CI Δ,CY] at this;rw[Fk us O _ _ (.inl (by rw[ι,κ,<-B.len]; exact x))];omega
        .rw[Ei x] at S
         have:=HP us O (d.n*d.sz) _ u S AA;rw[ι,κ,<-B.len,show C.length+(q-C.length)=q by omega] at this;rw[ι,κ,<-B.len];omega)
      grind
     .grind[Bv,Wz]
     .exact Er.symm
     grind[B8]
    .have⟨A,D,β,υ,π⟩:=run_append_grow (base:=Y ⟨d.b,0,G⟩) (sCap:=d.cap) T [] μ a6 μ a9 hn (Θ E.P (Bt w) rfl) (ν E.P (Bt w) rfl) Ψ AA ς τ
     have⟨U,Γ⟩:=X.drew (L:=L)
     have ρ:(C++us++D).length=A*r.size:=by
      simp only[B6,B.len,ζ,υ,a0];rw[show m.length*r.size+r.size=(m.length+1)*r.size by grind,<-DM];rw[show m.length+1+(A-(m.length+1))=A by omega]
     have⟨e3,i3⟩:=Γ.kz (L:=L) (t:=k) (n:=m.length+1) (e:=elem) ρ β γ Ω (.inr ⟨d,θ,AA,a2,rfl⟩);refine⟨w.heap.size,A,C++M++D,elem,(0,0),_,Cy (Bt w) (C++us++D) elem,_,π,?_,U.trans e3,i3,?_,?_,?_,k,⟨(Bt w).heap.size,A,r.size,m.length+1,elem⟩,by simp[AZ.Gu],rfl⟩
     .have α:=HQ (g:=g.Gu k ⟨(Bt w).heap.size,A,r.size,m.length+1,elem⟩) (w:=Cy (Bt w) (C++us++D) elem) (t:=k) (b:=(Bt w).heap.size) (cap:=A) (e:=elem)
       (by simp[AZ.Gu]) (η.mono (U.trans e3).mono (U.trans e3).cell) W β (λo δ=>.inr ⟨rfl,δ⟩) (λq u S=>by
        rw[CI (by rw[Cb]; exact if_pos rfl),C3 (DY S)]; omega)
      rw[W] at α;exact α
     .rw[Cb,if_pos (show w.heap.size=(Bt w).heap.size from rfl),<-B.len,Te M us AA]
     .grind[Gz,Bt]
     .exact⟨by simp[B.len,Ξ,ζ],AO _⟩
  grind
 grind
def gI {E:Env} {L:Ba} {g:AZ} {w:ϙ} {s:AY} (m:Inv E g w s) {t elem T:ϝ} {i:TypeInfo} {y:AV} {U W:ϛ} {id len:Nat} {old C cells:Ϭ} {us:List ϛ}
  (X:E.P.underlying t=Y (.slice elem)) (a0:E.P.info? elem=Y i) (α:i.size≠0) (a9:(zeroOf E.P elem).map List.length=Y i.size)
  (hx:V g w (.ref id 0 len i.size) U) (a1:V g w y W) (ν:DS s i.size y=Y C) (ξ:C.length=i.size) (ο:C.all BS=Z)
  (ζ:s.bs[id]?=Y old) (b0:len*i.size<=old.length) (π:Tel.alive s id=Z) (ρ:(len+1)*i.bytes<=2 ^ 45) (ς:len+1<=2 ^ 45) (S:L.ro<=id)
  (τ:us.length=i.size) (x:VL g w cells us) :
  ∃b cap D e H β wv g',
   (Builtin.append_ #[t,t] T #[U,W]).run E.P w=.ok (.slice (Y ⟨b,0,G⟩) (len+1) cap) β /\
   V g' wv (.ref s.bs.length 0 (len+1) i.size) (.slice (Y ⟨b,0,G⟩) (len+1) cap)/\Ext L g w g' wv/\Inv E g' wv { s with bs:=s.bs.set id []++[old.take (len*i.size)++cells] } /\
   wv.heap[b]?=Y (.cells ⟨Ca D (len*i.size) us⟩ e H)/\β=Bd wv b D e H/\(len*i.size+us.length<=D.length/\H.2<=len*i.size) /\
   g'.blk s.bs.length=Y b:=by
 obtain⟨γ,υ⟩:∃γ,zeroOf E.P elem=Y γ:=by grind[zeroOf]
 have⟨d,a2,b1,φ,_,η⟩:=ET (g:=g) (w:=w) υ;have:d=i:=AB;subst this;have θ:a2.cells.size=d.size:=by rw[<-IZ,<-η.len]; grind
 have⟨n,l,hn,χ,ψ,M⟩:=J4 m a1 α ν
 have ω:n=1:=by
  rw[ξ] at χ;exact(Nat.eq_of_mul_eq_mul_right (Nat.pos_of_ne_zero α) AA).symm
 subst ω;have ε:∀u∈l,u.oneCell'=true:=M.one ο;have a7:l.length=d.size:=by rw[<-M.len]; omega
 have hcells:cells.length=d.size:=by rw[x.len]; omega
 have I:∀k,TypeDesc.slice elem≠.int k:=λk e=>by grind
 cases hx with
 | Jb I=>exact absurd I (m.alive π)
 | @ref _ _ _ _ b cap δ e B a8 a3 Γ=>
  have⟨b2,f,r,k1,k2,b3,k3⟩:=m.blk id b B;rw[ζ] at k1; simp only[BU] at k1; subst k1;have b4:f.length=δ:=by rw[CM k2] at a3; grind
  have k4:VL g w (old.take (len*d.size)) (f.take (len*d.size)):=by
   have:=k3.take (len*d.size)
   grind
  have Δ:(old.take (len*d.size)).length=len*d.size:=AB
  by_cases O:len+1<=cap
  .have Θ:len*d.size+us.length<=f.length:=by
    have:=Be d.size O
    grind
   have b5:=GN (P:=E.P) (b:=b) (o:=len*d.size) (e:=r) l 0 w f ε k2 AA
   have⟨z,A⟩:=m.rN (L:=L) (cs':=old.take (len*d.size)++cells) (vs':=Ca f (len*d.size) us) B k2 (B8 _ _ _) S
    (by grind[B8])
    (by rw[B6,Δ,x.len,LV us f _ Θ]; exact k4.append x)
   refine⟨b,cap,Ca f (len*d.size) l,r,(0,0),Bd w b (Ca f (len*d.size) l) r,Bd w b (Ca f (len*d.size) us) r,_,?_,V.ref (b:=b) (e:=r) (n:=δ) ?_ O ?_ Γ,z,A,?_,?_,?_,?_⟩
   .simp[*,run_append_room,Dl]
   .simp[AZ.GO]
   .grind[CM,Bv,B8]
   .grind[Bv,Wz]
   .exact Er.symm
   all_goals grind[B8,AZ.GO]
  .have Λ:(f.take (len*d.size)).length=len*d.size:=by grind
   have Ξ:(Builtin.firstCells d.size len (.slice (Y ⟨b,0,G⟩) len cap)).run E.P (Bt w)=.ok (List.toArray (f.take (len*d.size))) (Bt w):=by grind[Builtin.firstCells,E2,Bt,CI]
   have⟨ι,j,Φ,Ψ,κ⟩:=run_append_grow (base:=Y ⟨b,0,G⟩) (sCap:=cap) T [] X a0 X I hn (ψ (Bt w) rfl) Ξ φ AA ρ ς;have⟨z,a4⟩:=m.drew (L:=L);have⟨A,a5⟩:=a4.kill (L:=L) B S;have μ:(old.take (len*d.size)++cells).length<=(f.take (len*d.size)++us++j).length:=AB
   have Ω:(f.take (len*d.size)++us++j).take (old.take (len*d.size)++cells).length=f.take (len*d.size)++us:=by
    rw[So AB]
   have⟨e3,i3⟩:=a5.TV (L:=L) (cs:=old.take (len*d.size)++cells) (vs:=f.take (len*d.size)++us++j) elem μ (by rw[Ω]; exact((k4.append x).mono z).mono A);have b6:({ s with bs:=s.bs.set id [] }:AY).bs.length=s.bs.length:=AD;refine⟨w.heap.size,ι,f.take (len*d.size)++l++j,elem,(0,0),_,Cy (Bt w) (f.take (len*d.size)++us++j) elem,_,κ,?_,(z.trans A).trans e3,i3,?_,?_,?_,?_⟩
   .refine V.ref (b:=w.heap.size) (e:=elem) (n:=(f.take (len*d.size)++us++j).length) ?_ Φ ?_ ?_
    .simp[AZ.GO,Bt]
    .exact CM (by rw[Cb]; exact if_pos rfl)
    .simp only[B6,Λ,τ,Ψ,θ]
     have a6:len*d.size+d.size=(len+1)*d.size:=AB;rw[a6,<-DM]
     grind
   all_goals grind[Cb,Bt,Te,Gz,AZ.GO]
theorem ZE {w:ϙ} {b d:Nat} {vs us:List ϛ} {e i:ϝ} {j f:Nat×Nat} (h:b≠d):Bd (Bd w b vs e j) d us i f=Bd (Bd w d us i f) b vs e j:=by
 refine Jp ?_ rfl rfl rfl rfl;exact Array.setIfInBounds_comm _ _ h
def gJ {E:Env} {L:Ba} {g:AZ} {w:ϙ} {s l:AY} (j:Inv E g w s) {t:ϝ} {a x:AV} {m d:ϛ}
  (B:V g w a m) (hx:V g w x d) (h:Og E L s t a x=Y l) :
  ∃id b vs e,(∃off,a=.ptr id off)/\g.blk id=Y b/\Ext L g w g (Bd w b vs e)/\Inv E g (Bd w b vs e) l /\
   ∀f:ϙ,f.heap[b]?=w.heap[b]?->(Instr.storeAt t m d).run E.P f=.ok () (Bd f b vs e):=by
 unfold Og at h;split at h
 .rename_i id off i C
  split at h
  .rename_i D k
   simp only at h;split at h
   .rename_i H
    obtain⟨W,X,I,n,_,S⟩:=H;simp at h; subst h;simp only[Ro] at k;cases B with
    | LS M=>
     have:=j.D3 id M
     grind
    | @ptr _ _ b hb=>
     have⟨T,vs,e,k1,k2,U,k3⟩:=j.blk id b hb;rw[k] at k1; simp at k1; subst k1;have r:=E1 hx n;have y:∀u∈d.cells.toList,u.oneCell'=true:=VL.one r n;have z:d.cells.size=i.size:=by rw[<-IZ,<-r.len]; omega
     have⟨q1,O⟩:=j.putRow (L:=L) (vs':=Ca vs off d.cells.toList) (cs':=setCells D off (cellsOf x)) hb k2 (B8 _ _ _) I (by grind[Fi,B8]) (by grind[Fi,Wu,VL.setCells]);refine⟨id,b,_,e,⟨off,rfl⟩,hb,q1,O,λf A=>?_⟩;simp only[Instr.storeAt,Instr.sureAddr,storeVar,Sem.run_bind,Sem.run_pure,Result.andThen_ok,run_sizeOf C,z,ne_eq,not_true_eq_false,JP];have:=GN (P:=E.P) (b:=b) (o:=off) (e:=e) d.cells.toList 0 f vs y (A.trans k2) AB;omega
   grind
  grind
 grind
def rR {E:Env} {L:Ba} {g:AZ} {w:ϙ} {s:AY} {U:Nat->AV} {a:Act} {o:ϡ} {v:AV} (k:(∃x,o.op=.nilCheck x)\/(∃t x f,o.op=.fieldAddr t x f)\/(∃x,o.op=.move x))
  (e:Inv E g w s) (i:∀t,V g w (U t) (a.tmps.getD t undef)) (h:Jz E L U s o=Y v) :
  ∃b,(∀j:ϙ,(execOp a.eval o).run E.P j=.ok (.value b) j)/\V g w v b:=by
 have h:=Tb h;obtain⟨dst,op,m,pos,l,guard⟩:=o;rcases k with ⟨x,rfl⟩|⟨t,x,f,rfl⟩|⟨x,rfl⟩
 .simp only[C6] at h
  split at h
  .rename_i u d
   simp at h; subst h;exact Mz _ rfl e i d
  grind
 .simp only[C6] at h
  split at h
  .rename_i u d
   simp at h; subst h;have⟨b,n,r⟩:=LU e (A9 i x) d;simp[*,execOp]
  grind
 .simp only[C6,BU,Bg] at h
  obtain⟨rfl,_⟩:=h
  simp_all[execOp,A9]
structure WD (E:Env) (L:Ba) (cf:DH) (ops:Array ϡ) (p:B3) (K N:Nat) (U0 Uf:Nat->AV) (σ:Nat->AY):Prop where
 zH:∀(i:Nat) o e,ops[i]?=Y o->e∈o.after->Region.binds .any e=Z->e.on<i
 pre:∀(i:Nat) o j,ops[i]?=Y o->j∈EP p i->∃e,e∈o.after/\Region.binds .any e=Z/\(e.on=j\/j∈EP p e.on)
 cls:∀(i:Nat) o,ops[i]?=Y o->∃c,p.cls[i]?=Y c
 dst:∀(i j:Nat) oi oj d,ops[i]?=Y oi->ops[j]?=Y oj->oi.dst=Y d->oj.dst=Y d->i=j
 read:∀(i j:Nat) oi oj d,ops[i]?=Y oi->ops[j]?=Y oj->oj.dst=Y d->d∈HR ops oi++Gg oi ->
  (has (H8 p.LL i) d=Z/\(j=i\/i∈EP p j))\/(has (H8 p.LL i) d=ϴ/\j∈EP p i)
 rk:∀(i j:Nat) oi oj r r',ops[i]?=Y oi->ops[j]?=Y oj->FU p i=Y r->FU p j=Y r'->r<r'->i∈EP p j
 ABO:∀(i j:Nat) oi oj r,ops[i]?=Y oi->ops[j]?=Y oj->FU p i=Y r->FU p j=Y r->i=j
 AEy:∀k,k<K->∃(i:Nat) (o:ϡ),ops[i]?=Y o/\FU p i=Y k
 AEz:∀(i:Nat) o r,ops[i]?=Y o->FU p i=Y r->r<K
 time:∀(i:Nat) o ts,ops[i]?=Y o->(p.cls[i]?=Y (.q ts)\/p.cls[i]?=Y (.h ts))->∀k,k<=K->k∉ts ->
  ∃(j:Nat) (oj:ϡ) (r:Nat),ops[j]?=Y oj/\FU p j=Y r/\((j∈EP p i/\k<=r)\/(i∈EP p j/\r<k))
 rS:∀(i:Nat) o r (j x:Nat),ops[i]?=Y o->p.cls[i]?=Y (.fa r j x)->∃o1 o2 k,ops[j]?=Y o1/\ops[x]?=Y o2/\p.cls[j]?=Y .fj/\p.cls[x]?=Y .fx/\fused o o1 o2=Y k /\
  H8 p.LL i=[]/\H8 p.LL j=[]/\H8 p.LL x=[]/\i∈EP p j/\j∈EP p x/\i∈EP p x /\
  ∃v,LQ E L Uf (σ r) k=Y (v,σ (r+1))/\Uf k.d=v/\Uf k.p=.Gy
 win:∀(i:Nat) o r (j x:Nat),ops[i]?=Y o->p.cls[i]?=Y (.fa r j x)->∀(m:Nat) om,ops[m]?=Y om->m≠i->m≠j->m≠x ->
  (m∈EP p i\/x∈EP p m\/Y8 ops p m=Z)/\∀d,om.dst=Y d->(d∈EW ops j\/d∈EW ops x)->m∈EP p i
 mu:∀(i:Nat) o r (j x d Mv off len sz:Nat),Qn E L ops i j x=Z->ops[i]?=Y o->p.cls[i]?=Y (.fa r j x)->o.dst=Y d->Uf d=.ref Mv off len sz->∀(m:Nat) om r' t y z,ops[m]?=Y om->p.cls[m]?=Y (.w r')->om.op=.store t y z ->
  ∀id off',A1 (F3 p.LL U0 Uf m) y=.ptr id off'->id≠Mv
 ALj:∀(j:Nat) oj,ops[j]?=Y oj->p.cls[j]?=Y .fj->∃(i:Nat) (o:ϡ) (r x:Nat),ops[i]?=Y o/\p.cls[i]?=Y (.fa r j x)
 ALk:∀(x:Nat) ox,ops[x]?=Y ox->p.cls[x]?=Y .fx->∃(i:Nat) (o:ϡ) (r j:Nat),ops[i]?=Y o/\p.cls[i]?=Y (.fa r j x)
 out:∀t,(∀(i:Nat) o,ops[i]?=Y o->o.dst≠Y t)->Uf t=U0 t
 rT:∀(i:Nat) o d,ops[i]?=Y o->o.dst=Y d->d<N
 wF:∀(i:Nat) o r,ops[i]?=Y o->p.cls[i]?=Y (.w r)->∃v,Oi E L cf ops (F3 p.LL U0 Uf i) (σ r) o=Y (v,σ (r+1))/\∀d,o.dst=Y d->Uf d=v
 qF:∀(i:Nat) o ts k,ops[i]?=Y o->p.cls[i]?=Y (.q ts)->k∈ts->∃v,Fa E L ops (F3 p.LL U0 Uf i) (σ k) o=Y v/\∀d,o.dst=Y d->Uf d=v
 hF:∀(i:Nat) o ts,ops[i]?=Y o->p.cls[i]?=Y (.h ts)->o.guard=G/\∃d cs mk id,o.dst=Y d/\hcells E (F3 p.LL U0 Uf i) o=Y (cs,mk)/\Uf d=mk id/\∀k∈ts,(σ k).bs[id]?=Y cs
 ALl:∀(i j:Nat) oi oj ts us d e id,ops[i]?=Y oi->ops[j]?=Y oj->p.cls[i]?=Y (.h ts)->p.cls[j]?=Y (.h us)->oi.dst=Y d->oj.dst=Y e->KY (Uf d)=Y id->KY (Uf e)=Y id->i=j
section
variable {E:Env} {L:Ba} {cf:DH} {ops:Array ϡ} {p:B3} {K N:Nat} {U0 Uf:Nat->AV} {σ:Nat->AY}
def WD.rU (R:WD E L cf ops p K N U0 Uf σ):∀i o j,ops[i]?=Y o->j∈EP p i->j<i:=by
 intro i
 induction i using Nat.strongRecOn with
 | ind i l=>
  intro o j b d;have⟨e,f,hb,h⟩:=R.pre i o j b d;have k:=R.zH i o e b f hb
  grind
def Down (ops:Array ϡ) (D:Nat->Prop):Prop:=∀(i:Nat) o e,ops[i]?=Y o->D i->e∈o.after->Region.binds .any e=Z->D e.on
def WD.MA (R:WD E L cf ops p K N U0 Uf σ) {D:Nat->Prop} (s:Down ops D):∀i o j,ops[i]?=Y o->(∀e∈o.after,Region.binds .any e=Z->D e.on)->j∈EP p i->D j:=by
 intro i
 induction i using Nat.strongRecOn with
 | ind i t=>
  intro o j f u x;have⟨e,k,hb,h⟩:=R.pre i o j f x;have l:=R.zH i o e f k hb;have m:=u e k hb;rcases h with rfl|h
  .omega
  .have⟨b,d⟩:∃b,ops[e.on]?=Y b:=⟨ops[e.on]'(AB),AD⟩
   exact t e.on l b j d (λy n r=>s e.on b y d m n r) h
def WD.M0 (R:WD E L cf ops p K N U0 Uf σ) {D:Nat->Prop} (b:Down ops D) {i j:Nat} {o:ϡ} (d:ops[i]?=Y o) (f:D i) (k:j∈EP p i):D j:=
 R.MA b i o j d (λe l hb=>b i o e d f l hb) k
open Classical in
noncomputable def rho (ops:Array ϡ) (U0 Uf:Nat->AV) (D:Nat->Prop) (t:Nat):AV:=if ∃(i:Nat) (o:ϡ),ops[i]?=Y o/\o.dst=Y t/\D i then Uf t else U0 t
theorem Tf {D:Nat->Prop} {t i:Nat} {o:ϡ} (b:ops[i]?=Y o) (d:o.dst=Y t) (e:D i):rho ops U0 Uf D t=Uf t:=if_pos ⟨i,o,b,d,e⟩
theorem S4 {D:Nat->Prop} {t:Nat} (h:∀(i:Nat) (o:ϡ),ops[i]?=Y o->o.dst=Y t->¬ D i):rho ops U0 Uf D t=U0 t:=if_neg (λ⟨i,o,b,d,e⟩=>h i o b d e)
def WD.Tg (R:WD E L cf ops p K N U0 Uf σ) {D:Nat->Prop} {t:Nat} (h:∀(i:Nat) (o:ϡ),ops[i]?=Y o->o.dst≠Y t):rho ops U0 Uf D t=Uf t:=by
 rw[S4 (λi o b d=>absurd d (h i o b)),R.out t h]
def WD.agree (R:WD E L cf ops p K N U0 Uf σ) {D:Nat->Prop} (r:Down ops D) {i:Nat} {o:ϡ} (s:ops[i]?=Y o) (hn:¬ D i) (z:∀e∈o.after,Region.binds .any e=Z->D e.on) :
  ∀t∈HR ops o++Gg o,rho ops U0 Uf D t=F3 p.LL U0 Uf i t:=by
 intro t A;unfold F3
 by_cases u:∃(j:Nat) (b:ϡ),ops[j]?=Y b/\b.dst=Y t
 .obtain⟨j,b,d,f⟩:=u
  rcases R.read i j o b t s d f A with ⟨l,h2⟩|⟨l,h2⟩
  .rw[l,AQ]
   refine S4 λk ok m x y=>?_
   have:k=j:=R.dst k j ok b t m d x f;subst this;rcases h2 with rfl|h2
   .grind
   .exact hn (R.M0 r m y h2)
  .rw[l,AL]
   exact Tf d f (R.MA r i o j s z h2)
 .have n:∀(j:Nat) (b:ϡ),ops[j]?=Y b->b.dst≠Y t:=λj b d f=>u ⟨j,b,d,f⟩
  rw[R.Tg n];cases has (H8 p.LL i) t with
  | true=>rw[AQ,R.out t n]
  | false=>rfl
end
def Open (P:ϟ) (q:AV) (X:Prop) (i:JX) (z:Prop) (a:Act) (g:AZ) (w wv:ϙ):Prop:=
 ∃(b x len:Nat) (o:List ϛ) (e:ϝ) (r:Nat×Nat) (j:ϛ) (A:IntKind) (m:ϝ) (f:TypeInfo),
  P.underlying i.t=Y (.slice m)/\P.info? m=Y f/\i.te=m /\
  a.eval (.tmp i.d)=.slice (Y ⟨b,0,G⟩) (len+1) x/\a.eval i.ix=.int A (len:Int)/\a.eval i.v=j/\j.cells.size=f.size/\(∀u∈j.cells.toList,u.oneCell'=Z) /\
  wv.heap[b]?=Y (.cells ⟨Ca o (len*f.size) j.cells.toList⟩ e r)/\w=Bd wv b o e r/\(len*f.size+f.size<=o.length/\r.2<=len*f.size)/\((∃k l,g.tok k=Y l/\l.b=b)\/∃s y n sz,q=.ref s y n sz/\g.blk s=Y b/\X) /\
  (z->a.eval (.tmp i.p)=.pointer (Y ⟨b,len*f.size,G⟩))
def OI (ops:Array ϡ) (p:B3) (D:Nat->Prop) (i:Nat):Prop:=∀(b:Nat) e f (j d:Nat),ops[b]?=Y e->p.cls[b]?=Y (.fa f j d)->D b->b≠i->D d
def Window (E:Env) (L:Ba) (Uf:Nat->AV) (ops:Array ϡ) (p:B3) (D:Nat->Prop) (a:Act) (g:AZ) (w wv:ϙ):Prop:=
 (w=wv/\∀i,OI ops p D i) \/
 ∃(i:Nat) (o:ϡ) (r j x:Nat) (e f:ϡ) (b:JX),ops[i]?=Y o/\p.cls[i]?=Y (.fa r j x)/\ops[j]?=Y e/\ops[x]?=Y f/\fused o e f=Y b/\D i/\¬ D x /\
  OI ops p D i/\Open E.P (Uf b.d) (Qn E L ops i j x=Z) b (D j) a g w wv
structure Core (E:Env) (L:Ba) (ops:Array ϡ) (p:B3) (K N:Nat) (U0 Uf:Nat->AV) (σ:Nat->AY) (ds:List Deferred) (g0:AZ) (w0:ϙ) (D:Nat->Prop) (a:Act) (k:Nat) (g:AZ) (wv:ϙ):Prop where
 kK:k<=K
 time:∀(i:Nat) o r,ops[i]?=Y o->FU p i=Y r->(D i<->r<k)
 size:a.tmps.size=N
 defers:a.defers=ds
 ext:Ext L g0 w0 g wv
 inv:Inv E g wv (σ k)
 tmps:∀t,V g wv (rho ops U0 Uf D t) (a.tmps.getD t undef)
 Db:∀(i:Nat) o ts d id,ops[i]?=Y o->p.cls[i]?=Y (.h ts)->o.dst=Y d->KY (Uf d)=Y id->¬ D i->g.Db id
def J (E:Env) (L:Ba) (ops:Array ϡ) (p:B3) (K N:Nat) (U0 Uf:Nat->AV) (σ:Nat->AY) (ds:List Deferred) (g0:AZ) (w0:ϙ) (D:Nat->Prop) (a:Act) (w:ϙ):Prop:=
 ∃k g b,Core E L ops p K N U0 Uf σ ds g0 w0 D a k g b/\Window E L Uf ops p D a g w b
theorem Th (a:Act) (d:Option Tmp) (v:ϛ):(a.put d v).tmps.size=a.tmps.size:=by cases d <;> simp[Act.put]
theorem put_defers (a:Act) (d:Option Tmp) (v:ϛ):(a.put d v).defers=a.defers:=by cases d <;> rfl
def J6 {a:Act} {d:Nat} {v:ϛ} (h:d<a.tmps.size):(a.put (Y d) v).tmps.getD d undef=v:=by simp[Act.put,h]
def Qv {a:Act} {d:Option Tmp} {v:ϛ} {t:Nat} (h:d≠Y t):(a.put d v).tmps.getD t undef=a.tmps.getD t undef:=by
 cases d with
 | none=>rfl
 | some d=>
  simp_all[Act.put]
section
variable {E:Env} {L:Ba} {cf:DH} {ops:Array ϡ} {p:B3} {K N:Nat} {U0 Uf:Nat->AV} {σ:Nat->AY} {ds:List Deferred} {g0:AZ} {w0:ϙ}
def Core.push (R:WD E L cf ops p K N U0 Uf σ) {D:Nat->Prop} {a:Act} {k k':Nat} {g g':AZ} {wv wv':ϙ} (h:Core E L ops p K N U0 Uf σ ds g0 w0 D a k g wv) {m:Nat} {om:ϡ} (hm:ops[m]?=Y om)
  (hk:(FU p m=G/\k'=k)\/(FU p m=Y k/\k'=k+1)) (AVw:Ext L g0 w0 g' wv') (hmono:∀x u,V g wv x u->V g' wv' x u) (hinv:Inv E g' wv' (σ k')) {v':ϛ}
  (hv:∀d,om.dst=Y d->V g' wv' (Uf d) v')
  (ALn:∀(i:Nat) o ts d id,ops[i]?=Y o->p.cls[i]?=Y (.h ts)->o.dst=Y d->KY (Uf d)=Y id->¬ D i->i≠m->g'.Db id) :
  Core E L ops p K N U0 Uf σ ds g0 w0 (λi=>D i\/i=m) (a.put om.dst v') k' g' wv' where
 kK:=by
  rcases hk with ⟨_,rfl⟩|⟨h1,rfl⟩
  .exact h.kK
  .exact R.AEz m om k hm h1
 time:=λi o r ho hr=>by
  have ht:=h.time i o r ho hr;rcases hk with ⟨h1,rfl⟩|⟨h1,rfl⟩
  .grind
  .by_cases hi:i=m
   .grind
   .have:r≠k:=λe=>hi (R.ABO i m o om r ho hm hr (e ▸ h1))
    grind
 size:=by rw[Th]; exact h.size
 defers:=by rw[put_defers]; exact h.defers
 ext:=AVw
 inv:=hinv
 tmps:=λt=>by
  by_cases ht:om.dst=Y t
  .rw[Tf hm ht (.inr rfl),ht,J6 (by rw[h.size]; exact R.rT m om t hm ht)]
   grind
  .rw[Qv ht]
   have:rho ops U0 Uf (λi=>D i\/i=m) t=rho ops U0 Uf D t:=by
    by_cases hx:∃(i:Nat) (o:ϡ),ops[i]?=Y o/\o.dst=Y t/\D i
    all_goals grind[Tf,S4]
   rw[this];exact hmono _ _ (h.tmps t)
 Db:=λi o ts d id ho hc hd hid hn=>ALn i o ts d id ho hc hd hid (λx=>hn (.inl x)) (λx=>hn (.inr x))
def Core.now (R:WD E L cf ops p K N U0 Uf σ) {D:Nat->Prop} {a:Act} {k:Nat} {g:AZ} {wv:ϙ} (h:Core E L ops p K N U0 Uf σ ds g0 w0 D a k g wv) (j:Down ops D) {m r:Nat} {om:ϡ} (hm:ops[m]?=Y om) (hn:¬ D m)
  (l:∀e∈om.after,Region.binds .any e=Z->D e.on) (b:FU p m=Y r):r=k:=by
 have n:k<=r:=by
  rcases Fv r k with x|x
  .exact absurd ((h.time m om r hm b).2 x) hn
  omega
 rcases Fv k r with x|x
 .have⟨i,o,d,f⟩:=R.AEy k (by have:=R.AEz m om r hm b; omega)
  have:=(h.time i o k d f).1 (R.MA j m om i hm l (R.rk i m o om k r d hm f b x));omega
 omega
def Core.rV (R:WD E L cf ops p K N U0 Uf σ) {D:Nat->Prop} {a:Act} {k:Nat} {g:AZ} {wv:ϙ} (h:Core E L ops p K N U0 Uf σ ds g0 w0 D a k g wv) (f:Down ops D) {m:Nat} {om:ϡ} {ts:Ϟ} (hm:ops[m]?=Y om) (hn:¬ D m)
  (l:∀e∈om.after,Region.binds .any e=Z->D e.on) (n:p.cls[m]?=Y (.q ts)\/p.cls[m]?=Y (.h ts)):k∈ts:=by
 rcases Classical.em (k∈ts) with x|x
 .exact x
 .obtain⟨j,i,r,b,d,h1|h1⟩:=R.time m om ts hm n k h.kK x
  .have:=(h.time j i r b d).1 (R.MA f m om j hm l h1.1)
   omega
  .exact absurd (R.M0 f b ((h.time j i r b d).2 h1.2) h1.1) hn
def OI.more {D:Nat->Prop} {m i:Nat} {om:ϡ} (hm:ops[m]?=Y om) (t:∀r j x,p.cls[m]?≠Y (.fa r j x)) (h:OI ops p D i):OI ops p (λi=>D i\/i=m) i:=by
 intro e f k l n o s b d;rcases b with b|rfl
 .exact .inl (h e f k l n o s b d)
 grind
end
def LW {rd:Option Nat} {P:ϟ} {ops:Array ϡ} {Q:Exit->Act->ϙ->Prop} {m:Nat} {om:ϡ} {K:Act->ϙ->Prop} {a:Act} {w:ϙ} (hm:ops[m]?=Y om)
  (b:Region.wanted om (yielded ops a.tmps)=Z) (h:om.wpIn (FW rd) 0 P a w K Q):wpOpIn (FW rd) 0 P ops Q m K a w:=by grind[wpOpIn]
def S5 {rd:Option Nat} {P:ϟ} {ops:Array ϡ} {Q:Exit->Act->ϙ->Prop} {m:Nat} {om:ϡ} {K:Act->ϙ->Prop} {a:Act} {w:ϙ} (hm:ops[m]?=Y om)
  (b:Region.wanted om (yielded ops a.tmps)=ϴ) (h:K (a.put om.dst undef) w):wpOpIn (FW rd) 0 P ops Q m K a w:=by
 simp only[wpOpIn,hm,b,Dj,JP];exact⟨λ_ _=>trivial,h⟩
def Nz {rd:Option Nat} {P:ϟ} {ops:Array ϡ} {Q:Exit->Act->ϙ->Prop} {m:Nat} {om:ϡ} {K:Act->ϙ->Prop} {a:Act} {w w':ϙ} {v:ϛ} (hm:ops[m]?=Y om)
  (d:om.guard=G) (b:(execOp a.eval om).run P w=.ok (.value v) w') (h:K (a.put om.dst v) w'):wpOpIn (FW rd) 0 P ops Q m K a w:=
 LW hm (by grind[Region.wanted]) (Kn b h)
def bF {E:Env} {L:Ba} {cf:DH} {U:Nat->AV} {s:AY} {o:ϡ} {v:AV} (h:Jz E L U s o=Y v):Oh E L cf U s o=Y (v,s):=by grind[Tb,Pa,oY,C6]
def Gh {o f i:ϡ} {b:JX} (h:fused o f i=Y b) :
  o.op=.call { callee:=.builtin .append,args:=#[b.x,b.y],argTypes:=#[b.t,b.t] }/\o.dst=Y b.d/\f.op=.indexAddr b.t (.tmp b.d) b.ix/\f.dst=Y b.p /\
  i.op=.store b.te (.tmp b.p) b.v/\i.dst=G/\b.d≠b.p/\(o.guard=G/\f.guard=G/\i.guard=G)/\b.ix≠.tmp b.d/\b.v≠.tmp b.d/\b.v≠.tmp b.p:=by
 unfold fused at h;split at h
 .rename_i j ts d H I M p O S v T U u A B C
  split at h
  .rename_i x y t k n r
   split at h
   .rename_i s
    obtain⟨rfl,rfl,rfl,rfl,D,W,X,α,β,γ,δ,_⟩:=s;simp at h;subst h;have l:j=#[x,y]:=by rw[<-Hi (xs:=j),n]
    have m:ts=#[k,k]:=by rw[<-Hi (xs:=ts),r]
    subst l m;have hn:∀(z:ϧ) (q:Nat),Mg z q=ϴ->z≠.tmp q:=λz q ε e=>by simp_all[Mg]
    simp_all
   grind
  grind
 grind
def Rt {o f i:ϡ} {b:JX} (h:fused o f i=Y b):∀z,z=b.x\/z=b.y\/z=b.ix\/z=b.v->z≠.tmp b.d/\z≠.tmp b.p:=by
 unfold fused at h;split at h
 .split at h
  .split at h
   .rename_i j
    obtain⟨rfl,rfl,rfl,rfl,k,l,m,n,r,s,t,u,A,B,C,D⟩:=j;simp at h;subst h;have hn:∀(z:ϧ) (q:Nat),Mg z q=ϴ->z≠.tmp q:=λz q H e=>by simp_all[Mg]
    grind
   grind
  grind
 grind
theorem Ew {a:Act} {d:Option Tmp} {v:ϛ} {z:ϧ} (h:∀t,z=.tmp t->d≠Y t):(a.put d v).eval z=a.eval z:=by
 cases z with
 | tmp t=>exact Qv (h t rfl)
 | const c=>rfl
 | global g=>rfl
 | func f=>rfl
section
variable {rd:Option Nat} {E:Env} {L:Ba} {cf:DH} {ops:Array ϡ} {p:B3} {K N:Nat} {U0 Uf:Nat->AV} {σ:Nat->AY} {ds:List Deferred} {g0:AZ} {w0:ϙ} {Q:Exit->Act->ϙ->Prop}
def K7 {m r:Nat} (h:p.cls[m]?=Y (.w r)):FU p m=Y r:=by grind[FU,Kk]
def Ko {m r j x:Nat} (h:p.cls[m]?=Y (.fa r j x)):FU p m=Y r:=by grind[FU,Kk]
def Qw {m:Nat} {ts:Ϟ} (h:p.cls[m]?=Y (.q ts)):FU p m=none:=by grind[FU,Kk]
def rW {m:Nat} {ts:Ϟ} (h:p.cls[m]?=Y (.h ts)):FU p m=none:=by grind[FU,Kk]
def lB {m:Nat} (h:p.cls[m]?=Y .fj):FU p m=none:=by grind[FU,Kk]
def lC {m:Nat} (h:p.cls[m]?=Y .fx):FU p m=none:=by grind[FU,Kk]
def WD.AE0 (R:WD E L cf ops p K N U0 Uf σ) {D:Nat->Prop} (M:Down ops D) {m r j x:Nat} {om:ϡ} (hm:ops[m]?=Y om) (O:p.cls[m]?=Y (.fa r j x)) (S:∀e∈om.after,Region.binds .any e=Z->D e.on)
  {k n:ϡ} {b:JX} (l:ops[j]?=Y k) (δ:ops[x]?=Y n) (hf:fused om k n=Y b) (ε:H8 p.LL m=[]) (ζ:H8 p.LL j=[]) :
  ∀z,z=b.x\/z=b.y\/z=b.ix\/z=b.v->A1 Uf z=A1 (rho ops U0 Uf D) z:=by
 have⟨η,θ,ι,s,κ,μ,ν,ξ,ο,α,β⟩:=Gh hf;intro z π;refine Kl λt T=>?_
 subst T
 by_cases u:∃(i:Nat) (o:ϡ),ops[i]?=Y o/\o.dst=Y t
 .obtain⟨i,A,d,f⟩:=u
  have H:i∈EP p m:=by
   by_cases γ:Operand.tmp t=b.x\/Operand.tmp t=b.y
   .have:t∈Gg om:=Dv.2 (by grind[Op.operands,Call.operands])
    rcases R.read m i om A t hm d f (JQ _ this) with ⟨q1,_⟩|⟨_,B⟩
    all_goals grind[has]
   .have I:Operand.tmp t=b.ix\/Operand.tmp t=b.v:=by grind
    by_cases U:i=m
    .grind
    by_cases C:i=j
    .subst C
     rw[l] at d; simp at d; subst d;rw[s] at f; simp at f; subst f;rcases I with e|e
     .have:b.p∈Gg k:=Dv.2 (by grind[Op.operands])
      rcases R.read i i k k b.p l l s (JQ _ this) with ⟨q1,_⟩|⟨_,B⟩
      .grind[has]
      .exact absurd (R.rU i k i l B) (PS _)
     grind
    by_cases e3:i=x
    .grind
    refine(R.win m om r j x hm O i A d U C e3).2 t f ?_
    grind[EW,Dv,Op.operands]
  exact(Tf d f (R.MA M m om i hm S H)).symm
 .exact(R.Tg λi o W X=>u ⟨i,o,W,X⟩).symm
theorem bG (R:WD E L cf ops p K N U0 Uf σ) (hcf:IL E L cf) {D:Nat->Prop} (A:Down ops D) {a:Act} {k:Nat} {g:AZ} {w:ϙ} (h:Core E L ops p K N U0 Uf σ ds g0 w0 D a k g w) (η:∀i,OI ops p D i)
  (hnp:∀(i:Nat) o ts d id,ops[i]?=Y o->p.cls[i]?=Y (.h ts)->o.dst=Y d->KY (Uf d)=Y id->¬ g0.Db id)
  {m:Nat} {om:ϡ} (hm:ops[m]?=Y om) (hn:¬ D m) (O:∀e∈om.after,Region.binds .any e=Z->D e.on) :
  wpOpIn (FW rd) 0 E.P ops Q m (J E L ops p K N U0 Uf σ ds g0 w0 (λi=>D i\/i=m)) a w:=by
 have ω:=R.agree A hm hn O;have⟨c,f⟩:=R.cls m om hm;have φ:(∀r j x,p.cls[m]?≠Y (.fa r j x))->∀i,OI ops p (λi=>D i\/i=m) i:=λhnf i=>OI.more hm hnf (η i)
 have γ:∀(u:AZ),(∀id,g.Db id->u.Db id)->∀(i:Nat) o ts d id,ops[i]?=Y o->p.cls[i]?=Y (.h ts)->o.dst=Y d->KY (Uf d)=Y id->¬ D i->i≠m->u.Db id:=
  λu C i o ts d id I H B hid Γ _=>C id (h.Db i o ts d id I H B hid Γ)
 cases c with
 | w r=>
  have b4:=h.now R A hm hn O (K7 f);subst b4;have⟨v,δ,hv⟩:=R.wF m om r hm f;rw[<-On ω] at δ;unfold Oi at δ;have μ:=φ (λ_ _ _ e=>by grind);split at δ
  .rename_i C
   refine LW hm (Di h.tmps C) (Oq hcf h.inv h.tmps δ λv' b5 u b6 U b7=>?_);exact⟨r+1,u,b5,h.push R hm (.inr ⟨K7 f,rfl⟩) (h.ext.trans U) (λ_ _ q=>q.mono U) b7 (λd B=>by grind) (γ u U.Db),.inl ⟨rfl,μ⟩⟩
  .rename_i C
   simp only[BU,Bg] at δ;obtain⟨rfl,hst⟩:=δ;refine S5 hm (Di h.tmps C) ?_;exact⟨r+1,g,w,h.push R hm (.inr ⟨K7 f,rfl⟩) h.ext (λ_ _ q=>q) (hst ▸ h.inv) (λd B=>by grind[V.undef]) (γ g λ_ q=>q),.inl ⟨rfl,μ⟩⟩
  grind
 | q ts=>
  have⟨v,ε,hv⟩:=R.qF m om ts k hm f (h.rV R A hm hn O (.inl f));rw[<-Jc ω] at ε;unfold Fa at ε;have μ:=φ (λ_ _ _ e=>by grind);split at ε
  .rename_i C
   refine LW hm (Di h.tmps C) (Oq hcf h.inv h.tmps (bF ε) λv' b5 u b6 U b7=>?_);exact⟨k,u,b5,h.push R hm (.inl ⟨Qw f,rfl⟩) (h.ext.trans U) (λ_ _ q=>q.mono U) b7 (λd B=>by grind) (γ u U.Db),.inl ⟨rfl,μ⟩⟩
  .rename_i C
   simp only[BU] at ε;subst ε;refine S5 hm (Di h.tmps C) ?_;exact⟨k,g,w,h.push R hm (.inl ⟨Qw f,rfl⟩) h.ext (λ_ _ q=>q) h.inv (λd B=>by grind[V.undef]) (γ g λ_ q=>q),.inl ⟨rfl,μ⟩⟩
  grind
 | h ts=>
  have⟨C,d,cs,mk,id,B,hh,hmk,qm⟩:=R.hF m om ts hm f;have hcs:=qm k (h.rV R A hm hn O (.inr f));rw[<-Pe (λt ht=>ω t (JQ _ ht))] at hh;have⟨vs,e,mv,ζ,M,b6,hid⟩:=ZD h.tmps hh;have ALo:g.Db id:=h.Db m om ts d id hm f B AB hn;have⟨W,ν,X⟩:=h.inv.EJ id ALo;have⟨e2,i2⟩:=h.inv.fill (L:=L) (id:=id) (q:=λi=>g.Db i/\i≠id) (cs:=cs) (vs:=vs) (λ_=>Iff.rfl) e W ν X (λb hb=>(h.inv.Mh id b hb).2.2 ALo) hcs M.full.1 M.full.2;have e1:Ext L g0 w0 (g.CX λi=>g.Db i/\i≠id) w:=h.ext.CX λi hi=>⟨h.ext.Db i hi,λq=>hnp m om ts d id hm f B AB (q ▸ hi)⟩
  refine Nz hm C ζ ⟨k,_,_,h.push R hm (.inl ⟨rW f,rfl⟩) (e1.trans e2) (λ_ _ q=>q.CX.mono e2) i2 (λb8 Δ=>?_) ?_,.inl ⟨rfl,φ (λ_ _ _ e=>by grind)⟩⟩
  .rw[B] at Δ; simp at Δ; subst Δ
   rw[hmk];exact b6 _ _ id w.heap.size (by simp[AZ.GO]) (CM (by rw[Cb]; exact if_pos rfl))
  .intro i o ts' b8 id' I H hdi ALp Γ θ
   refine⟨h.Db i o ts' b8 id' I H hdi ALp Γ,λq=>θ ?_⟩;subst q;exact R.ALl i m o om ts' ts b8 d id' I hm H f hdi B ALp AB
 | fa r j x=>
  have b4:=h.now R A hm hn O (Ko f);subst b4;have⟨ρ,ς,s,α,S,c1,c2,hf,b9,w2,w3,W,ν,X,v,l,hvd,hvp⟩:=R.rS m om r j x hm f;have ο:=R.AE0 A hm f O α S hf b9 w2;have⟨f1,τ,f3,f4,f5,f6,f7,f8,f9,f10,f11⟩:=Gh hf;have π:=A9 h.tmps s.x;have Θ:=A9 h.tmps s.y;have Λ:=A9 h.tmps s.ix;have Ξ:=A9 h.tmps s.v;rw[<-ο _ (.inl rfl)] at π;rw[<-ο _ (.inr (.inl rfl))] at Θ;rw[<-ο _ (.inr (.inr (.inl rfl)))] at Λ;rw[<-ο _ (.inr (.inr (.inr rfl)))] at Ξ;cases hfa:Jy E L Uf (σ r) s with
  | some res=>
   have l:Jy E L Uf (σ r) s=Y (v,σ (r+1)):=by grind[LQ]
   unfold Jy at l;split at l
   .rename_i χ ξ
    split at l
    .rename_i Φ
     split at l
     .rename_i ti rows z n row ι hrows hz Ψ hrow
      split at l
      .rename_i ψ
       obtain⟨q1,q2,q3,q4,q5,q6,q7⟩:=ψ;have M:=E1 Ξ q4;have⟨t1,t2⟩:=HO M hrow;have⟨b,κ,vz,e,fz,Ω,a0,u,a1,a2,β,υ,a5,a6,a7,a8⟩:=My (T:=om.type) h.inv ξ ι q6 q7 π hrows Θ hz q2 q5 (us:=(a.eval s.v).cells.toList) AA q3 t2 l;have⟨kk,hix⟩:=Fc Λ Ψ;have ζ:(execOp a.eval om).run E.P w=.ok (.value (.slice (Y ⟨b,0,G⟩) (rows.length+1) κ)) Ω:=by simp[*,execOp,resolve,invoke,builtin]
       have a9:¬ (D j\/j=m):=λq=>q.elim (λq=>hn (R.M0 A α q W)) (λq=>by grind)
       have b0:¬ (D x\/x=m):=λq=>q.elim (λq=>hn (R.M0 A S q X)) (λq=>by grind)
       refine Nz hm f8.1 ζ ⟨r+1,u,a0,h.push R hm (.inr ⟨Ko f,rfl⟩) (h.ext.trans β) (λ_ _ q=>q.mono β) υ (λd B=>?_) (γ u β.Db),.inr ?_⟩
       .grind
       .refine⟨m,om,r,j,x,ρ,ς,s,hm,f,α,S,hf,.inr rfl,b0,?_,b,κ,rows.length,vz,e,fz,a.eval s.v,kk,χ,ti,ξ,ι,Φ.2,?_,?_,?_,?_,?_,a5,a6,?_,.inl a8,λq=>absurd q a9⟩
        .intro i' o' r' j' x' b1 b2 hi' θ
         rcases hi' with hi' | hi'
         .exact .inl (η m i' o' r' j' x' b1 b2 hi' θ)
         omega
        .rw[τ]; exact J6 (by rw[h.size]; exact R.rT m om s.d hm τ)
        .grind[Ew]
        all_goals grind[Ew,VL.one]
      grind
     grind
    grind
   grind
  | none=>
   unfold LQ at l;rw[hfa] at l;simp only at l;unfold Wr at l;split at l
   .rename_i χ ξ
    split at l
    .rename_i Φ
     split at l
     .rename_i ti id off len sz n ι hxe Ψ
      split at l
      .rename_i zs old hzs hold
       split at l
       .rename_i ψ
        obtain⟨q1,q2,q3,q4,q5,q6,q7,rfl,rfl,q8,q9,q10,q11,q12⟩:=ψ;simp only[BU,Bg] at l;obtain⟨hfv,hfs⟩:=l;have M:=E1 Ξ q4;rw[hxe] at π;have⟨b,κ,vz,e,fz,Ω,a0,u,a1,a2,β,υ,a5,a6,a7,a8⟩:=gI (L:=L) (T:=om.type) h.inv ξ ι q6 q7 π Θ hzs q2 q5 hold q8 q9 q10 q11 q12 (us:=(a.eval s.v).cells.toList) (by rw[<-M.len]; omega) M;rw[hfs] at υ;have⟨kk,hix⟩:=Fc Λ Ψ;have ζ:(execOp a.eval om).run E.P w=.ok (.value (.slice (Y ⟨b,0,G⟩) (len+1) κ)) Ω:=by simp[*,execOp,resolve,invoke,builtin]
        have a9:¬ (D j\/j=m):=λq=>q.elim (λq=>hn (R.M0 A α q W)) (λq=>by grind)
        have b0:¬ (D x\/x=m):=λq=>q.elim (λq=>hn (R.M0 A S q X)) (λq=>by grind)
        refine Nz hm f8.1 ζ ⟨r+1,u,a0,h.push R hm (.inr ⟨Ko f,rfl⟩) (h.ext.trans β) (λ_ _ q=>q.mono β) υ (λd B=>?_) (γ u β.Db),.inr ?_⟩
        .grind
        .refine⟨m,om,r,j,x,ρ,ς,s,hm,f,α,S,hf,.inr rfl,b0,?_,b,κ,len,vz,e,fz,a.eval s.v,kk,χ,ti,ξ,ι,Φ.2,?_,?_,?_,?_,?_,a5,a6,?_,.inr ⟨_,_,_,_,by rw[hvd]; exact hfv.symm,a8,by grind[Qn]⟩,λq=>absurd q a9⟩
         .intro i' o' r' j' x' b1 b2 hi' θ
          rcases hi' with hi' | hi'
          .exact .inl (η m i' o' r' j' x' b1 b2 hi' θ)
          omega
         .rw[τ]; exact J6 (by rw[h.size]; exact R.rT m om s.d hm τ)
         .grind[Ew]
         .grind[Ew]
         .rw[<-IZ,<-M.len]; omega
         .grind[VL.one]
         .have:=a7; rw[<-M.len,q3] at this; omega
       grind
      grind
     grind
    grind
   grind
 | fj=>
  have⟨i,o,r,x,I,H⟩:=R.ALj m om hm f;have⟨ρ,ς,s,α,S,c1,c2,hf,b9,w2,w3,W,ν,X,_⟩:=R.rS i o r m x I H;have b3:=R.MA A m om i hm O W;have hDx:=η m i o r m x I H b3 (λe=>by grind);exact absurd (R.M0 A S hDx ν) hn
 | fx=>
  have⟨i,o,r,j,I,H⟩:=R.ALk m om hm f;have⟨ρ,ς,s,α,S,c1,c2,hf,b9,w2,w3,W,ν,X,_⟩:=R.rS i o r j m I H;have b3:=R.MA A m om i hm O X;exact absurd (η m i o r j m I H b3 (λe=>by grind)) hn
end
end Go.Tel
