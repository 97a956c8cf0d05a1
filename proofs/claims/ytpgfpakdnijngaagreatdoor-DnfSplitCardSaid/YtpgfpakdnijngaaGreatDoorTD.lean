/-
  A branch's body with its placeholders numbered: the whole term.
-/
import Derived.Test.YtpgfpakdnijngaaGreatDoorTC
import Derived.Test.YtpgfpakdnijngaaGreatDoorTB
import Derived.Test.YtpgfpakdnijngaaGreatDoorW1
set_option linter.all false
namespace Go.Proofs.YtpgfpakdnijngaaGreatDoor
open Go.Tel
attribute [local simp] Ia Mt Js KW ER Fh Eo wO setCells IM D5 DF Ce E2 alive DX KF Tl gY HW JM HI Ib Lr JN oY kj okB oZ oa oc od og fP oh oo oq ot ou ow oz o5 o6 o7 o8 okF o9 pE pF pG pH V7 pI Qm Qn Qo Qp pJ pK pL pM pN pO pP pQ pR pS Hu pT kn pU pV pW pX pY pZ pg pn pq pz Cp
mutual
theorem S6 (N:Nat):∀(t:Ty) (o:List Nat),(LG N t o).2.length<=o.length+size t
 | .mk k n i ts,o=>by
  have:=cw N ts o
  grind[LG,size]
theorem cw (N:Nat):∀(l:List Ty) (o:List Nat),(G2 N l o).2.length<=o.length+Ac l
 | [],_=>NN _ _
 | t::l,o=>by
  have h1:=S6 N t o;have h2:=cw N l (LG N t o).2
  grind[G2,Ac]
end
theorem A7.agg {t:Ty} {x:AV} (h:A7 t x):∃cs,x=.agg cs:=by
 obtain⟨k,n,i,ts⟩:=t;obtain⟨a,rfl,_⟩:=h;simp
theorem Af.open {E:Env} {f:FuncId} {args args':List AV} {Post:AV->Prop} (hk:E.kind f=.rd) (hc:E.clone f=false) (hl:args.length=args'.length) (h1:BR [] 0 0 args=some args') (h2:BR [] 0 0 args'=some args') (h:Af E f args' Post):Af E f args Post:=by
 obtain⟨v,hp,hv⟩:=h;refine⟨v,hp,λL s=>?_⟩;obtain⟨n,hn⟩:=hv L s;refine⟨n,λm hm=>?_⟩;rw[<-hn m hm];cases m with
 | zero=>rfl
 | succ m=>
  grind[EC,EJ]
theorem A7.IU {t:Ty} {x:AV} (h:A7 t x) (bs:List (List AV)) (n m:Nat):close bs n m x=some x:=by
 obtain⟨k,c,i,ts⟩:=t;obtain⟨a,rfl,ha⟩:=h;simp[ha.close]
section
variable {R:RT}
theorem M9 (hn:Pc R) {N:Nat} (hN:N<=2 ^ 40) {k i:Int} {n:List UInt8} {ts:List Ty} (ht:FH N (.mk k n i ts)=true) {x:AV} (hx:BP (ren (.mk k n i ts)) x) :
  Af (env R) 92 [x] λr=>r=bif k==7 then .tuple [AG i,BB true] else .tuple [AG 0,BB false]:=by
 obtain⟨x',h1,h2⟩:=hx.closed [] 0;exact Af.open (args':=[x']) AR AR rfl (by simp[*]) (by simp[BR,h2.IU]) (N8 hn hN ht h2)
end
section
variable {R:RT}
mutual
theorem cx (hn:Pc R) {P A F e N:Nat} {B:List Ty} (hN:B.length=N) (iY:N<=2 ^ 40):∀(t:Ty),size t<2 ^ 38->FH N t=true->∀(x:AV),BP (ren t) x->∀(o:List Nat) (s:AQ),BI s->WD P A F e B s.bs->o.length+size t<2 ^ 40->vg R P A F N x o t s
 | .mk k n i ts,h,ht,x,hx,o,s,hs,hE,hb,L,c,hro,Ee,hA,hc=>by
  have lA:=(BH.1 hA).1;have Tn:=BV ts;have WE:=M9 hn iY ht hx;rw[FH] at ht;simp only[size] at h hb;refine m91 (by simp[DK,Fx]) ?_;rw[hro,Ee];have same:s.bs.set A [c]=s.bs:=by grind[List.set_getElem_self]
  by_cases h7:k=7
  .subst h7
   simp only[CW,AM,AH,GM,Cy] at ht;obtain⟨hts,sw,hiN⟩:=ht;subst hts;have er:ren (.mk 7 n i [])=.mk 2 (36::HK i.toNat) 0 []:=rfl;rw[er] at hx;obtain⟨a,rfl,ha⟩:=hx;generalize (36::HK i.toNat)=nm at WE;have g:=Ai (Ax s.bs [AG 2,SS nm,AG 0,a]) Z4;have gz:=Ax (s.bs++[[AG 2,SS nm,AG 0,a]]) Z4;have gA:=Ai (Ai hA [AG 2,SS nm,AG 0,a]) Z4;have gP:=Ai (Ai hE.hP [AG 2,SS nm,AG 0,a]) Z4;obtain⟨d,ds,he,hd⟩:=hE.he;have ge:=Ai (Ai he [AG 2,SS nm,AG 0,a]) Z4;have tkn:(s.bs++[[AG 2,SS nm,AG 0,a]]++[Z4]).take s.bs.length=s.bs.set A [c]:=AB;have el:(s.bs++[[AG 2,SS nm,AG 0,a]]).length=s.bs.length+1:=AD;refine ADQ (Bx (cs:=[AG 2,SS nm,AG 0,a]) rfl (by simp[ha.ok]) (Bj ?_));simp only[el];rw[el] at gz;generalize aO:s.bs++[[AG 2,SS nm,AG 0,a]]++[Z4]=bs at g gz gA gP ge tkn;refine Ag g rfl (AL WE ?_);rintro _ rfl;refine B9 rfl (B9 rfl (Ak (Ak (AZ gP rfl (Ak (C1 (AX ge) (Ak (AO (AX ge) (Ak (AZ ge rfl (Ak (Aq (n:=N) (by rw[hd.BA,Aa,hN]) (Ak (Ao (pk ?_)))))))))))))));rw[Ar AA];refine A9 (AZ gA rfl (AL (iW (l:=iX o) AB hc.A1) ?_));rintro _ rfl;rw[AA5 o sw]
   have hcv:(LG N (.mk 7 n i []) o)=match o.findIdx? (·==i.toNat) with
     | some j=>(var j,o)
     | none=>(var o.length,o++[i.toNat]):=by grind[LG]
   rw[hcv]
   have fin:∀(j:Int) (c':AV) (ts':List (Nat×Nat)) (bs':List (List AV)) (Post:AV->AQ->Prop),Aw s.bs.length c'=true->bs'.take s.bs.length=s.bs.set A [c']->bs'[s.bs.length+1]?=some Z4->(∀ds,BP (ren (var j)) (.agg ds)->Post (.agg ds) ⟨s.bs.set A [c'],ts'⟩) ->
     ADR R 0 0 0 (.ptr (s.bs.length+1) 0) (AG j) ⟨bs',ts'⟩ (QM (L.rr 91) s.bs.length Post):=by
    intro j c' ts' bs' Post hid hT hz hP;refine AOx (Hg (cs:=[AG 5,SS [],AG j,.AE []]) rfl (Bq hz rfl rfl AI (AN _) rfl (.inl (AN _)) (Ag (BZ hz) rfl ?_)));exact cr hs ((Cj AA).trans hT) (by grind[Ah]) rfl (hP _ ⟨_,rfl,.inl (.AE _)⟩)
   cases hf:o.findIdx? (·==i.toNat) with
   | some j=>
    refine Ao ?_;rw[Az AD];exact Ay (fin j c s.ts bs _ (hc.A1.Aw _) tkn gz λds hds=>⟨c,s.ts,ds,hc,Cd.refl _ _,rfl,hds,rfl⟩)
   | none=>
    refine Ao ?_;rw[Ar AD];refine A9 (AZ gA rfl (Aq (n:=o.length) (by rw[hc.A1.BA,BF,Bm]) (AZ gA rfl (Pv ⟨AI,cq hc rfl AB λc' ts' K7 hch=>?_⟩))));refine C2 gA AD K7.A1.cells (AN _) K7.A1.ok (.inl (AN _)) ?_;have hT:=EU (j:=A) (c:=[c']) tkn;rw[IK] at hT;have hi:((i.toNat:Nat):Int)=i:=AA;refine⟨AZ gA rfl (by rcases hc with rfl|⟨t,rfl,_⟩ <;> simp[Tel.Dg,Lt]),Aq (n:=o.length) (by rw[hc.A1.BA,BF,Bm]) (by simp[Tel.Dg,NZ,FQ]),?_⟩;refine fin o.length c' ts' _ _ (K7.A1.Aw _) hT (BQ gz AA) λds hds=>⟨c',ts',ds,?_,hch,rfl,hds,rfl⟩
    grind
  .have b7:(k==7)=false:=by grind
   have er:=Gw k n i ts h7;rw[er] at hx;rw[b7] at ht WE;simp only[AK,AH] at ht WE;obtain⟨a,rfl,ha⟩:=hx;obtain⟨g0,g1,g2⟩:=Il (s:=s) (c:=[AG k,SS n,AG i,a]) (d:=[AG k,SS n,AG i,.AE []]);have gx:=Ai (Ax s.bs [AG k,SS n,AG i,a]) Z4;have hcv:LG N (.mk k n i ts) o=(.mk k n i (G2 N ts o).1,(G2 N ts o).2):=by grind[LG]
   rw[hcv];refine ADQ (Bx (cs:=[AG k,SS n,AG i,a]) rfl (by simp[ha.ok]) (Bj (Ag gx rfl (AL WE ?_))));rintro _ rfl;refine B9 rfl (B9 rfl (B8 (B8 (B8 (B8 (B8 (B8 (B8 (pk (Ay (AOy (Ag gx rfl (Bj ?_)))))))))))));refine Bq (old:=Z4) (Ax _ _) rfl rfl AI (AN _) (by simp[ha.ok]) (.inl (AN _)) ?_;have e:((s.bs++[[AG k,SS n,AG i,a]]++[Z4]++[Z4]).set (s.bs++[[AG k,SS n,AG i,a]]++[Z4]).length [AG k,SS n,AG i,a])=(GZ s [AG k,SS n,AG i,a] [AG k,SS n,AG i,a]).bs:=by grind[GZ]
   have l1:(s.bs++[[AG k,SS n,AG i,a]]++[Z4]).length=s.bs.length+2:=AD;have l2:(s.bs++[[AG k,SS n,AG i,a]]).length=s.bs.length+1:=AD;simp only at e l1 l2 ⊢;rw[e];simp only[l1,l2];obtain⟨_,_,q2⟩:=Il (s:=s) (c:=[AG k,SS n,AG i,a]) (d:=[AG k,SS n,AG i,a]);refine AO (AX q2) (C2 (off:=3) q2 (AY 4) rfl (AN _) rfl (.inl (AN _)) ?_);have e2:(GZ s [AG k,SS n,AG i,a] [AG k,SS n,AG i,a]).bs.set (s.bs.length+2) ([AG k,SS n,AG i,a].set 3 (.AE []))=(GZ s [AG k,SS n,AG i,a] [AG k,SS n,AG i,.AE []]).bs:=by simp[*,GZ]
   show E2 ⟨(GZ s [AG k,SS n,AG i,a] [AG k,SS n,AG i,a]).bs.set (s.bs.length+2) ([AG k,SS n,AG i,a].set 3 (.AE [])),s.ts⟩ _ _ _
   rw[e2];refine AO (AX g0) (AZ g0 rfl (Aq (n:=ts.length) (by rw[ha.BA,Aa,Bo,Bm]) ?_));have tkn:(GZ s [AG k,SS n,AG i,a] [AG k,SS n,AG i,.AE []]).bs.take s.bs.length=s.bs.set A [c]:=by simp[*,GZ]
   refine vh hN ha AA h7 (o0:=o) (c0:=c) hs lA hE (λt hm o s hs hE hb=>XW hn hN iY ts AA ht.2.2 t hm o s hs hE hb) (λt _ o=>S6 N t o) AA (λc' ts' ds h1 h2 h3=>⟨c',ts',ds,h1,h2,rfl,?_,rfl⟩) ts.length 0 o [] _ s.ts (.AE []) c AA AD AD rfl AD
    (S5 hs (by simp[Ah,Aw,ha.Aw]) AR) tkn g0 g1 g2 hc (.inl rfl) (Cd.refl _ _) (DS.AE _ _) (SR.AE _ _)
   grind[Gw]
theorem XW (hn:Pc R) {P A F e N:Nat} {B:List Ty} (hN:B.length=N) (iY:N<=2 ^ 40):∀(ts:List Ty),Ac ts<2 ^ 38->Gc N ts=true->∀t∈ts,∀(o:List Nat) (s:AQ),BI s->WD P A F e B s.bs->o.length+size t<2 ^ 40->vg R P A F N (.agg ((Aj (ren t)).map .pv)) o t s
 | [],_,_,_,h=>by cases h
 | u::l,h,ht,t,hm=>by
  simp only[Ac] at h;simp only[Gc,AH] at ht;rcases A5.1 hm with h' | h'
  .rw[h']
   exact cx hn hN iY u AA ht.1 _ (A7.Bi _).Fj
  .exact XW hn hN iY l AA ht.2 t h'
end
end
mutual
theorem iZ {N:Nat}:∀(t:Ty) (o:List Nat),FH N t=true->(∀x∈o,x<N)->∀x∈(LG N t o).2,x<N
 | .mk k n i ts,o,h,ho=>by
  rw[FH] at h;rw[LG];cases h7:(k==7) with
  | true=>
   grind
  | false=>
   rw[h7] at h;simp only[AK,AH] at h;exact lq ts o h.2.2 ho
theorem lq {N:Nat}:∀(l:List Ty) (o:List Nat),Gc N l=true->(∀x∈o,x<N)->∀x∈(G2 N l o).2,x<N
 | [],_,_,ho=>ho
 | t::l,o,h,ho=>by
  simp only[Gc,AH] at h;exact lq l _ h.2 (iZ t o h.1 ho)
end
mutual
theorem lu {N:Nat}:∀(t:Ty) (o:List Nat),FH N t=true->ren (LG N t o).1=(LG N t o).1
 | .mk k n i ts,o,h=>by
  rw[FH] at h;rw[LG];cases h7:(k==7) with
  | true=>
   rw[h7] at h;simp only[AM,AH,Cy] at h;simp only[CZ,h.2.2,decide_true,AM];split <;> rfl
  | false=>
   rw[h7] at h;simp only[AK,AH] at h;simp only[Gt,AK];rw[Gw _ _ _ _ AB,cy ts o h.2.2]
theorem cy {N:Nat}:∀(l:List Ty) (o:List Nat),Gc N l=true->CA (G2 N l o).1=(G2 N l o).1
 | [],_,_=>rfl
 | t::l,o,h=>by
  simp only[Gc,AH] at h;simp only[G2,CA,lu t o h.1,cy l _ h.2]
end
theorem El {l m:List (List AV)} {j n:Nat} {v:List AV} (hn:l.length=n) (h:m[j]?=some v):(l++m)[n+j]?=some v:=AB
theorem ZZ {l m:List (List AV)} {j n:Nat} {v:List AV} (hn:l.length=n):(l++m).set (n+j) v=l++m.set j v:=by
 rw[<-hn,YV _ _ AA,Nat.add_sub_cancel_left]
theorem Za {rr:Bool} {cs ds:List AV} {s0:AQ} {bs:List (List AV)} {ts:List (Nat×Nat)} {Post:AV->AQ->Prop} (h0:BI s0) (hT:bs.take s0.bs.length=s0.bs) (Ff:BR bs s0.bs.length ts.length cs=some ds) (hP:Post (.agg ds) ⟨s0.bs,ts⟩):QM rr s0.bs.length Post (.agg cs) ⟨bs,ts⟩:=by
 refine ZY (ds:=ds) ?_ Ff ?_
 .rw[C3]
  intro b hb;exact h0 b AB
 grind
abbrev Z5:List AV:=.AE []::Z4
def CG (b:Br) (x:AV):Prop:=∃a y,x=.agg (a::y)/\BE a (Ad b.bounds)/\BP b.body (.agg y)
section
variable {R:RT}
theorem cz {e:Nat} {B:List Ty} (hB:∀t∈B,shT t/\R3 t=true) {o:List Nat} (ho:∀x∈o,x<B.length) (aL:o.length<2 ^ 38) {s0:AQ} (hs0:BI s0) {d:AV} {dr:List AV} (he:s0.bs[e]?=some (d::dr)) (hd:BE d (Ad B)) {xs y:List AV} {t:Ty} (hy:BP t (.agg y)) {c f:AV} (hc:BE c (Ab (iX o)))
  {rr:Bool} {Post:AV->AQ->Prop} (hP:∀v ts',CG ⟨o.map λx=>B.getD x aN,t⟩ v->Cd (.AE []) (.AE []) s0.ts ts'->Post v ⟨s0.bs,ts'⟩) :
  ∀(j q:Nat) (tk:List (Nat×Nat)) (b:AV),q+j=o.length->Dl 0 tk 25 b (Ad ((o.take q).map λx=>B.getD x aN))->Cd (.AE []) (.AE []) s0.ts tk->DS b s0.ts ->
   vk R 0 0 0 (.ptr s0.bs.length 0) (.ptr (s0.bs.length+2) 0) (.ptr (s0.bs.length+5) 0) c (AG o.length) (AG q) ⟨s0.bs++[[.ptr e 0],xs,Z5,[c],[f],b::y],tk⟩ (QM rr s0.bs.length Post):=by
 have vn:y.length=4/\y.all BD=true:=by
  obtain⟨k,n,i,ts⟩:=t;obtain⟨a,hy,ha⟩:=hy;cases hy;exact⟨rfl,by simp[ha.ok]⟩
 intro j
 induction j with
 | zero=>
  intro q tk b hi hb hC hF;refine ADS (Ao ?_);rw[Az AA];rw[CU AA] at hb;have g5:(s0.bs++[[.ptr e 0],xs,Z5,[c],[f],b::y])[s0.bs.length+5]?=some (b::y):=El rfl rfl;have g2:(s0.bs++[[.ptr e 0],xs,Z5,[c],[f],b::y])[s0.bs.length+2]?=some Z5:=El rfl rfl;refine Ay (AOz (Ag g5 AB (Bq g2 AB rfl AI (AN _) (by simp only[HP,hb.A1.ok,vn.2,Fo]) (.inl (AN _)) (Ag (BZ g2) AB ?_))));obtain⟨b',c1,c2⟩:=hb.A1.close ((s0.bs++[[.ptr e 0],xs,Z5,[c],[f],b::y]).set (s0.bs.length+2) (b::y)) s0.bs.length tk.length;obtain⟨ds,c3,c4⟩:=hy.JT ((s0.bs++[[.ptr e 0],xs,Z5,[c],[f],b::y]).set (s0.bs.length+2) (b::y)) s0.bs.length tk.length;refine Za (ds:=b'::ds) hs0 ?_ Je (hP _ tk ⟨b',ds,rfl,c2,c4⟩ hC);simp
 | succ j D1=>
  intro q tk b hi hb hC hF;refine ADS (Ao ?_);rw[Ar AA];obtain⟨u,hu⟩:∃u,o[q]?=some u:=⟨_,Au AA⟩;have huB:=ho u (A3 hu);have hBu:B[u]?=some (B.getD u aN):=AB;have hm:=hB _ (A3 hBu);have g0:(s0.bs++[[.ptr e 0],xs,Z5,[c],[f],b::y])[s0.bs.length]?=some [.ptr e 0]:=El (j:=0) rfl rfl;have g5:(s0.bs++[[.ptr e 0],xs,Z5,[c],[f],b::y])[s0.bs.length+5]?=some (b::y):=El rfl rfl;have ge:(s0.bs++[[.ptr e 0],xs,Z5,[c],[f],b::y])[e]?=some (d::dr):=AB;refine A9 (AO0 (BS hc (row:=[.sc (.int .i64 u)]) AA (by simp[*,Ab]) rfl AA (Dy (AO (AX g5) (AZ g5 rfl (AZ g0 rfl (C1 (AX ge) (AO (AX ge) (AZ ge rfl (BS hd (row:=Aj (B.getD u aN)) AA (by grind[BJ]) (Al _) AA (Ca (AL (R4 hm.1 hm.2 (A7.Bi _)) ?_))))))))))));intro r hr;refine E9 hr.Fj ⟨AI,JS hb rfl AB λb' GH hb' hch=>?_⟩;have e1:((o.take q).map λx=>B.getD x aN)++[B.getD u aN]=(o.take (q+1)).map λx=>B.getD x aN:=by grind[List.take_add_one]
  rw[e1] at hb';refine AO (AX g5) (C2 g5 AD hb'.A1.cells (AN _) hb'.A1.ok (.inl (AN _)) ?_);have e2:(s0.bs++[[.ptr e 0],xs,Z5,[c],[f],b::y]).set (s0.bs.length+5) (b'::y)=s0.bs++[[.ptr e 0],xs,Z5,[c],[f],b'::y]:=ZZ rfl;refine⟨AO (AX g5) (EA _ _),AZ g5 rfl (Gp hb),AO1 (Ba AA AA ?_)⟩
  show vk R _ _ _ _ _ _ _ _ _ ⟨(s0.bs++[[.ptr e 0],xs,Z5,[c],[f],b::y]).set (s0.bs.length+5) (b'::y),GH⟩ _
  rw[e2];have:=D1 (q+1) GH b' AA hb' (hC.side hch hF) (hF.Py hch hC.1)
  grind
theorem R5 (hn:Pc R) {e:Nat} {B:List Ty} (iY:B.length<=2 ^ 40) (hB:∀t∈B,shT t/\R3 t=true) {p:Ty} (hp:size p<2 ^ 38) (ht:FH B.length p=true) {x:AV} (hx:BP (ren p) x) {s:AQ} (hs:BI s) {d:AV} {dr:List AV} (he:s.bs[e]?=some (d::dr)) (hd:BE d (Ad B)) {L:BL} (hro:L.ro=0) (Ee:L.rt=0) :
  ∃v s',(∃ts',CG (HY B p) v/\Cd (.AE []) (.AE []) s.ts ts'/\s'=⟨s.bs,ts'⟩)/\BW (env R) L 45 [.ptr e 0,x] s v s':=by
 refine m45 AR ?_;rw[hro,Ee];have hel:=(BH.1 he).1;have hxx:=hx
 obtain⟨k,n,i,ts,hr⟩:∃k n i ts,ren p=.mk k n i ts:=by
  obtain⟨k,n,i,ts⟩:=ren p;simp
 rw[hr] at hx;obtain⟨a,rfl,ha⟩:=hx;have aL:=S6 B.length p [];refine AO2 (Bx (cs:=[.ptr e 0]) rfl rfl (Bx (cs:=[AG k,SS n,AG i,a]) rfl (by simp[ha.ok]) (Bj (Bj (Bj ?_)))));simp only[Du,DH,Cm,Bd,Bt,Bz,CQ,Nat.reduceAdd];have g4:(s.bs++[[.ptr e 0],[AG k,SS n,AG i,a],Z5,[.AE []],[.pv (.sc .nilFunc)]])[s.bs.length+4]?=some [.pv (.sc .nilFunc)]:=El rfl rfl;refine C2 g4 AI rfl (AN _) rfl (.inl (AN _)) ?_;have e4:∀c,(s.bs++[[.ptr e 0],[AG k,SS n,AG i,a],Z5,[.AE []],[.pv (.sc .nilFunc)]]).set (s.bs.length+4) c=s.bs++[[.ptr e 0],[AG k,SS n,AG i,a],Z5,[.AE []],c]:=λ_=>ZZ rfl
 simp only[e4,List.set_cons_zero];generalize aO:s.bs++[[.ptr e 0],[AG k,SS n,AG i,a],Z5,[.AE []],[cu s.bs.length (s.bs.length+3) (s.bs.length+4)]]=bs;have QU:bs.length=s.bs.length+5:=AB;have k0:bs[s.bs.length]?=some [.ptr e 0]:=AB;have k1:bs[s.bs.length+1]?=some [AG k,SS n,AG i,a]:=by rw[<-aO]; simp
 have k3:bs[s.bs.length+3]?=some [.AE []]:=by rw[<-aO]; simp
 have k4:bs[s.bs.length+4]?=some [cu s.bs.length (s.bs.length+3) (s.bs.length+4)]:=AB;have ke:bs[e]?=some (d::dr):=AB
 have hok:BI ⟨bs,s.ts⟩:=by
  intro b hb;rw[<-aO] at hb;simp only[B4,A5,Ep,Er] at hb
  show Ah bs.length b=true
  rw[QU];rcases hb with hb|rfl|rfl|rfl|rfl|rfl
  .exact Bp AA b (hs b hb)
  .simp[Ah,Aw]; omega
  .simp[Ah,Aw,ha.Aw]
  all_goals simp[*,Ah,Aw]
 refine AZ k4 rfl (Ag k1 rfl ?_);obtain⟨v,s',⟨c',ts',ds,r1,r2,rfl,r4,rfl⟩,r6⟩:=cx hn (e:=e) (P:=s.bs.length) (A:=s.bs.length+3) (F:=s.bs.length+4) (N:=B.length) rfl iY p hp ht _ hxx [] ⟨bs,s.ts⟩ hok ⟨k0,k4,⟨d,dr,ke,hd⟩,AA,AA,AA⟩ AB (Ce (env R) 45 0 0 0) (.AE []) rfl rfl k3 (.inl rfl);rw[lu p [] ht] at r4
 have hds:ds.length=4/\ds.all BD=true:=by
  generalize (LG B.length p []).1=t at r4;obtain⟨k,n,i,ts⟩:=t;obtain⟨a,hy,ha⟩:=r4;cases hy;exact⟨rfl,by simp[ha.ok]⟩
 have AYL:∀f,(s.bs++[[.ptr e 0],[AG k,SS n,AG i,a],Z5,[c'],[f],Z5]).set (s.bs.length+5) (.AE []::ds)=s.bs++[[.ptr e 0],[AG k,SS n,AG i,a],Z5,[c'],[f],.AE []::ds]:=λ_=>ZZ rfl
 refine⟨_,_,r6,Hg (cs:=.AE []::ds) ?_ ?_⟩
 .simp only[Eo,cellsOf,hds.1,hds.2,Bt,Bz,and_self,Nat.reduceAdd,AY,Gs]
  match ds,hds.1 with
  | [d1,d2,d3,d4],_=>rfl
 .subst aO
  have e3:∀c,(s.bs++[[.ptr e 0],[AG k,SS n,AG i,a],Z5,[.AE []],[cu s.bs.length (s.bs.length+3) (s.bs.length+4)]]).set (s.bs.length+3) c=s.bs++[[.ptr e 0],[AG k,SS n,AG i,a],Z5,c,[cu s.bs.length (s.bs.length+3) (s.bs.length+4)]]:=λ_=>ZZ rfl
  simp only[e3];refine Bj ?_;simp only[Du,DH,Cm,Bd,Bt,Bz,CQ,Nat.reduceAdd];have g5:(s.bs++[[.ptr e 0],[AG k,SS n,AG i,a],Z5,[c'],[cu s.bs.length (s.bs.length+3) (s.bs.length+4)],Z5])[s.bs.length+5]?=some Z5:=El rfl rfl;refine Bq g5 AB rfl AI (AN _) (by simp[*]) (.inl (AN _)) ?_;simp only[AYL];have g3:(s.bs++[[.ptr e 0],[AG k,SS n,AG i,a],Z5,[c'],[cu s.bs.length (s.bs.length+3) (s.bs.length+4)],.AE []::ds])[s.bs.length+3]?=some [c']:=El rfl rfl;refine AZ g3 rfl (Aq (n:=(LG B.length p []).2.length) (by rw[r1.A1.BA,BF,Bm]) ?_);simp only[Bz] at aL;exact cz hB (iZ p [] ht AD) AA hs he hd r4 r1.A1 (λv ts' h1 h2=>⟨ts',h1,h2,rfl⟩) (LG B.length p []).2.length 0 ts' (.AE []) AA (.inl rfl) ⟨r2.1,r2.2.1,.inl rfl⟩ (DS.AE _ _)
end
mutual
def ia (m:Int->Bool) (b:Ty):Ty->Int->Ty
 | .mk c n i ts,k=>bif c==7 then(bif m i&&k==0 then b else .mk c n i ts) else bif c==3 then .mk c n i (Q5 m b ts k) else .mk c n i ts
def Q5 (m:Int->Bool) (b:Ty):List Ty->Int->List Ty
 | [],_=>[]
 | t::l,k=>ia m b t k::Q5 m b l (k-BX m t)
end
mutual
theorem lz (m:Int->Bool) (b:Ty):∀(t:Ty) (k:Int),k<0\/(BX m t:Int)<=k->ia m b t k=t
 | .mk c n i ts,k,h=>by
  rw[BX] at h;rw[ia];cases h7:c==7 with
  | true=>
   grind
  | false=>
   cases h3:c==3 with
   | true=>
    rw[h7,h3] at h;simp only[AM,AK] at h ⊢;rw[Uj m b ts k h]
   | false=>rfl
theorem Uj (m:Int->Bool) (b:Ty):∀(l:List Ty) (k:Int),k<0\/(Cc m l:Int)<=k->Q5 m b l k=l
 | [],_,_=>rfl
 | t::l,k,h=>by
  rw[Cc] at h;rw[Q5,lz m b t k AA,Uj m b l (k-BX m t) AA]
end
mutual
theorem ic (m:Int->Bool) (b:Ty):∀(t:Ty) (k:Nat),k<BX m t->ia m b t k=Ip m b t k
 | .mk c n i ts,k,h=>by
  rw[BX] at h;rw[ia,Ip];cases h7:c==7 with
  | true=>
   grind
  | false=>
   cases hc:c==3 with
   | true=>
    rw[h7,hc] at h;simp only[AM,AK] at h ⊢;rw[l5 m b ts k h]
   | false=>rfl
theorem l5 (m:Int->Bool) (b:Ty):∀(l:List Ty) (k:Nat),k<Cc m l->Q5 m b l k=KG m b l k
 | [],_,h=>by rfl
 | t::l,k,h=>by
  rw[Cc] at h;rw[Q5,KG]
  by_cases hk:k<BX m t
  .rw[Ar hk,AM,ic m b t k hk,Uj m b l _ AA]
  .have:(k:Int)-(BX m t:Nat)=((k-BX m t:Nat):Int):=by omega
   rw[Az hk,AK,lz m b t k AA,this,l5 m b l (k-BX m t) AA]
end
section
variable {R:RT}
theorem vo {V:Nat} {v:Nat} {i:Int} {s:AQ} (hs:BI s) (hV:s.bs[V]?=some [AG v]) (L:BL):BW (env R) L 137 [AG i,.ptr V 0] s (BB (i==(v:Int))) s:=by
 obtain⟨w,s',⟨rfl,rfl⟩,hc⟩:=AYM (R:=R) (L:=L) (s:=s) (t0:=AG i) (t1:=.ptr V 0) (Post:=λw s'=>w=BB (i==(v:Int))/\s'=s) AR (AHZ (AZ hV rfl (A0 (by
  have:=JR (rr:=L.rr 137) hs (m:=[]) (p:=.sc (.bool (i==(v:Int)))) (Post:=λw s'=>w=BB (i==(v:Int))/\s'=s) ⟨rfl,rfl⟩
  simp_all))))
 omega
structure RcF (R:RT) (C:Nat) (f:FuncId) (cap:List AV) (m:Int->Bool) (Q:List (List AV)->Prop):Prop where
 call:∀bs tk,BI ⟨bs,tk⟩->Q bs->∀(i:Int) (L:BL),BW (env R) L f (AG i::cap) ⟨bs,tk⟩ (BB (m i)) ⟨bs,tk⟩
 set:∀bs c,Q bs->Q (bs.set C c)
 ext:∀(bs bs0:List (List AV)) (n:Nat),Q bs0->bs.take n=bs0->Q bs
theorem AHa {C V:Nat} (hCV:C≠V) (v:Nat):RcF R C 137 [.ptr V 0] (·==(v:Int)) (λbs=>bs[V]?=some [AG v]) where
 call:=λbs tk hs hV i L=>vo hs hV L
 set:=λbs c h=>BQ h hCV
 ext:=λbs bs0 n h hT=>CD hT h
def AHb (R:RT) (C:Nat) (f:FuncId) (cap:List AV) (m:Int->Bool) (Q:List (List AV)->Prop) (b:Ty) (y:AV) (x:AV) (t:Ty) (k:Int) (s:AQ):Prop:=∀(L:BL),L.ro=0->L.rt=0->s.bs[C]?=some [AG k]->Q s.bs ->
 ∃w s',(∃ts' ds,w=.agg ds/\BP (ren (ia m b t k)) (.agg ds)/\Cd (.AE []) (.AE []) s.ts ts'/\s'=⟨s.bs.set C [AG (k-BX m t)],ts'⟩)/\BW (env R) L 59 [x,.ptr C 0,.func (.func f) [] cap,y] s w s'
theorem AA6 {C:Nat} {f:FuncId} {cap:List AV} {m:Int->Bool} {Q:List (List AV)->Prop} (hQ:RcF R C f cap m Q) {b:Ty} {yc:List AV} {ts:List Ty} {a:AV} (ha:BE a (Ad (CA ts))) (hl:Ac ts<2 ^ 38) {k i k0:Int} {n:List UInt8} (hk7:k≠7) (TD:-(2 ^ 40)-2 ^ 38<=k0-Ac ts) (hk2:k0<2 ^ 40) {s0:AQ} (hs0:BI s0) (hC:C<s0.bs.length) (hV:Q s0.bs) (hyl:yc.length=4)
  (ih:∀t∈ts,∀(k:Int) (s:AQ),BI s->-(2 ^ 40)-2 ^ 38<=k-size t->k<2 ^ 40->AHb R C f cap m Q b (.agg yc) (.agg ((Aj (ren t)).map .pv)) t k s)
  {rr:Bool} {Post:AV->AQ->Prop}
  (hP:∀ts' ds,Cd (.AE []) (.AE []) s0.ts ts'->BP (.mk k n i (CA (Q5 m b ts k0))) (.agg ds)->Post (.agg ds) ⟨s0.bs.set C [AG (k0-Cc m ts)],ts'⟩) :
  ∀(j q:Nat) (kc:Int) (done:List Ty) (bs:List (List AV)) (tk:List (Nat×Nat)) (acc:AV),q+j=ts.length->done++Q5 m b (ts.drop q) kc=Q5 m b ts k0->done.length=q->kc-Cc m (ts.drop q)=k0-Cc m ts->k0-Ac ts<=kc-Ac (ts.drop q)->kc<2 ^ 40 ->
   BI ⟨bs,tk⟩->bs.take s0.bs.length=s0.bs.set C [AG kc]->bs[s0.bs.length+1]?=some yc->bs[s0.bs.length+2]?=some Z4->bs[s0.bs.length+3]?=some [AG k,SS n,AG i,acc] ->
   Dl 0 tk 25 acc (Ad (CA done))->Cd (.AE []) (.AE []) s0.ts tk->DS acc s0.ts ->
   ADT R 0 0 0 (.ptr C 0) ((.func (.func f) [] cap)) (.ptr (s0.bs.length+1) 0) (.ptr (s0.bs.length+2) 0) (.ptr (s0.bs.length+3) 0) a (AG ts.length) (AG q) ⟨bs,tk⟩ (QM rr s0.bs.length Post):=by
 have Tn:=BV ts;intro j
 induction j with
 | zero=>
  intro q kc done bs tk acc hi hd hdl hk hks MW hs hT h1 h2 h3 hb hch hfr;refine ADU (Ao ?_);rw[Az AA];rw[CH AA,Q5,HO] at hd;rw[CH AA,Cc] at hk;rw[hd] at hb;refine Ay (AO4 (Ag h3 rfl (Bq h2 rfl rfl AI (AN _) (by simp[hb.A1.ok]) (.inl (AN _)) (Ag (BZ h2) rfl ?_))));obtain⟨ds,c1,c2⟩:=BP.JT (v:=.mk k n i (CA (Q5 m b ts k0))) (cs:=[AG k,SS n,AG i,acc]) ⟨acc,rfl,hb.A1⟩ (bs.set (s0.bs.length+2) [AG k,SS n,AG i,acc]) s0.bs.length tk.length;have hkc:kc=k0-Cc m ts:=AA;rw[hkc] at hT;exact cr hs0 ((Cj AA).trans hT) rfl c1 (hP tk ds hch c2)
 | succ j D1=>
  intro q kc done bs tk acc hi hd hdl hk hks MW hs hT h1 h2 h3 hb hch hfr;refine ADU (Ao ?_);rw[Ar AA];obtain⟨t,ht⟩:∃t,ts[q]?=some t:=⟨_,Au AA⟩;have Ee:(CA ts)[q]?=some (ren t):=by simp[*,Bo]
  have Pz:=A3 ht;have hrl:((Aj (ren t)).map AV.pv).length=4:=by grind[Al]
  have hro:=DE (ren t)
  have Ku:Ah (bs.length+1) ((Aj (ren t)).map AV.pv)=true:=by
   obtain⟨k1,n1,i1,t1⟩:=ren t;rfl
  refine A9 (AO5 (BS ha (row:=Aj (ren t)) AA (by simp[*,BJ]) (Al _) AA (Ca (Bj ?_))));have fT:=ih t Pz;have hdr:ts.drop q=t::ts.drop (q+1):=drop_cons ht;rw[hdr,Q5] at hd;rw[hdr,Cc] at hk;rw[hdr,Ac] at hks;have hcs:=L2 m t;generalize (Aj (ren t)).map AV.pv=row at hrl hro Ku fT;refine Bq (Ax bs Z4) hrl rfl AI (AN _) hro (.inl (AN _)) ?_;have e:(bs++[Z4]).set bs.length row=bs++[row]:=AD;rw[e];have l3:=(BH.1 h3).1;have Mi:s0.bs.length<=bs.length:=AA;have iV:=(DI Mi row).trans hT;have hs':BI ⟨bs++[row],tk⟩:=BI.app (s:=⟨bs,tk⟩) hs Ku;have gC:(s0.bs.set C [AG kc])[C]?=some [AG kc]:=by rw[CX hC]
  have gV:=hQ.set s0.bs [AG kc] hV;obtain⟨w,s',⟨ts',ds,rfl,r4,r2,rfl⟩,r6⟩:=fT kc ⟨bs++[row],tk⟩ hs' AA MW (Ce (env R) 59 0 0 0) rfl rfl (CD iV gC) (hQ.ext _ _ _ gV iV);have g1:=Ai h1 row;have g2:=Ai h2 row;have g3:=Ai h3 row;have g3':((bs++[row]).set C [AG (kc-BX m t)])[s0.bs.length+3]?=some [AG k,SS n,AG i,acc]:=BQ g3 AA;refine AO (AX g3) (AZ g3 rfl (Ag (Ax bs row) hrl (Ag g1 hyl ⟨_,_,r6,E9 r4 ⟨AI,JS (r2.keep hb (λ_ h=>by cases h)) rfl ?_ ?_⟩⟩)))
  .grind[Bo]
  .intro b' GH hb' K7
   have er:CA done++[ren (ia m b t kc)]=CA (done++[ia m b t kc]):=by simp[Bo]
   rw[er] at hb';refine AO (AX g3') (C2 g3' AD hb'.A1.cells (AN _) hb'.A1.ok (.inl (AN _)) ?_);refine⟨AO (AX g3') (EA _ _),AZ g3' rfl (Gp hb),AO6 (Ba AA AA ?_)⟩;have qP:(((bs++[row]).set C [AG (kc-BX m t)]).set (s0.bs.length+3) [AG k,SS n,AG i,b']).take s0.bs.length=s0.bs.set C [AG (kc-BX m t)]:=by simp[*,Cj,EU]
   have hs2:BI ⟨(bs++[row]).set C [AG (kc-BX m t)],ts'⟩:=BI.set (s:=⟨bs++[row],tk⟩) hs' rfl _
   have fin:=D1 (q+1) (kc-BX m t) (done++[ia m b t kc]) _ GH b' AA (by simp[*]) (by simp[*]) AA AA AA
    (BI.set (s:=⟨(bs++[row]).set C [AG (kc-BX m t)],ts'⟩) hs2 (by simp[Ah,Aw,hb'.A1.Aw]) _) qP (BQ (BQ g1 AA) AA) (BQ (BQ g2 AA) AA) (BZ g3')
    hb' ((hch.trans r2).side K7 hfr) (hfr.Py K7 (BK hch.1 r2.1))
   assumption
end
section
variable {R:RT}
theorem P0 (hn:Pc R) {N:Nat} (hN:N<=2 ^ 40) (v:Nat) (t:Ty) (inv:Bool) (hs:size t<2 ^ 60) (ht:FH N t=true) {x:AV} (hx:BP (ren t) x):Af (env R) 62 [x,AG v,BB inv] λr=>r=BB (DT v inv t):=by
 obtain⟨x',h1,h2⟩:=hx.closed [] 0;exact Af.open (args':=[x',AG v,BB inv]) AR AR rfl (by simp[*]) (by simp[BR,h2.IU,Tel.close]) (Rz hn hN v t inv hs ht x' h2)
theorem Uk {rr:Bool} {C:Nat} {c:List AV} {t:Ty} {cs:List AV} {s0:AQ} {bs:List (List AV)} {ts:List (Nat×Nat)} {Post:AV->AQ->Prop} (h0:BI s0) (hT:bs.take s0.bs.length=s0.bs.set C c) (hc:Ah s0.bs.length c=true) (ht:BP t (.agg cs)) (hP:∀ds,BP t (.agg ds)->Post (.agg ds) ⟨s0.bs.set C c,ts⟩):QM rr s0.bs.length Post (.agg cs) ⟨bs,ts⟩:=by
 obtain⟨ds,c1,c2⟩:=ht.JT bs s0.bs.length ts.length
 grind[cr]
mutual
theorem Zb (hn:Pc R) {N:Nat} (iY:N<=2 ^ 40) {C:Nat} {f:FuncId} {cap:List AV} {m:Int->Bool} {Q:List (List AV)->Prop} (hQ:RcF R C f cap m Q) {b:Ty} {y:AV} (hy:A7 (ren b) y):∀(t:Ty),size t<2 ^ 38->FH N t=true->∀(x:AV),BP (ren t) x->∀(k:Int) (s:AQ),BI s->-(2 ^ 40)-2 ^ 38<=k-size t->k<2 ^ 40->AHb R C f cap m Q b y x t k s
 | .mk k n i ts,h,ht,x,hx,kc,s,hs,TD,hk2,L,hro,Ee,hC,hV=>by
  have lC:=(BH.1 hC).1;have Tn:=BV ts;have WE:=M9 hn iY ht hx;rw[FH] at ht;simp only[size] at h TD;obtain⟨yc,rfl⟩:=hy.agg;have hy':=hy;obtain⟨vn,hyo,hyi,_⟩:=hy'.cells;refine m59 (by simp[DK,Fx]) ?_;rw[hro,Ee];have same:s.bs.set C [AG kc]=s.bs:=by grind[List.set_getElem_self]
  have start:∀(k' i':Int) (nm:List UInt8) (a:AV) (rows:List (List PV)) (Post:AV->AQ->Prop),BE a rows->Af (env R) 92 [.agg [AG k',SS nm,AG i',a]] (λr=>r=bif k==7 then .tuple [AG i,BB true] else .tuple [AG 0,BB false]) ->
    (∀bs,bs.take s.bs.length=s.bs.set C [AG kc]->BI ⟨bs,s.ts⟩->bs.length=s.bs.length+3->bs[s.bs.length]?=some [AG k',SS nm,AG i',a]->bs[s.bs.length+1]?=some yc->bs[s.bs.length+2]?=some Z4 ->
     ER (BB (k==7)) (
      He (env R) (Ce (env R) 59 0 0 0) (.func (.func f) [] cap) [AG (bif k==7 then i else 0)] ⟨bs,s.ts⟩ λa22 Zc=>
      ER a22 (
      JN Zc (.ptr C 0) λa24=>
      D5 (env R) Zc none a24 λa25=>
      DX .i64 .sub a25 (AG 1) λa26=>
      JN Zc (.ptr C 0) λa27=>
      IM (Ce (env R) 59 0 0 0) Zc 1 a27 a26 λUg=>
      JN Ug (.ptr C 0) λa29=>
      D5 (env R) Ug none a29 λa30=>
      DX .i64 .eql a30 (AG (-1)) λa31=>
      ER a31 (
      D5 (env R) Ug (some 4) (.ptr (s.bs.length+1) 0) λa32=>
      IM (Ce (env R) 59 0 0 0) Ug 4 (.ptr (s.bs.length+2) 0) a32 λqO=>
      D5 (env R) qO (some 4) (.ptr (s.bs.length+2) 0) λr=>
      QM (L.rr 59) s.bs.length Post r qO) (
      l7 R 0 0 0 (.ptr s.bs.length 0) (.ptr (s.bs.length+2) 0) Ug (QM (L.rr 59) s.bs.length Post))) (
      l7 R 0 0 0 (.ptr s.bs.length 0) (.ptr (s.bs.length+2) 0) Zc (QM (L.rr 59) s.bs.length Post))) (
      ADW R 0 0 0 (.ptr C 0) (.func (.func f) [] cap) (.ptr s.bs.length 0) (.ptr (s.bs.length+1) 0) (.ptr (s.bs.length+2) 0) ⟨bs,s.ts⟩ (QM (L.rr 59) s.bs.length Post))) ->
    ADX R 0 0 0 (.agg [AG k',SS nm,AG i',a]) (.ptr C 0) (.func (.func f) [] cap) (.agg yc) s (QM (L.rr 59) s.bs.length Post):=by
   intro k' i' nm a rows Post ha hv hh;refine AO8 (Bx (cs:=[AG k',SS nm,AG i',a]) rfl (by simp[ha.ok]) (Bx (cs:=yc) rfl hyo (Bj ?_)));simp only[Du,DH,Cm,Bd,Bt,Bz,CQ,Nat.reduceAdd];have g0:(s.bs++[[AG k',SS nm,AG i',a],yc,Z4])[s.bs.length]?=some [AG k',SS nm,AG i',a]:=El (j:=0) rfl rfl;refine Ag g0 rfl (AL hv ?_);rintro _ rfl
   have:=hh (s.bs++[[AG k',SS nm,AG i',a],yc,Z4]) AB (by
    intro d hd;simp only[B4,A5,Ep,Er] at hd
    show Ah (s.bs++_).length d=true
    rcases hd with hd|rfl|rfl|rfl
    .exact Bp AD d (hs d hd)
    .simp[Ah,Aw,ha.Aw]
    .grind[Bp]
    rfl) AD g0 (El rfl rfl) (El rfl rfl)
   cases hb7:k==7 with
   | true=>rw[hb7] at this; assumption
   | false=>simp_all
  have back:∀(k' i':Int) (nm:List UInt8) (a:AV) (u:List Ty) (kd:Int) (bs:List (List AV)) (Post:AV->AQ->Prop),BE a (Ad u)->bs.take s.bs.length=s.bs.set C [AG kd]->bs[s.bs.length]?=some [AG k',SS nm,AG i',a]->bs[s.bs.length+2]?=some Z4 ->
    (∀ds,BP (.mk k' nm i' u) (.agg ds)->Post (.agg ds) ⟨s.bs.set C [AG kd],s.ts⟩)->l7 R 0 0 0 (.ptr s.bs.length 0) (.ptr (s.bs.length+2) 0) ⟨bs,s.ts⟩ (QM (L.rr 59) s.bs.length Post):=by
   intro k' i' nm a u kd bs Post ha hT g0 g2 hP;refine AO9 (Ag g0 rfl (Bq g2 rfl rfl AI (AN _) (by simp[ha.ok]) (.inl (AN _)) (Ag (BZ g2) rfl ?_)));exact Uk hs ((Cj AA).trans hT) rfl (t:=.mk k' nm i' u) ⟨a,rfl,ha⟩ hP
  by_cases h7:k=7
  .subst h7
   simp only[CW,AM,AH,GM,Cy] at ht;obtain⟨hts,sw,hiN⟩:=ht;subst hts;have er:ren (.mk 7 n i [])=.mk 2 (36::HK i.toNat) 0 []:=rfl;rw[er] at hx;obtain⟨a,rfl,ha⟩:=hx;have vp:ia m b (.mk 7 n i []) kc=bif (m i)&&kc==0 then b else .mk 7 n i []:=AR
   have vq:BX m (.mk 7 n i [])=bif m i then 1 else 0:=AR
   rw[vp,vq];refine start 2 0 (36::HK i.toNat) a _ _ ha WE λbs hT hok hl g0 g1 g2=>?_
   have gV:Q bs:=hQ.ext _ _ _ (hQ.set _ _ hV) hT;have gC:bs[C]?=some [AG kc]:=CD hT AB;refine A9 ⟨_,_,hQ.call _ _ hok gV i _,?_⟩;cases hiv:m i with
   | false=>
    grind[Ay,Cd.refl]
   | true=>
    simp only[CZ,AM];refine A9 (C1 (AX gC) (AZ gC rfl (Hf AA AA (C1 (AX gC) (C2 gC AD rfl (AN _) rfl (.inl (AN _)) ?_)))));have gC':(bs.set C [AG (kc-1)])[C]?=some [AG (kc-1)]:=by rw[CX AA]
    have iV:(bs.set C [AG (kc-1)]).take s.bs.length=s.bs.set C [AG (kc-1)]:=by simp[*,EU]
    refine C1 (AX gC') (AZ gC' rfl (A0 ?_));have e0:(kc-1==-1)=(kc==0):=AB;rw[e0];cases sA:kc==0 with
    | true=>
     simp only[AM];refine A9 (Ag (BQ g1 AA) vn (Bq (BQ g2 AA) vn rfl AI (AN _) hyo (.inl (AN _)) (Ag (BZ (BQ g2 AA)) vn ?_)));refine Uk hs ((Cj AA).trans iV) rfl hy'.Fj λds hds=>⟨s.ts,ds,rfl,hds,Cd.refl _ _,rfl⟩
    | false=>
     simp only[AK];refine Ay (back 2 0 _ a [] (kc-1) _ _ ha iV (BQ g0 AA) (BQ g2 AA) λds hds=>⟨s.ts,ds,rfl,AB,Cd.refl _ _,rfl⟩)
  .have b7:(k==7)=false:=by grind
   have er:=Gw k n i ts h7;rw[er] at hx;rw[b7] at ht;simp only[AK,AH] at ht;obtain⟨a,rfl,ha⟩:=hx;refine start k i n a _ _ ha WE λbs hT hok hl g0 g1 g2=>?_
   rw[b7];refine Ay (APB (AO (AX g0) (AZ g0 rfl (EM ?_))));cases h3:k==3 with
   | false=>
    have hne:(k != 3)=true:=AB;rw[hne];have vp:ia m b (.mk k n i ts) kc=.mk k n i ts:=by grind[ia]
    have vq:BX m (.mk k n i ts)=0:=by grind[BX]
    rw[vp,vq];have:=back k i n a (CA ts) kc bs (λw s'=>∃ts' ds,w=.agg ds/\BP (ren (.mk k n i ts)) (.agg ds)/\Cd (.AE []) (.AE []) s.ts ts'/\s'=⟨s.bs.set C [AG (kc-(0:Nat))],ts'⟩) ha hT g0 g2 λds hds=>⟨s.ts,ds,rfl,AB,Cd.refl _ _,AD⟩
    exact A9 (Ag g0 rfl (Bq g2 rfl rfl AI (AN _) (by simp[ha.ok]) (.inl (AN _)) (Ag (BZ g2) rfl (Uk hs ((Cj AA).trans hT) rfl (t:=.mk k n i (CA ts)) ⟨a,rfl,ha⟩ λds hds=>⟨s.ts,ds,rfl,AB,Cd.refl _ _,AD⟩))))
   | true=>
    have hne:(k != 3)=false:=AB;rw[hne];have vp:ia m b (.mk k n i ts) kc=.mk k n i (Q5 m b ts kc):=by grind[ia]
    have vq:BX m (.mk k n i ts)=Cc m ts:=by grind[BX]
    rw[vp,vq,Gw k n i _ h7];refine Ay (APC (Ag g0 rfl (Bj ?_)));simp only[hl];have gl:(bs++[Z4])[s.bs.length+3]?=some Z4:=AB;refine Bq gl rfl rfl AI (AN _) (by simp[ha.ok]) (.inl (AN _)) ?_;have gl2:((bs++[Z4]).set (s.bs.length+3) [AG k,SS n,AG i,a])[s.bs.length+3]?=some [AG k,SS n,AG i,a]:=BZ gl;refine AO (AX gl2) (C2 (off:=3) gl2 (AY 4) rfl (AN _) rfl (.inl (AN _)) ?_);have eb:((bs++[Z4]).set (s.bs.length+3) [AG k,SS n,AG i,a]).set (s.bs.length+3) ([AG k,SS n,AG i,a].set 3 (.AE []))=bs++[[AG k,SS n,AG i,.AE []]]:=AB
    show E2 ⟨((bs++[Z4]).set (s.bs.length+3) [AG k,SS n,AG i,a]).set (s.bs.length+3) ([AG k,SS n,AG i,a].set 3 (.AE [])),s.ts⟩ _ _ _
    rw[eb];have q0:=Ai g0 [AG k,SS n,AG i,.AE []];refine AO (AX q0) (AZ q0 rfl (Aq (n:=ts.length) (by rw[ha.BA,Aa,Bo,Bm]) ?_))
    exact AA6 (C:=C) hQ (yc:=yc) ha AA h7 (k0:=kc) AA hk2 hs lC hV vn (λt hm k s hs h1 h2=>c8 hn iY hQ hy' ts AA ht.2.2 t hm k s hs h1 h2) (λts' ds h1 h2=>⟨ts',ds,rfl,h2,h1,rfl⟩) ts.length 0 kc [] _ s.ts (.AE []) AA AD rfl AD AD hk2
     (BI.app (s:=⟨bs,s.ts⟩) hok AR) ((DI AA _).trans hT) (Ai g1 _) (Ai g2 _) AB (.inl rfl) (Cd.refl _ _) (DS.AE _ _)
theorem c8 (hn:Pc R) {N:Nat} (iY:N<=2 ^ 40) {C:Nat} {f:FuncId} {cap:List AV} {m:Int->Bool} {Q:List (List AV)->Prop} (hQ:RcF R C f cap m Q) {b:Ty} {y:AV} (hy:A7 (ren b) y):∀(ts:List Ty),Ac ts<2 ^ 38->Gc N ts=true->∀t∈ts,∀(k:Int) (s:AQ),BI s->-(2 ^ 40)-2 ^ 38<=k-size t->k<2 ^ 40->AHb R C f cap m Q b y (.agg ((Aj (ren t)).map .pv)) t k s
 | [],_,_,_,h=>by cases h
 | u::l,h,ht,t,hm=>by
  simp only[Ac] at h;simp only[Gc,AH] at ht;rcases A5.1 hm with h' | h'
  .rw[h']
   exact Zb hn iY hQ hy u AA ht.1 _ (A7.Bi _).Fj
  .exact c8 hn iY hQ hy l AA ht.2 t h'
end
end
def Res (v:AV) (r:Option (List Ty)):Prop:=match r with
 | none=>v=.tuple [.AE [],BB false]
 | some l=>∃a,v=.tuple [a,BB true]/\BE a (Ad (CA l))
abbrev AU (A6:Nat):Nat->Bool:=λn=>decide (A6<n)
def Dk {α:Type} (ml A6:Nat) (o:Option α):Prop:=A6<2 ^ 20/\A6<=ml/\ml<2 ^ 63/\(ml=A6\/o.isSome=true)
theorem Dk.some {α β:Type} {ml A6:Nat} {o:Option α} (h:Dk ml A6 o) (r:β):Dk ml A6 (Option.some r):=⟨h.1,h.2.1,h.2.2.1,.inr rfl⟩
theorem Dk.none {α β:Type} {ml A6:Nat} (h:Dk ml A6 (Option.none:Option α)) (r:Option β):Dk ml A6 r:=by
 have:ml=A6:=by simpa using h.2.2.2
 exact⟨h.1,h.2.1,h.2.2.1,.inl this⟩
theorem Dk.quo {α:Type} {ml A6 n k:Nat} {X:Option α} (h:Dk ml A6 (bif AU A6 (n*k) then Option.none else X)) (hk:0<k):decide ((n:Int)>((ml / k:Nat):Int))=AU A6 (n*k):=by
 obtain⟨_,h1,_,h2⟩:=h
 have e:decide ((n:Int)>((ml / k:Nat):Int))=decide (ml<n*k):=by
  rw[Sg];simp only[Cy,gt_iff_lt,Int.ofNat_lt]
  grind[Nat.div_lt_iff_lt_mul]
 rw[e];cases hb:AU A6 (n*k) with
 | true=>
  rw[hb] at h2;have:ml=A6:=by simpa using h2
  grind
 | false=>grind
theorem Dk.APE {α:Type} {ml A6 n:Nat} {X:Option α} (h:Dk ml A6 (bif AU A6 n then Option.none else X)):decide ((n:Int)>(ml:Nat))=AU A6 n:=by
 have:=Dk.quo (n:=n) (k:=1) (X:=X) (by simpa using h) AA;simpa using this
theorem Dk.cmp {ml A6 n:Nat} {B:List Ty} {X:Fw} (h:Dk ml A6 (bif AU A6 n then(Option.none,B) else X).1):decide ((n:Int)>(ml:Nat))=AU A6 n:=by
 refine Dk.APE (X:=X.1) ?_;cases hb:AU A6 n <;> simpa[hb] using h
theorem FA {rr:Bool} {e A6:Nat} {v d':AV} {r:Option (List Ty)} {s0:AQ} {bs:List (List AV)} {ts:List (Nat×Nat)} {Post:AV->AQ->Prop} (h0:BI s0) (hT:bs.take s0.bs.length=s0.bs.set e [d',AG A6]) (hd:Aw s0.bs.length d'=true) (hr:Res v r) (hP:∀w,Res w r->Post w ⟨s0.bs.set e [d',AG A6],ts⟩):QM rr s0.bs.length Post v ⟨bs,ts⟩:=by
 have hok:((bs.take s0.bs.length).all (Ah s0.bs.length))=true:=by
  have:=BI.set h0 (c:=[d',AG A6]) (by grind[Ah,Aw]) ts (j:=e);rw[C3];intro b hb;have:=this b AB
  grind
 cases r with
 | none=>
  cases hr;refine J0 (ds:=[.AE [],BB false]) hok rfl ?_
  show Post _ ⟨bs.take _,ts⟩
  rw[hT];exact hP _ rfl
 | some l=>
  obtain⟨a,rfl,ha⟩:=hr;obtain⟨a',h1,h2⟩:=ha.close bs s0.bs.length ts.length;refine J0 (ds:=[a',BB true]) hok (by simp[*]) ?_
  show Post _ ⟨bs.take _,ts⟩
  rw[hT];exact hP _ ⟨a',rfl,h2⟩
theorem BP.cells {t:Ty} {y:List AV} (h:BP t (.agg y)):y.length=4/\y.all BD=true/\∀n,Ah n y=true:=by
 obtain⟨k,n,i,ts⟩:=t;obtain⟨a,hy,ha⟩:=h;cases hy;exact⟨rfl,by simp[ha.ok],λn=>by simp[Ah,Aw,ha.Aw]⟩
theorem BP.agg {t:Ty} {x:AV} (h:BP t x):∃cs,x=.agg cs:=by
 obtain⟨k,n,i,ts⟩:=t;obtain⟨a,rfl,_⟩:=h;simp
mutual
theorem IV (N:Nat):∀t:Ty,FH N t=E7 (λi=>decide (0<=i)&&decide (i<N)) t
 | .mk k n i ts=>by rw[FH,E7,c9 N ts]
theorem c9 (N:Nat):∀l:List Ty,Gc N l=EG (λi=>decide (0<=i)&&decide (i<N)) l
 | []=>rfl
 | t::l=>by rw[Gc,EG,IV N t,c9 N l]
end
theorem FB {L:BL} {s:AQ} {a y:AV} {es l:List Ty} {K:AV->AQ->Prop} (ha:Dl 0 s.ts 25 a (Ad es)) (Ee:L.rt=0) (hl:es.length+l.length<2 ^ 39) (hy:BE y (Ad l)) (h:∀a' ts',Dl 0 ts' 25 a' (Ad (es++l))->Cd a a' s.ts ts'->K a' ⟨s.bs,ts'⟩) :
  Ik false L s 25 4 56 a y K:=by
 have h1:=Aa es;have h2:=Aa l;refine Q4 (m:=Ad l) ha Ee (λr hr=>HD hr) (λr hr=>HD hr) AA (Dh hy λr hr=>HD hr) ?_ AA AA λa' ts' h3 h4=>h a' ts' (by grind[FU]) h4
 grind[Ic,DE]
theorem dA {α:Type} {A6:Nat} {g:α->List Ty->Fw}:∀(l:List α) (out B r:List Ty),out.length<=A6->(CY (AU A6) g l out B).1=some r->r.length<=A6
 | [],out,B,r,ho,h=>by grind[CY]
 | a::l,out,B,r,ho,h=>by
  rw[CY] at h;rcases hr:g a B with ⟨_|s,B1⟩
  .grind
  .rw[hr] at h
   simp only at h;cases hb:AU A6 (out++s).length with
   | true=>grind
   | false=>
    rw[hb] at h;exact dA l (out++s) B1 r AB h
theorem Q6 {A6:Nat} {ex:List Ty->Fw} {v:Nat}:∀(f:Nat) (t:Ty) (B r:List Ty),(CN (AU A6) ex v f t B).1=some r->r.length<=A6+1
 | 0,t,B,r,h=>by grind[CN]
 | f+1,t,B,r,h=>by
  rw[CN] at h;cases ho:DT v false t with
  | false=>grind
  | true=>
   rw[ho] at h;simp only[AM] at h;rcases he:ex B with ⟨_|cs,B1⟩
   .grind
   .rw[he] at h
    have:=dA cs [] B1 r AD h;omega
section
variable {R:RT}
def WG (R:RT) (e A6 f:Nat) (args:List AV) (o:Fw) (B:List Ty) (s:AQ):Prop:=∀(L:BL) (d:AV),L.ro=0->L.rt=0->s.bs[e]?=some [d,AG A6]->Dl 0 s.ts 25 d (Ad B) ->
 ∃v s',(∃d' ts',Res v o.1/\Dl 0 ts' 25 d' (Ad o.2)/\Cd d d' s.ts ts'/\s'=⟨s.bs.set e [d',AG A6],ts'⟩)/\BW (env R) L f (.ptr e 0::args) s v s'
end
mutual
theorem Ea:∀t:Ty,(Ae t).length<=size t
 | .mk k n i ts=>by
  have:=OV ts
  grind[Ae,size]
theorem OV:∀l:List Ty,(Bk l).length<=Ac l
 | []=>by simp[Bk]
 | t::l=>by
  have:=Ea t;have:=OV l
  grind[Bk,Ac]
end
mutual
theorem dB (N:Nat):∀(t:Ty) (o:List Nat),size (LG N t o).1<=size t
 | .mk k n i ts,o=>by
  have:=XX N ts o
  grind[LG,size,Ac]
theorem XX (N:Nat):∀(l:List Ty) (o:List Nat),Ac (G2 N l o).1<=Ac l
 | [],_=>by grind[G2]
 | t::l,o=>by
  have h1:=dB N t o;have h2:=XX N l (LG N t o).2
  grind[G2,Ac]
end
theorem Ul (B:List Ty) (p:Ty):size (HY B p).body<=size p/\(HY B p).bounds.length<=size p:=by grind[dB,S6,HY]
def Nx (b:Br):Bool:=decide (b.bounds.length<=6)&&decide ((Ae b.body).length<=3)
def Cg (o:List Br×Int):Bool:=o.2==0&&decide (o.1.length<=4)
def xP:Nat->Ty->List Br×Int
 | 0,_=>([],2)
 | f+1,t=>bif !(verdict t==0)||!(CP 0 t) then([],2) else match A4 (AU 32) (depth t) t [] with
  | (none,_)=>([],4)
  | (some ps,B)=>bif (ps.map (HY B)).all Nx&&(((ps.map (HY B)).flatMap Br.bounds).all λb=>Cg (xP f b)) then(ps.map (HY B),0) else([],4)
def xR:Nat->Ty->List Br×Int
 | 0,_=>([],2)
 | f+1,t=>bif !(verdict t==0)||!(CP 0 t) then([],2) else match DG (AU 32) (depth t) t with
  | none=>([],4)
  | some l=>bif (l.map Dq).all λb=>Nx b&&b.bounds.all λb=>Cg (xR f b) then(l.map Dq,0) else([],4)
theorem FX {t:Ty} (h:verdict t=0):valid t=true/\size t<=200/\depth t<=12:=by grind[verdict]
mutual
def Ec (P:Ty->Prop):Ty->Prop
 | .mk k _ _ ts=>(k=6->∀b body,ts=[b,body]->P b)/\(k=3\/k=4\/k=6->NA P ts)
def NA (P:Ty->Prop):List Ty->Prop
 | []=>True
 | t::l=>Ec P t/\NA P l
end
theorem XY {P:Ty->Prop}:∀{l:List Ty} {t:Ty},NA P l->t∈l->Ec P t
 | a::l,t,h,ht=>by
  rw[NA] at h;rcases A5.1 ht with rfl|ht
  .grind
  .exact XY h.2 ht
mutual
theorem Q7 {P Q:Ty->Prop} (h:∀b,P b->Q b):∀t:Ty,Ec P t->Ec Q t
 | .mk k n i ts,ht=>by
  rw[Ec] at ht ⊢;exact⟨λh6 b body e=>h b (ht.1 h6 b body e),λhk=>Um h ts (ht.2 hk)⟩
theorem Um {P Q:Ty->Prop} (h:∀b,P b->Q b):∀l:List Ty,NA P l->NA Q l
 | [],_=>trivial
 | t::l,hl=>by
  rw[NA] at hl ⊢;exact⟨Q7 h t hl.1,Um h l hl.2⟩
end
def HA (P:Ty->Prop) (ex:List Ty->Fw):Prop:=∀B,(∀b∈B,P b)->∀b∈(ex B).2,P b
section
variable {A8:Nat->Bool} {P:Ty->Prop}
theorem Q8 {α:Type} {g:α->List Ty->Fw} (hg:∀a,HA P (g a)):∀(l:List α) (out:List Ty),HA P (CY A8 g l out)
 | [],out,B,h=>h
 | a::l,out,B,h=>by
  have h1:=hg a B h;rw[CY];rcases hr:g a B with ⟨_|r,B1⟩
  .grind
  .rw[hr] at h1
   simp only;cases A8 (out++r).length with
   | true=>grind
   | false=>exact Q8 hg l _ B1 h1
theorem Un {ex:List Ty->Fw} (hx:HA P ex) (v:Nat):∀(f:Nat) (t:Ty),HA P (CN A8 ex v f t)
 | 0,_,B,h=>h
 | f+1,t,B,h=>by
  have h1:=hx B h;rw[CN];cases DT v false t with
  | false=>exact h
  | true=>
   simp only[AM];rcases hr:ex B with ⟨_|r,B1⟩
   .grind
   .rw[hr] at h1
    exact Q8 (λc=>Un hx v f _) r [] B1 h1
theorem ie {ex:List Ty->Fw} (hx:HA P ex) (v:Nat) (t:Ty):HA P (B6 A8 ex v t):=by
 intro B h;rw[B6];cases DT v true t with
 | true=>exact h
 | false=>exact Un hx v _ t B h
theorem Q9 {ex:Ty->List Ty->Fw}:∀(l out:List Ty) (ok:Bool),(∀t∈l,HA P (ex t))->∀B,(∀b∈B,P b)->∀b∈(Gm ex l out ok B).2,P b
 | [],_,_,_,_,h=>h
 | t::l,out,ok,hx,B,h=>by
  have h1:=hx t AD B h;rw[Gm];rcases hr:ex t B with ⟨_|r,B1⟩
  .rw[hr] at h1
   exact Q9 l out false (λa ha=>hx a AB) B1 h1
  .rw[hr] at h1
   exact Q9 l _ ok (λa ha=>hx a AB) B1 h1
theorem XZ {ex:Ty->List Ty->Fw}:∀(l:List Ty) (out:List (List Ty)),(∀t∈l,HA P (ex t))->∀B,(∀b∈B,P b)->∀b∈(E4 ex l out B).2,P b
 | [],_,_,_,h=>h
 | t::l,out,hx,B,h=>by
  have h1:=hx t AD B h;rw[E4];rcases hr:ex t B with ⟨_|r,B1⟩
  .grind
  .rw[hr] at h1
   exact XZ l _ (λa ha=>hx a AB) B1 h1
theorem RA:∀(f:Nat) (t:Ty) (σ:List Nat),valid t=true->CP σ.length t=true->Ec P t->HA P (A4 A8 f (inst σ 0 t))
 | 0,_,_,_,_,_=>λB h=>h
 | f+1,.mk k n i ts,σ,hv,hc,ha=>by
  intro B h;have ih:=λt σ=>RA f t σ
  have LY:=hv;simp only[valid,AH] at hv;rw[Ec] at ha
  have mem:∀(hk:k≠6) (aP:k≠5),(k=3\/k=4\/k=6)->∀t∈ts.map (inst σ 0),HA P (A4 A8 f t):=by
   intro hk aP MW t ht;obtain⟨t0,aQ,rfl⟩:=CR.1 ht;exact ih t0 σ (Bw hv.2 aQ) (Fg hk (DZ hc aP) aQ) (XY (ha.2 MW) aQ)
  rcases Dz σ 0 LY with ⟨rfl,rfl,rfl,_,_,⟨v,h2,h3⟩|h3⟩|⟨b5,h3⟩
  .grind[A4]
  .grind[A4]
  .rw[h3,A4]
   cases sA:k==0||k==2||k==7 with
   | true=>exact h
   | false=>
    simp only[AK];cases h4:k==4 with
    | true=>
     have:k=4:=AB;subst this;simp only[AM];rw[E5 (k:=4) AI];have:=Q9 (ts.map (inst σ 0)) [] true (mem AI AI AD) B h;omega
    | false=>
     simp only[AK];cases MW:k==3 with
     | true=>
      have:k=3:=AB;subst this;simp only[AM];rw[E5 (k:=3) AI];have:=XZ (ts.map (inst σ 0)) [] (mem AI AI AD) B h;generalize E4 (A4 A8 f) (ts.map (inst σ 0)) [] B=o at this ⊢;rcases o with ⟨_|ls,B1⟩
      .omega
      .simp only
       cases ls.any List.isEmpty with
       | true=>grind
       | false=>
        grind
     | false=>
      simp only[AK];cases ZD:k==6 with
      | false=>exact h
      | true=>
       have:k=6:=AB;subst this;rcases LF hv.1 with h' | h' | h' | h' | h' | h' | ⟨_,rfl,rfl,b,body,rfl,hcb⟩
       iterate 6 exact absurd h' AD
       have hPb:=ha.1 rfl b body rfl;have SH:=ha.2 AD;rw[NA,NA] at SH;simp only[BC,AH] at hv;obtain⟨_,KA,OW,_⟩:=hv;have eb:inst σ (0+EE 6 0) b=b:=JP σ b 0 KA hcb
       have hcy:CP (1+σ.length) body=true:=by
        have:=DZ hc AI;simp only[EF,AH] at this;have h2:=this.2.1;rw[NV];exact h2
       have SP:sub B.length 0 (inst σ 1 body)=inst (B.length::σ) 0 body:=Jt B.length σ body 0 OW AA
       have hkb:HA P (A4 A8 f b):=by
        have:=ih b [] KA hcb SH.1
        grind[C8]
       have hky:=ih body (B.length::σ) OW AB SH.2.1;simp only[AM,Dd,eb,bX];have e1:inst σ (0+EE 6 (0+1)) body=inst σ 1 body:=rfl;rw[e1,SP];have h1:=hky (B++[b]) AB;generalize A4 A8 f (inst (B.length::σ) 0 body) (B++[b])=o at h1 ⊢;rcases o with ⟨_|l,B1⟩
       .omega
       .simp only at h1 ⊢
        have h2:=Q8 (A8:=A8) (g:=B6 A8 (A4 A8 f b) B.length) (λa=>ie hkb B.length a) l [] B1 h1
        grind
end
section
variable {R:RT}
theorem AA7 (hn:Pc R) {e ml A6 v M S f:Nat} {B0:List Ty} {q:Int->Bool} (hq:∀i,q i=true->0<=i/\i<2 ^ 40) (JU:A6<2 ^ 20) (hS:S<2 ^ 37) {ex:List Ty->Fw} (ig:∀B,B<+:(ex B).2)
  {t:Ty} (htq:E7 q t=true) (M1:0<BX (·==(v:Int)) t) (htS:size t<=S) {xc:List AV} (hx:BP (ren t) (.agg xc)) {cs:List Ty} (Ff:cs.length<=A6) {a:AV} (ha:BE a (Ad (CA cs)))
  (ih:∀c∈cs,∀(B:List Ty),B0<+:B->(CN (AU A6) ex v f (Ip (·==(v:Int)) c t 0) B).2.length<=M->Dk ml A6 (CN (AU A6) ex v f (Ip (·==(v:Int)) c t 0) B).1->∀x,BP (ren (Ip (·==(v:Int)) c t 0)) x->∀s,BI s->WG R e ml 114 [x,AG v] (CN (AU A6) ex v f (Ip (·==(v:Int)) c t 0) B) B s)
  {s0:AQ} (hs0:BI s0) (he:e<s0.bs.length) {d0:AV} {o:Fw} (ij:o.2.length<=M) (hF:Dk ml A6 o.1) {rr:Bool} {Post:AV->AQ->Prop}
  (hP:∀w d' ts',Res w o.1->Dl 0 ts' 25 d' (Ad o.2)->Cd d0 d' s0.ts ts'->Post w ⟨s0.bs.set e [d',AG ml],ts'⟩) :
  ∀(j p:Nat) (out Bc:List Ty) (bs:List (List AV)) (tk:List (Nat×Nat)) (d acc:AV),p+j=cs.length->CY (AU A6) (λc B=>CN (AU A6) ex v f (Ip (·==(v:Int)) c t 0) B) (cs.drop p) out Bc=o->B0<+:Bc->out.length<=A6 ->
   BI ⟨bs,tk⟩->bs.take s0.bs.length=s0.bs.set e [d,AG ml]->bs[s0.bs.length]?=some xc->bs[s0.bs.length+1]?=some [AG v] ->
   Dl 0 tk 25 d (Ad Bc)->Dl 0 tk 25 acc (Ad (CA out))->Cd d0 d s0.ts tk->DS acc s0.ts->SR d acc ->
   vt R 0 0 0 (.ptr e 0) (.ptr s0.bs.length 0) (.ptr (s0.bs.length+1) 0) acc a (AG cs.length) (AG p) ⟨bs,tk⟩ (QM rr s0.bs.length Post):=by
 obtain⟨hx4,hxo,hxi⟩:=hx.cells;intro j
 induction j with
 | zero=>
  intro p out Bc bs tk d acc hi D0 hlo hout hs hT h0 h1 hd hacc hch hfr KE;refine vu (Ao ?_);rw[Az AA];rw[CH AA,CY] at D0;subst D0;exact Ay (AHd (FA hs0 hT (hd.A1.Aw _) (r:=some out) ⟨acc,rfl,hacc.A1⟩ λw hw=>hP w d tk hw hd hch))
 | succ j D1=>
  intro p out Bc bs tk d acc hi D0 hlo hout hs hT h0 h1 hd hacc hch hfr KE;refine vu (Ao ?_);rw[Ar AA];obtain⟨c,hc⟩:∃c,cs[p]?=some c:=⟨_,Au AA⟩;have hrc:(CA cs)[p]?=some (ren c):=by grind[Bo]
  have Kv:=A3 hc;have hrl:((Aj (ren c)).map AV.pv).length=4:=by grind[Al]
  have hro:=DE (ren c)
  have Ku:Ah (bs.length+1) ((Aj (ren c)).map AV.pv)=true:=by
   obtain⟨k1,n1,i1,t1⟩:=ren c;rfl
  have D4:=A7.Bi (ren c);refine A9 (AHe (BS ha (row:=Aj (ren c)) AA (by grind[BJ]) (Al _) AA (Ca (Bj ?_))));have hdr:cs.drop p=c::cs.drop (p+1):=drop_cons hc;rw[hdr,CY] at D0;generalize (Aj (ren c)).map AV.pv=row at hrl hro Ku D4;refine Bq (Ax bs Z4) hrl rfl AI (AN _) hro (.inl (AN _)) ?_;have e1:(bs++[Z4]).set bs.length row=bs++[row]:=AD;rw[e1];have l1:=(BH.1 h1).1;have Mi:s0.bs.length<=bs.length:=AA;refine Bj ?_;have ebl:(bs++[row]).length=bs.length+1:=AD;have gC:(bs++[row]++[[AG 0]])[bs.length+1]?=some [AG 0]:=AD;simp only[ebl];refine C2 gC AI rfl (AN _) rfl (.inl (AN _)) ?_;have e2:(bs++[row]++[[AG 0]]).set (bs.length+1) ([AG 0].set 0 (AG 0))=bs++[row]++[[AG 0]]:=AD
  show D5 _ ⟨(bs++[row]++[[AG 0]]).set (bs.length+1) ([AG 0].set 0 (AG 0)),tk⟩ _ _ _
  rw[e2];have hs1:BI ⟨bs++[row],tk⟩:=BI.app (s:=⟨bs,tk⟩) hs Ku;have hs2:BI ⟨bs++[row]++[[AG 0]],tk⟩:=BI.app (s:=⟨bs++[row],tk⟩) hs1 rfl;have g0:=Ai (Ai h0 row) [AG 0];have g1:=Ai (Ai h1 row) [AG 0];have gr:=Ai (Ax bs row) [AG 0];have Hh:=(DI (n:=s0.bs.length) AA [AG 0]).trans ((DI Mi row).trans hT);generalize hB2:bs++[row]++[[AG 0]]=b2 at gC hs2 g0 g1 gr Hh;have lb2:b2.length=bs.length+2:=AB;refine Ag g0 hx4 (Ag gr hrl ?_);obtain⟨w1,s1',⟨KS,ds,rfl,r1,r2,rfl⟩,r3⟩:=Zb hn (N:=2 ^ 40) (AY _) (C:=bs.length+1) (AHa (V:=s0.bs.length+1) AA v) (b:=c) D4 t AA (by grind[IV,E8]) (.agg xc) hx 0 ⟨b2,tk⟩ hs2 AA AA (Ce (env R) 114 0 0 0) rfl rfl gC g1;have ez:ia (·==(v:Int)) c t 0=Ip (·==(v:Int)) c t 0:=ic (·==(v:Int)) c t 0 M1;rw[ez] at r1;have hs3:BI ⟨b2.set (bs.length+1) [AG (0-BX (·==(v:Int)) t)],KS⟩:=BI.set (s:=⟨b2,tk⟩) hs2 rfl _;have QV:(b2.set (bs.length+1) [AG (0-BX (·==(v:Int)) t)]).take s0.bs.length=s0.bs.set e [d,AG ml]:=(Cj AA).trans Hh;have k0:(b2.set (bs.length+1) [AG (0-BX (·==(v:Int)) t)])[s0.bs.length]?=some xc:=BQ g0 AA;have k1:(b2.set (bs.length+1) [AG (0-BX (·==(v:Int)) t)])[s0.bs.length+1]?=some [AG v]:=BQ g1 AA;have gE:(s0.bs.set e [d,AG ml])[e]?=some [d,AG ml]:=by rw[CX he]
  refine⟨_,_,r3,AZ k1 rfl ?_⟩;have lb3:(b2.set (bs.length+1) [AG (0-BX (·==(v:Int)) t)]).length=bs.length+2:=by rw[O4,lb2]
  generalize b2.set (bs.length+1) [AG (0-BX (·==(v:Int)) t)]=b3 at hs3 QV k0 k1 lb3;have hdk:=r2.keep hd (λ_ h=>by cases h);have ADZ:=r2.keep hacc (λ_ h=>by cases h);have qR:=hch.side r2 (DS.AE _ _);have iq:=ih c Kv Bc hlo;have hlen:=IB (A8:=AU A6) ig v f (Ip (·==(v:Int)) c t 0) Bc;have hrb:=Q6 (A6:=A6) (ex:=ex) (v:=v) f (Ip (·==(v:Int)) c t 0) Bc;have hfp:∀(l:List Ty) out B,B<+:(CY (AU A6) (λc B=>CN (AU A6) ex v f (Ip (·==(v:Int)) c t 0) B) l out B).2:=λl out B=>Ij (λc B=>IB ig v f _ B) l out B
  rcases hg:CN (AU A6) ex v f (Ip (·==(v:Int)) c t 0) Bc with ⟨r,B1⟩
  rw[hg] at iq hlen hrb D0;simp only at iq hlen hrb D0
  have WH:B1.length<=M:=by
   cases r with
   | none=>grind
   | some r=>
    simp only at D0;cases hb:AU A6 (out++r).length with
    | true=>grind
    | false=>
     grind
  have l8:Dk ml A6 r:=by
   cases r with
   | none=>
    rw[<-D0] at hF;exact hF
   | some r=>exact hF.some _
  obtain⟨w2,s2',⟨d2,I6,q1,q2,q3,rfl⟩,q4⟩:=iq WH l8 (.agg ds) r1 ⟨b3,KS⟩ hs3 (Ce (env R) 114 0 0 0) d rfl rfl (CD QV gE) hdk;have sK:(b3.set e [d2,AG ml]).take s0.bs.length=s0.bs.set e [d2,AG ml]:=by simp[*,EU]
  have kE:(b3.set e [d2,AG ml])[e]?=some [d2,AG ml]:=by rw[CX AA]
  have LO:SR d2 acc:=KE.Py q3 ADZ;have KZ:=q3.keep ADZ KE;have LP:=qR.trans q3;have heq:Tel.Dg (AG v) (AG v)=true:=by simp[Tel.Dg,NZ,FQ]
  cases r with
  | none=>
   cases q1;simp only at D0;subst D0;refine⟨_,_,q4,B9 rfl (B9 rfl ⟨AZ g1 rfl heq,AI,FB (l:=[]) KZ rfl (by rw[Bo,Bm]; grind) (.inl (.AE _)) λacc' Nl _ Vp=>?_⟩)⟩;exact nt (Cr (Cr (Cr (Cr (Cr (Cr (Cr (pk (A9 (FA hs0 sK (q2.A1.Aw _) (r:=none) rfl λw hw=>hP w d2 Nl hw (Vp.keep q2 LO.symm) (LP.side Vp hfr)))))))))))
  | some r=>
   obtain⟨a2,rfl,SH⟩:=q1;have AYR:=hrb r rfl;refine⟨_,_,q4,B9 rfl (B9 rfl ⟨AZ g1 rfl heq,AI,FB KZ rfl (by rw[Bo,Bo,Bm,Bm]; omega) SH λacc' Nl MS Vp=>?_⟩)⟩;have er:CA out++CA r=CA (out++r):=by simp[Bo]
   rw[er] at MS;have hd3:=Vp.keep q2 LO.symm;have OX:=LP.side Vp hfr;refine nt (Ak (b:=false) (Ak (b:=false) (Aq (n:=(out++r).length) (by rw[MS.A1.BA,Aa,Bo,Bm]) (Ak (b:=false) (Ak (b:=false) (C1 (AX kE) (Ak (b:=false) (AO (AX kE) (Ak (b:=false) (AZ (off:=1) kE rfl (Ak (b:=false) (F8 (pk ?_)))))))))))));simp only at D0;have eb:decide (((out++r).length:Int)>(ml:Nat))=AU A6 (out++r).length:=Dk.cmp (by rw[D0]; exact hF);rw[eb];cases hb:AU A6 (out++r).length with
   | true=>
    rw[hb] at D0;simp only[AM] at D0;subst D0;exact A9 (FA hs0 sK (q2.A1.Aw _) (r:=none) rfl λw hw=>hP w d2 Nl hw hd3 OX)
   | false=>
    rw[hb] at D0;simp only[AK] at D0;refine Ay (AHg (Ba AA AA ?_));have hs4:BI ⟨b3.set e [d2,AG ml],Nl⟩:=BI.set (s:=⟨b3,KS⟩) hs3 (by simp[Ah,Aw,q2.A1.Aw]) _;have fin:=D1 (p+1) (out++r) B1 (b3.set e [d2,AG ml]) Nl d2 acc' AA D0 (hlo.trans hlen) AB hs4 sK (BQ k0 AA) (BQ k1 AA) hd3 MS OX (hfr.Py Vp (BK qR.1 q3.1)) (LO.symm.Py Vp q2).symm
    grind
end
structure ExB (A6 v M W:Nat) (B0:List Ty) (q:Int->Bool) (ex:List Ty->Fw):Prop where
 pre:∀B,B<+:(ex B).2
 res:∀B r,B0<+:B->(ex B).1=some r->(ex B).2.length<=M->r.length<=A6/\∀c∈r,E7 q c=true/\(∀inv,DT v inv c=false)/\BX (·==(v:Int)) c=0/\size c<=W/\pat c=true
section
variable {R:RT}
def qT (R:RT) (e ml A6 v M W S:Nat) (B0:List Ty) (q:Int->Bool) (ex:List Ty->Fw) (f:Nat):Prop:=∀(t:Ty),E7 q t=true->pat t=true->DT v true t=false->BX (·==(v:Int)) t<=f->size t+BX (·==(v:Int)) t*W<=S->∀(B:List Ty),B0<+:B->(CN (AU A6) ex v f t B).2.length<=M->Dk ml A6 (CN (AU A6) ex v f t B).1 ->
 ∀x,BP (ren t) x->∀s,BI s->WG R e ml 114 [x,AG v] (CN (AU A6) ex v f t B) B s
theorem l9 (hn:Pc R) {e ml A6 v M W S:Nat} {B0:List Ty} {q:Int->Bool} (hq:∀i,q i=true->0<=i/\i<2 ^ 40) (JU:A6<2 ^ 20) (hS:S<2 ^ 37) {ex:List Ty->Fw} {b:Ty} (hx:ExB A6 v M W B0 q ex) (hv:B0[v]?=some b)
  (hex:∀(B:List Ty) (s:AQ),BI s->B0<+:B->(ex B).2.length<=M->Dk ml A6 (ex B).1->WG R e ml 44 [.agg ((Aj b).map .pv)] (ex B) B s)
  {f:Nat} (hih:f=0\/∃f',f=f'+1/\qT R e ml A6 v M W S B0 q ex f'):qT R e ml A6 v M W S B0 q ex f:=by
 intro t ht hp hoc hf htS B hB hM hF x kP s hs L d hro Ee hE hd;obtain⟨xc,rfl⟩:=kP.agg;obtain⟨hx4,hxo,hxi⟩:=kP.cells;have le:=(BH.1 hE).1;have same:s.bs.set e [d,AG ml]=s.bs:=by grind[List.set_getElem_self]
 refine AYS AR ?_;rw[hro,Ee];have g0:(s.bs++[xc,[AG v]])[s.bs.length]?=some xc:=El (j:=0) rfl rfl;have g1:(s.bs++[xc,[AG v]])[s.bs.length+1]?=some [AG v]:=El rfl rfl;have hT:(s.bs++[xc,[AG v]]).take s.bs.length=s.bs.set e [d,AG ml]:=AB
 have hok:BI ⟨s.bs++[xc,[AG v]],s.ts⟩:=by
  intro c hc;simp only[B4,A5,Ep,Er] at hc
  show Ah (s.bs++_).length c=true
  rcases hc with hc|rfl|rfl
  .exact Bp AD c (hs c hc)
  .grind
  rfl
 refine AHi (Bx (cs:=xc) rfl hxo (Bx (cs:=[AG v]) rfl rfl ?_));simp only[Du,DH,Cm,Bd,Bt,Bz,CQ];generalize s.bs++[xc,[AG v]]=bs at g0 g1 hT hok;have Pz:FH (2 ^ 40) t=true:=by grind[IV,E8]
 have gE:bs[e]?=some [d,AG ml]:=CD hT (by rw[CX le]);refine Ag g0 hx4 (AZ g1 rfl (AL (P0 hn (AY _) v t false AA Pz kP) ?_));rintro _ rfl;have APF:=ZR t hp hoc;rw[APF]
 by_cases hc0:0<BX (·==(v:Int)) t
 .obtain⟨f,rfl,ihf⟩:∃f',f=f'+1/\qT R e ml A6 v M W S B0 q ex f':=by grind
  rw[CN,APF,Ar hc0] at hM hF ⊢;simp only[AM] at hM hF ⊢;have hBv:B[v]?=some b:=Ly hB hv;refine nt (Ay (AHj (C1 (AX gE) (AO (AX gE) (AZ (off:=0) gE rfl (AZ g1 rfl (BS hd.A1 (row:=Aj b) AA (by grind[BJ]) (Al _) AA (Ca ?_))))))));have AHk:=hex B ⟨bs,s.ts⟩ hok hB;have hxB:=hx.res B;have hpre:=hx.pre B;have hfp:∀(l:List Ty) B,B<+:(CY (AU A6) (λc B=>CN (AU A6) ex v f (Ip (·==(v:Int)) c t 0) B) l [] B).2:=λl B=>Ij (λc B=>IB hx.pre v f _ B) l [] B
  rcases he:ex B with ⟨r,B1⟩
  rw[he] at hM hF AHk hxB hpre;simp only at hM hF AHk hxB hpre;have vv:B1.length<=M:=AB
  have l8:Dk ml A6 r:=by
   cases r with
   | none=>exact hF
   | some r=>exact hF.some _
  obtain⟨w,s',⟨d1,KS,q1,q2,q3,rfl⟩,q4⟩:=AHk vv l8 (Ce (env R) 114 0 0 0) d rfl rfl gE hd;have Ny:(bs.set e [d1,AG ml]).take s.bs.length=s.bs.set e [d1,AG ml]:=by grind[EU]
  cases r with
  | none=>
   cases q1;exact⟨_,_,q4,B9 rfl (B9 rfl (nt (A9 (FA hs Ny (q2.A1.Aw _) (r:=none) rfl λw hw=>⟨d1,KS,hw,q2,q3,rfl⟩))))⟩
  | some cs=>
   obtain⟨a,rfl,ha⟩:=q1;obtain⟨Ff,hcs⟩:=hxB cs hB rfl vv;refine⟨_,_,q4,B9 rfl (B9 rfl (nt (Ay (AHl (Aq (n:=cs.length) (by rw[ha.BA,Aa,Bo,Bm]) ?_)))))⟩;simp only at hM hF ⊢
   refine AA7 hn (M:=M) (S:=S) (f:=f) (B0:=B0) hq JU hS hx.pre ht hc0 AA kP Ff ha ?_ hs le hM hF (λw d' ts' h1 h2 h3=>⟨d',ts',h1,h2,h3,rfl⟩) cs.length 0 [] B1 _ KS d1 (.AE []) AA rfl (hB.trans hpre) (AN _)
    (BI.set (s:=⟨bs,s.ts⟩) hok (by simp[Ah,Aw,q2.A1.Aw]) _) Ny (BQ g0 AA) (BQ g1 AA) q2 (.inl rfl) q3 (DS.AE _ _) (SR.AE _ _)
   intro c hc B' hB' iP hF' x' hx' s' hs';obtain⟨c1,c2,c3,c4,c5⟩:=hcs c hc;obtain⟨r1,r2⟩:=Nk (b:=c) t 0 hc0;have:BX (·==(v:Int)) t*W=BX (·==(v:Int)) (Ip (·==(v:Int)) c t 0)*W+W:=AB;exact ihf _ (Pg c1 t 0 ht) (S4 c5 t 0 hp) (ZS (c2 true) t 0 hoc) AA AA B' hB' iP hF' x' hx' s' hs'
 .have ef:CN (AU A6) ex v f t B=(some [t],B):=by grind[CN]
  rw[ef,Az hc0];refine nt (A9 (Ag g0 hx4 (E9 kP ?_)));exact FA hs hT (hd.A1.Aw _) (r:=some [t]) ⟨.AE [Aj (ren t)],rfl,.inl (by grind[CA,Ad,A2.AE])⟩ λw hw=>⟨d,s.ts,hw,hd,Cd.refl _ _,rfl⟩
theorem mA (hn:Pc R) {e ml A6 v M W S:Nat} {B0:List Ty} {q:Int->Bool} (hq:∀i,q i=true->0<=i/\i<2 ^ 40) (JU:A6<2 ^ 20) (hS:S<2 ^ 37) {ex:List Ty->Fw} {b:Ty} (hx:ExB A6 v M W B0 q ex) (hv:B0[v]?=some b)
  (hex:∀(B:List Ty) (s:AQ),BI s->B0<+:B->(ex B).2.length<=M->Dk ml A6 (ex B).1->WG R e ml 44 [.agg ((Aj b).map .pv)] (ex B) B s):∀f,qT R e ml A6 v M W S B0 q ex f
 | 0=>l9 hn hq JU hS hx hv hex (.inl rfl)
 | f+1=>l9 hn hq JU hS hx hv hex (.inr ⟨f,rfl,mA hn hq JU hS hx hv hex f⟩)
end
section
variable {R:RT}
theorem AA9 (hn:Pc R) {e ml A6 v M W S:Nat} {B0:List Ty} {q:Int->Bool} (hq:∀i,q i=true->0<=i/\i<2 ^ 40) (JU:A6<2 ^ 20) (hS:S<2 ^ 37) {ex:List Ty->Fw} (ig:∀B,B<+:(ex B).2) {cs:List Ty} (Ff:cs.length<=A6) {a:AV} (ha:BE a (Ad (CA cs)))
  (hcs:∀t∈cs,E7 q t=true/\pat t=true/\size t+BX (·==(v:Int)) t*W<=S) (ih:∀f,qT R e ml A6 v M W S B0 q ex f)
  {s0:AQ} (hs0:BI s0) (he:e<s0.bs.length) {d0:AV} {o:Fw} (ij:o.2.length<=M) (hF:Dk ml A6 o.1) {rr:Bool} {Post:AV->AQ->Prop}
  (hP:∀w d' ts',Res w o.1->Dl 0 ts' 25 d' (Ad o.2)->Cd d0 d' s0.ts ts'->Post w ⟨s0.bs.set e [d',AG ml],ts'⟩) :
  ∀(j p:Nat) (out Bc:List Ty) (bs:List (List AV)) (tk:List (Nat×Nat)) (d acc:AV),p+j=cs.length->CY (AU A6) (B6 (AU A6) ex v) (cs.drop p) out Bc=o->B0<+:Bc->out.length<=A6 ->
   BI ⟨bs,tk⟩->bs.take s0.bs.length=s0.bs.set e [d,AG ml]->s0.bs.length<=bs.length ->
   Dl 0 tk 25 d (Ad Bc)->Dl 0 tk 25 acc (Ad (CA out))->Cd d0 d s0.ts tk->DS acc s0.ts->SR d acc ->
   ADa R 0 0 0 (.ptr e 0) (AG v) acc a (AG cs.length) (AG p) ⟨bs,tk⟩ (QM rr s0.bs.length Post):=by
 intro j
 induction j with
 | zero=>
  intro p out Bc bs tk d acc hi D0 hlo hout hs hT Mi hd hacc hch hfr KE;refine ADb (Ao ?_);rw[Az AA];rw[CH AA,CY] at D0;subst D0;exact Ay (APH (FA hs0 hT (hd.A1.Aw _) (r:=some out) ⟨acc,rfl,hacc.A1⟩ λw hw=>hP w d tk hw hd hch))
 | succ j D1=>
  intro p out Bc bs tk d acc hi D0 hlo hout hs hT Mi hd hacc hch hfr KE;refine ADb (Ao ?_);rw[Ar AA];obtain⟨c,hc⟩:∃c,cs[p]?=some c:=⟨_,Au AA⟩;have hrc:(CA cs)[p]?=some (ren c):=by grind[Bo]
  obtain⟨c1,c2,c3⟩:=hcs c (A3 hc);have hrl:((Aj (ren c)).map AV.pv).length=4:=by grind[Al]
  have hro:=DE (ren c)
  have Ku:Ah (bs.length+1) ((Aj (ren c)).map AV.pv)=true:=by
   obtain⟨k1,n1,i1,t1⟩:=ren c;rfl
  have D4:=(A7.Bi (ren c)).Fj;refine A9 (API (BS ha (row:=Aj (ren c)) AA (by grind[BJ]) (Al _) AA (Ca (Bj ?_))));have hdr:cs.drop p=c::cs.drop (p+1):=drop_cons hc;rw[hdr,CY] at D0;have Pz:FH (2 ^ 40) c=true:=by grind[IV,E8]
  generalize (Aj (ren c)).map AV.pv=row at hrl hro Ku D4;refine Bq (Ax bs Z4) hrl rfl AI (AN _) hro (.inl (AN _)) ?_;have e1:(bs++[Z4]).set bs.length row=bs++[row]:=AD;rw[e1];have hs1:BI ⟨bs++[row],tk⟩:=BI.app (s:=⟨bs,tk⟩) hs Ku;have gr:=Ax bs row;have Ny:=(DI Mi row).trans hT;have lb:(bs++[row]).length=bs.length+1:=AD;generalize bs++[row]=b1 at hs1 gr Ny lb;have gE:(s0.bs.set e [d,AG ml])[e]?=some [d,AG ml]:=by rw[CX he]
  have hfp:∀(l:List Ty) out B,B<+:(CY (AU A6) (B6 (AU A6) ex v) l out B).2:=λl out B=>Ij (λc B=>LK ig v c B) l out B
  have fin:∀(r:Option (List Ty)) (B1:List Ty) (b2:List (List AV)) (I6:List (Nat×Nat)) (d2 a1 a2:AV),(match r with
     | none=>((none,B1):Fw)
     | some r=>bif AU A6 (out++r).length then(none,B1) else CY (AU A6) (B6 (AU A6) ex v) (cs.drop (p+1)) (out++r) B1)=o->B0<+:B1->(∀l,r=some l->l.length<=A6+1)->Res (.tuple [a1,a2]) r ->
    BI ⟨b2,I6⟩->b2.take s0.bs.length=s0.bs.set e [d2,AG ml]->s0.bs.length<=b2.length->Dl 0 I6 25 d2 (Ad B1)->Dl 0 I6 25 acc (Ad (CA out))->Cd d0 d2 s0.ts I6->SR d2 acc ->
    ADc R 0 0 0 (.ptr e 0) (AG v) acc a1 a2 a (AG cs.length) (AG p) ⟨b2,I6⟩ (QM rr s0.bs.length Post):=by
   intro r B1 b2 I6 d2 a1 a2 D0 vv hrb hres hs2 Hh hn2 TZ KZ LP LO;have kE:b2[e]?=some [d2,AG ml]:=CD Hh (by rw[CX he]);cases r with
   | none=>
    cases hres;simp only at D0;subst D0;refine ADd ⟨AI,FB (l:=[]) KZ rfl (by grind[Bo]) (.inl (.AE _)) λacc' Nl _ Vp=>?_⟩;exact nt (Cr (Cr (Cr (Cr (Cr (Cr (Cr (pk (A9 (FA hs0 Hh (TZ.A1.Aw _) (r:=none) rfl λw hw=>hP w d2 Nl hw (Vp.keep TZ LO.symm) (LP.side Vp hfr)))))))))))
   | some r=>
    obtain⟨a3,hae,z7⟩:=hres;cases hae;have AYR:=hrb r rfl;refine ADd ⟨AI,FB KZ rfl (by grind[Bo]) z7 λacc' Nl MS Vp=>?_⟩;have er:CA out++CA r=CA (out++r):=by simp[Bo]
    rw[er] at MS;have hd3:=Vp.keep TZ LO.symm;have OX:=LP.side Vp hfr;refine nt (Ak (b:=false) (Ak (b:=false) (Aq (n:=(out++r).length) (by rw[MS.A1.BA,Aa,Bo,Bm]) (Ak (b:=false) (Ak (b:=false) (C1 (AX kE) (Ak (b:=false) (AO (AX kE) (Ak (b:=false) (AZ (off:=1) kE rfl (Ak (b:=false) (F8 (pk ?_)))))))))))));simp only at D0;have eb:decide (((out++r).length:Int)>(ml:Nat))=AU A6 (out++r).length:=Dk.cmp (by rw[D0]; exact hF);rw[eb];cases hb:AU A6 (out++r).length with
    | true=>
     rw[hb] at D0;simp only[AM] at D0;subst D0;exact A9 (FA hs0 Hh (TZ.A1.Aw _) (r:=none) rfl λw hw=>hP w d2 Nl hw hd3 OX)
    | false=>
     rw[hb] at D0;simp only[AK] at D0;refine Ay (APJ (Ba AA AA ?_));have fin:=D1 (p+1) (out++r) B1 b2 Nl d2 acc' AA D0 vv AB hs2 Hh hn2 hd3 MS OX (hfr.Py Vp LP.1) (LO.symm.Py Vp TZ).symm
     grind
  have vG:=P0 (R:=R) hn (AY _) v c true AA Pz D4;refine Ag gr hrl (E9 D4 (Ag gr hrl (AL vG ?_)));rintro _ rfl;refine nt ?_;cases ho:DT v true c with
  | true=>
   have eg:B6 (AU A6) ex v c Bc=(some [c],Bc):=by grind[B6]
   rw[eg] at D0;refine Ay (fin (some [c]) Bc b1 tk d (.AE [Aj (ren c)]) (BB true) D0 hlo (λl hl=>by grind) ⟨_,rfl,.inl (by grind[CA,Ad,A2.AE])⟩ hs1 Ny AA hd hacc hch KE)
  | false=>
   have eg:B6 (AU A6) ex v c Bc=CN (AU A6) ex v (BX (·==(v:Int)) c) c Bc:=by grind[B6]
   rw[eg] at D0;have hrb:=Q6 (A6:=A6) (ex:=ex) (v:=v) (BX (·==(v:Int)) c) c Bc;have hlen:=IB (A8:=AU A6) ig v (BX (·==(v:Int)) c) c Bc;have iq:=ih (BX (·==(v:Int)) c) c c1 c2 ho (AY _) c3 Bc hlo;rcases hg:CN (AU A6) ex v (BX (·==(v:Int)) c) c Bc with ⟨r,B1⟩
   rw[hg] at iq hlen hrb D0;simp only at iq hlen hrb;have WH:B1.length<=M:=AB
   have l8:Dk ml A6 r:=by
    cases r with
    | none=>
     rw[<-D0] at hF;exact hF
    | some r=>exact hF.some _
   obtain⟨w2,s2',⟨d2,I6,q1,q2,q3,rfl⟩,q4⟩:=iq WH l8 (.agg row) D4 ⟨b1,tk⟩ hs1 (Ce (env R) 81 0 0 0) d rfl rfl (CD Ny gE) hd
   obtain⟨x1,x2,rfl⟩:∃x1 x2,w2=.tuple [x1,x2]:=by
    cases r with
    | none=>exact⟨_,_,q1⟩
    | some r=>exact⟨_,_,q1.choose_spec.1⟩
   refine A9 (Ag gr hrl ⟨_,_,q4,B9 rfl (B9 rfl ?_)⟩);exact fin r B1 (b1.set e [d2,AG ml]) I6 d2 x1 x2 (by cases r <;> omega) (hlo.trans hlen) (λl hl=>hrb l hl) q1 (BI.set (s:=⟨b1,tk⟩) hs1 (by simp[Ah,Aw,q2.A1.Aw]) _) (by simp[*,EU]) AB q2 (q3.keep hacc KE) (hch.trans q3) (KE.Py q3 hacc)
theorem ABA (hn:Pc R) {e ml A6 v M W S:Nat} {B0:List Ty} {q:Int->Bool} (hq:∀i,q i=true->0<=i/\i<2 ^ 40) (JU:A6<2 ^ 20) (hS:S<2 ^ 37) {ex:List Ty->Fw} (ig:∀B,B<+:(ex B).2) {cs:List Ty} (Ff:cs.length<=A6) {a:AV} (ha:BE a (Ad (CA cs)))
  (hcs:∀t∈cs,E7 q t=true/\pat t=true/\size t+BX (·==(v:Int)) t*W<=S) (ih:∀f,qT R e ml A6 v M W S B0 q ex f)
  {B:List Ty} (hB:B0<+:B) (hM:(CY (AU A6) (B6 (AU A6) ex v) cs [] B).2.length<=M) (hF:Dk ml A6 (CY (AU A6) (B6 (AU A6) ex v) cs [] B).1) {s:AQ} (hs:BI s):WG R e ml 81 [a,AG v] (CY (AU A6) (B6 (AU A6) ex v) cs [] B) B s:=by
 intro L d hro Ee hE hd;have le:=(BH.1 hE).1;have same:s.bs.set e [d,AG ml]=s.bs:=by grind[List.set_getElem_self]
 refine m81 AR ?_;rw[hro,Ee];refine APK (Aq (n:=cs.length) (by rw[ha.BA,Aa,Bo,Bm]) ?_);exact AA9 hn hq JU hS ig Ff ha hcs ih hs le hM hF (λw d' ts' h1 h2 h3=>⟨d',ts',h1,h2,h3,rfl⟩) cs.length 0 [] B s.bs s.ts d (.AE []) AA rfl hB (AN _) hs AB (AY _) hd (.inl rfl) (Cd.refl _ _) (DS.AE _ _) (SR.AE _ _)
end
def Dr (ls:List (List Ty)):List (List PV):=ls.map λl=>[.list (Ad (CA l))]
theorem IC (ls:List (List Ty)):(Dr ls).length=ls.length:=by simp[Dr]
theorem ir {ls:List (List Ty)}:∀r∈Dr ls,r.length=1:=by grind[Dr]
section
variable {R:RT}
theorem iu (rows:List (List PV)):Af (env R) 145 [.pv (.list rows)] λr=>r=BB (rows.length==0):=by
 refine AYU AR (AHm (Aq (n:=rows.length) rfl (A0 ⟨_,rfl,?_⟩)));have e:(((rows.length:Nat):Int)==0)=(rows.length==0):=AB;rw[e]
theorem dD {ls:List (List Ty)} {y:AV} (hy:BE y (Dr ls)) (hl:ls.length<2 ^ 60) {n0 ro rt:Nat} {s:AQ} {QR:QT} :
  ∀(j p:Nat),p+j=ls.length->(∀i:Int,decide (0<=i)=(ls.drop p).any List.isEmpty->QR (AG i) s)->vw R n0 ro rt y (.func (.func 145) [] []) (AG ls.length) (AG p) s QR:=by
 intro j
 induction j with
 | zero=>
  intro p hi hP;refine v7 (Ao ?_);rw[Az AA];rw[CH AA] at hP;exact Ay (AHn (hP (-1) AD))
 | succ j D1=>
  intro p hi hP;refine v7 (Ao ?_);rw[Ar AA];obtain⟨l,ht⟩:∃l,ls[p]?=some l:=⟨_,Au AA⟩;rw[drop_cons ht] at hP;refine A9 (AHo (BS hy (row:=[.list (Ad (CA l))]) AA (by simp[*,Dr]) rfl AA (Dy (AL (iu _) ?_))));rintro _ rfl;have el:((Ad (CA l)).length==0)=l.isEmpty:=by grind[Aa,Bo]
  rw[el];cases hg:l.isEmpty with
  | true=>exact A9 (hP p (by simp[hg]))
  | false=>
   refine Ay (AHp (Ba AA AA ?_));simp only[O2,hg,GL] at hP;have:=D1 (p+1) AA hP;simpa using this
theorem Xa {ls:List (List Ty)} {y:AV} (hy:BE y (Dr ls)) (hl:ls.length<2 ^ 60) {s:AQ} (hs:BI s) (L:BL):∃i:Int,decide (0<=i)=ls.any List.isEmpty/\BW (env R) L 166 [y,.func (.func 145) [] []] s (AG i) s:=by
 have hlen:∀s,BA s y=some ls.length:=λs=>by rw[hy.BA,IC]
 cases hn:Fx y with
 | true=>
  obtain⟨v,⟨i,rfl,h⟩,hc⟩:=AYV (R:=R) (t0:=y) (t1:=.func (.func 145) [] []) (Post:=λv=>∃i:Int,v=AG i/\decide (0<=i)=ls.any List.isEmpty) (by grind[DK,Fx]) (v8 (Aq (hlen _) (dD hy hl ls.length 0 AA λi h=>⟨AG i,rfl,i,rfl,AB⟩)))
  grind
 | false=>
  obtain⟨v,s',⟨i,rfl,rfl,h⟩,hc⟩:=AYW (R:=R) (L:=L) (s:=s) (t0:=y) (t1:=.func (.func 145) [] []) (Post:=λv s'=>∃i:Int,v=AG i/\s'=s/\decide (0<=i)=ls.any List.isEmpty) (by grind[DK]) (v8 (Aq (hlen _) (dD hy hl ls.length 0 AA λi h=>by
   have:=JR (rr:=L.rr 166) hs (m:=[]) (p:=.sc (.int .i64 i)) (Post:=λv s'=>∃i:Int,v=AG i/\s'=s/\decide (0<=i)=ls.any List.isEmpty) ⟨i,rfl,rfl,AB⟩
   simp_all)))
  grind
theorem qU {ls:List (List Ty)} {y:AV} (hy:BE y (Dr ls)) (hl:ls.length<2 ^ 60) {s:AQ} (hs:BI s) (L:BL):BW (env R) L 144 [y,.func (.func 145) [] []] s (BB (ls.any List.isEmpty)) s:=by
 have h0:BI ⟨[],[]⟩:=λb hb=>by grind
 cases hn:Fx y with
 | true=>
  obtain⟨i,h,hc⟩:=Xa (R:=R) hy hl h0 (Ce (env R) 144 0 0 0);obtain⟨v,rfl,hc⟩:=AYX (R:=R) (t0:=y) (t1:=.func (.func 145) [] []) (Post:=λv=>v=BB (ls.any List.isEmpty)) (by grind[DK,Fx]) (wA ⟨_,_,hc,Ko ⟨_,rfl,by rw[<-h]⟩⟩)
  grind
 | false=>
  obtain⟨i,h,hc⟩:=Xa (R:=R) hy hl hs (Ce (env R) 144 0 L.ro L.rt)
  obtain⟨v,s',⟨rfl,rfl⟩,hc⟩:=AYY (R:=R) (L:=L) (s:=s) (t0:=y) (t1:=.func (.func 145) [] []) (Post:=λv s'=>v=BB (ls.any List.isEmpty)/\s'=s) (by grind[DK]) (wA ⟨_,_,hc,Ko (by
   have:=JR (rr:=L.rr 144) hs (m:=[]) (p:=.sc (.bool (decide (i>=0)))) (Post:=λv s'=>v=BB (ls.any List.isEmpty)/\s'=s) ⟨by rw[<-h],rfl⟩
   simp_all)⟩)
  omega
end
theorem dF {E:Env} {f:FuncId} {fn:Func} {body:Code} {args:List AV} {L:BL} {s:AQ} {Post:AV->AQ->Prop} (hfn:E.P.funcs[f]?=some fn) (hb:fn.body=some body) (hk:E.kind f=.esc) (hc:E.clone f=true) (ht:E.told f=none) (hne:Jk args=false) (hl:args.length<=fn.ntmps)
  (h:Wp E (Ce E f L.n0 L.ro L.rt) fn.ntmps fn.results.toList body [] (FC 0 args) s Post):∃v s',Post v s'/\BW E L f args s v s':=by
 obtain⟨r,s',n,h1,h2⟩:=Nn hb h;refine⟨r,s',h2,⟨n+1,λm hm=>?_⟩⟩;obtain⟨m,rfl⟩:∃m',m=m'+1:=⟨m-1,AA⟩;simp only[EC,hfn,hc,AM,PC,ht,hne,AK];unfold EJ;have:=h1 m AA;unfold Ce at this;simp only[if_pos hl,hk];exact this
theorem wC {E:Env} {f:FuncId} {fn:Func} {args:List AV} (hfn:E.P.funcs[f]?=some fn) (hc:E.clone f=true) (ht:E.told f=none) (hne:Jk args=true):Af E f args λv=>v=.AE []:=by
 refine⟨_,rfl,λL s=>⟨1,λm hm=>?_⟩⟩;obtain⟨m,rfl⟩:∃m',m=m'+1:=⟨m-1,AA⟩
 grind[EC,PC]
section
variable {R:RT}
theorem P1 {l:List Ty} (hl:l.length<2 ^ 38) {a:AV} (ha:BE a (Ad l)) {L:BL} (Ee:L.rt=0) (s:AQ):∃v s',(∃ts',s'=⟨s.bs,ts'⟩/\Dl 0 ts' 25 v (Ad l)/\Cd (.AE []) v s.ts ts')/\BW (env R) L 57 [a] s v s':=by
 cases l with
 | nil=>
  have he:Jk [a]=true:=by
   rcases ha with (rfl|rfl)|⟨t,rfl⟩ <;> rfl
  obtain⟨v,rfl,hc⟩:=wC (E:=env R) (f:=57) (args:=[a]) Tryz.func57 AR AR he;exact⟨_,s,⟨s.ts,rfl,.inl rfl,Cd.refl _ _⟩,hc L s⟩
 | cons x l=>
  have he:Jk [a]=false:=by
   rcases ha with (rfl|rfl)|⟨t,rfl⟩ <;> rfl
  have sD:∀K:AV->Prop,K (BB false)->wD s (some 1) (Uc a) (some 1) .eql a (.AE []) K:=by
   intro K hK;obtain⟨k1,n1,i1,t1⟩:=x;rcases ha with (rfl|rfl)|⟨t,rfl⟩ <;> exact⟨AR,hK⟩
  refine dF (fn:=Tryz.f57) (body:=b57) Tryz.func57 AR AR AR AR he (Gv AR) ?_
  show ADe R L.n0 L.ro L.rt a s _
  refine APL (sD _ (Ay (APM ?_)))
  have hb:∀K:AV->AQ->Prop,K (.AE []) s->HJ false s 4 [(AG 0),(SS []),(AG 0),(.AE [])] 0 [] K:=by
   intro K hK;simpa[HJ,Fu,CI] using hK
  exact hb _ ⟨AI,FB (es:=[]) (.inl rfl) Ee AB ha λa' ts' h1 h2=>⟨ts',rfl,AB,h2⟩⟩
end
theorem ADf {a:AV} {rows:List (List PV)} (h:BE a rows):KB a=some (.list rows):=by
 rcases h with (rfl|rfl)|⟨t,rfl⟩ <;> rfl
theorem iw {l:List Ty} {a:AV} (ha:BE a (Ad l)) {s:AQ} {K:AV->AQ->Prop} (hK:K (.AE [[.list (Ad l)]]) s):HJ false s 1 [(.AE [])] 1 [(0,1,a)] K:=by
 simp[HJ,Fu,CI,ha.ok,ADf ha,ha.cells];omega
theorem mB {L:BL} {s:AQ} {a:AV} {os:List (List Ty)} {p:List Ty} {K:AV->AQ->Prop} (ha:Dl 0 s.ts 23 a (Dr os)) (Ee:L.rt=0) (hl:os.length<2 ^ 38) (h:∀a' ts',Dl 0 ts' 23 a' (Dr (os++[p]))->Cd a a' s.ts ts'->K a' ⟨s.bs,ts'⟩) :
  Ik false L s 23 1 24 a (.AE [[.list (Ad (CA p))]]) K:=by
 have h1:=IC os;have hm:∀r∈[[PV.list (Ad (CA p))]],r.length=1:=AD;refine Q4 (m:=[[.list (Ad (CA p))]]) ha Ee ir hm AA (Dh (.inl (.AE _)) hm) AD AB AB λa' ts' h3 h4=>h a' ts' ?_ h4
 grind[Dr]
theorem Cd.Uo {r:List (List PV)} {v:AV} {ts ts':List (Nat×Nat)} (h:Cd (.AE r) v ts ts'):DS v ts:=by
 intro t ht;rcases h.2.2 with h1|⟨u,h1,h2⟩
 .rw[h1] at ht
  cases ht
 grind
theorem DS.dis {v b:AV} {ts:List (Nat×Nat)} {lo k:Nat} {rows:List (List PV)} (h:DS v ts) (hb:Dl lo ts k b rows):SR v b:=by
 intro t ht hbt;have h1:=h t ht;have h2:=Dl.ve hb hbt;omega
section
variable {R:RT}
theorem wE {l pre:List Ty} {xa:AV} (Up:BE xa (Ad (CA l))) (hl:l.length<2 ^ 37) (hpre:pre.length<2 ^ 37) {n:Nat} {X:List (List AV)} {t0 t8 t17 t18 t19 t33 t34 t35:AV} {QR:QT} :
  ∀(j p:Nat) (out:List (List Ty)) (bs:List (List AV)) (tk:List (Nat×Nat)) (acc:AV),p+j=l.length->out.length+j<2 ^ 38->BI ⟨bs,tk⟩->bs.take n=X->n<=bs.length->Dl 0 tk 23 acc (Dr out) ->
   (∀bs' GH acc',BI ⟨bs',GH⟩->bs'.take n=X->n<=bs'.length->Dl 0 GH 23 acc' (Dr (out++(l.drop p).map λx=>pre++[x]))->Cd acc acc' tk GH->mC R 0 0 0 t0 t8 acc' t17 t18 t19 t33 t34 t35 ⟨bs',GH⟩ QR) ->
   wG R 0 0 0 t0 t8 acc (.pv (.list (Ad (CA pre)))) t17 t18 t19 t33 t34 t35 xa (AG l.length) (AG p) ⟨bs,tk⟩ QR:=by
 intro j
 induction j with
 | zero=>
  intro p out bs tk acc hi ho hs hT hn hacc hK;refine wJ (Ao ?_);rw[Az AA];rw[CH AA] at hK;exact Ay (hK bs tk acc hs hT hn (by simpa using hacc) (Cd.refl _ _))
 | succ j D1=>
  intro p out bs tk acc hi ho hs hT hn hacc hK;refine wJ (Ao ?_);rw[Ar AA];obtain⟨c,hc⟩:∃c,l[p]?=some c:=⟨_,Au AA⟩;have hrc:(CA l)[p]?=some (ren c):=by grind[Bo]
  have hrl:((Aj (ren c)).map AV.pv).length=4:=by grind[Al]
  have hro:=DE (ren c)
  have Ku:Ah (bs.length+1) ((Aj (ren c)).map AV.pv)=true:=by
   obtain⟨k1,n1,i1,t1⟩:=ren c;rfl
  have D4:=(A7.Bi (ren c)).Fj;have MN:=M7 (ren c);refine A9 (ABB (BS Up (row:=Aj (ren c)) AA (by grind[BJ]) (Al _) AA (Ca (Bj ?_))));rw[drop_cons hc] at hK;generalize (Aj (ren c)).map AV.pv=row at hrl hro Ku D4 MN;refine Bq (Ax bs Z4) hrl rfl AI (AN _) hro (.inl (AN _)) ?_;have e1:(bs++[Z4]).set bs.length row=bs++[row]:=AD;rw[e1];have hs1:BI ⟨bs++[row],tk⟩:=BI.app (s:=⟨bs,tk⟩) hs Ku;have gr:=Ax bs row;have lp:(CA pre).length=pre.length:=by grind[Bo]
  obtain⟨v,s',⟨KS,rfl,v1,v2⟩,v3⟩:=P1 (R:=R) (l:=CA pre) AA (a:=.pv (.list (Ad (CA pre)))) (.inl (.list _)) (L:=Ce (env R) 120 0 0 0) rfl ⟨bs++[row],tk⟩;have hfv:=v2.Uo;have APN:=v2.keep hacc (λ_ h=>by cases h);refine⟨_,_,v3,Ag gr hrl (E9 D4 ⟨AI,JS v1 rfl AA λv' I6 w1 w2=>?_⟩)⟩;have ep:CA pre++[ren c]=CA (pre++[c]):=by simp[Bo]
  rw[ep] at w1;have KZ:=w2.keep APN (hfv.dis hacc);refine iw w1.A1 ⟨AI,mB KZ rfl AA λacc' Nl x1 x2=>?_⟩;refine⟨Ag gr hrl MN,ABC (Ba AA AA ?_)⟩;have hch:Cd acc acc' tk Nl:=(((Cd.refl acc tk).side v2 (DS.AE _ _)).side w2 hfv).trans x2;have:=D1 (p+1) (out++[pre++[c]]) (bs++[row]) Nl acc' AA AB hs1 ((DI hn row).trans hT) AB x1 (λbs' GH OY k1 k2 k3 k4 k5=>hK bs' GH OY k1 k2 k3 AB (hch.trans k5))
  grind
end
section
variable {R:RT}
theorem AHq {l:List Ty} {xa ya:AV} {outs:List (List Ty)} (Up:BE xa (Ad (CA l))) (Vm:BE ya (Dr outs)) (hl:l.length<2 ^ 37) (hpre:∀pre∈outs,pre.length<2 ^ 37) (aL:outs.length<2 ^ 37) {n:Nat} {X:List (List AV)} {t0 t17 t18 t19:AV} {QR:QT} :
  ∀(j p:Nat) (next:List (List Ty)) (bs:List (List AV)) (tk:List (Nat×Nat)) (acc:AV),p+j=outs.length->next.length+j*l.length<2 ^ 38->BI ⟨bs,tk⟩->bs.take n=X->n<=bs.length->Dl 0 tk 23 acc (Dr next) ->
   (∀bs' GH acc',BI ⟨bs',GH⟩->bs'.take n=X->n<=bs'.length->Dl 0 GH 23 acc' (Dr (next++(outs.drop p).flatMap λpre=>l.map λx=>pre++[x]))->Cd acc acc' tk GH->mD R 0 0 0 t0 acc' t17 t18 t19 ⟨bs',GH⟩ QR) ->
   wK R 0 0 0 t0 xa acc t17 t18 t19 ya (AG outs.length) (AG p) ⟨bs,tk⟩ QR:=by
 intro j
 induction j with
 | zero=>
  intro p next bs tk acc hi ho hs hT hn hacc hK
  refine wL (Ao ?_);rw[Az AA];rw[CH AA] at hK;exact Ay (AHr (hK bs tk acc hs hT hn (by simpa using hacc) (Cd.refl _ _)))
 | succ j D1=>
  intro p next bs tk acc hi ho hs hT hn hacc hK
  refine wL (Ao ?_);rw[Ar AA];obtain⟨pre,hc⟩:∃c,outs[p]?=some c:=⟨_,Au AA⟩;rw[drop_cons hc] at hK;rw[KI] at ho;refine A9 (AHs (BS Vm (row:=[.list (Ad (CA pre))]) AA (by grind[Dr]) rfl AA (Dy (Aq (n:=l.length) (by rw[Up.BA,Aa,Bo,Bm]) ?_))));refine wE Up hl (hpre pre (A3 hc)) l.length 0 next bs tk acc AA AA hs hT hn hacc λqV tk1 AHt k1 k2 k3 k4 k5=>?_
  refine ABD (Ba AA AA ?_);rw[JC] at k4;have:=D1 (p+1) (next++l.map λx=>pre++[x]) qV tk1 AHt AA AB k1 k2 k3 k4 (λbs' GH OY m1 m2 m3 m4 m5=>hK bs' GH OY m1 m2 m3 AB (k5.trans m5))
  grind
end
theorem AHu {a b:Nat} {K:AV->Prop} (hb:b≠0) (ha:a<2 ^ 63) (h:K (AG ((a / b:Nat):Int))):DX .i64 .quo (AG a) (AG b) K:=by
 have e:(a:Int).tdiv b=((a / b:Nat):Int):=(Int.ofNat_tdiv a b).symm;have hl:=Nat.div_le_self a b;refine⟨⟨rfl,rfl⟩,AA,?_⟩;rw[e];generalize a / b=c at hl h;exact CS AA AA h
theorem dG (outs:List (List Ty)) (l:List Ty):(outs.flatMap λp=>l.map λx=>p++[x]).length=outs.length*l.length:=by
 induction outs with
 | nil=>simp
 | cons o os ih=>grind
def dH (v:AV) (r:Option (List (List Ty))):Prop:=match r with
 | none=>v=.tuple [.AE [],BB false]
 | some o=>∃a,v=.tuple [a,BB true]/\BE a (Dr o)
section
variable {R:RT}
theorem wM {e ml A6:Nat} (JU:A6<2 ^ 20) {d:AV} {ls:List (List Ty)} {ya:AV} (Vm:BE ya (Dr ls)) (SN:ls.length<2 ^ 36) (hls:∀l∈ls,l≠[]/\l.length<2 ^ 37) {n:Nat} {X:List (List AV)} (hX:X[e]?=some [d,AG ml]) {Np:List (Nat×Nat)} {r:Option (List (List Ty))} (hF:Dk ml A6 r) {QR:QT}
  (hK:∀v bs' GH,dH v r->BI ⟨bs',GH⟩->bs'.take n=X->Cd (.AE []) (.AE []) Np GH->QR v ⟨bs',GH⟩) :
  ∀(j p:Nat) (outs:List (List Ty)) (bs:List (List AV)) (tk:List (Nat×Nat)) (acc:AV),p+j=ls.length->DY (AU A6) (ls.drop p) outs=r->outs.length<=A6+1->(∀o∈outs,o.length<=p)->BI ⟨bs,tk⟩->bs.take n=X->n<=bs.length->BE acc (Dr outs)->Cd (.AE []) (.AE []) Np tk ->
   wN R 0 0 0 (.ptr e 0) acc ya (AG ls.length) (AG p) ⟨bs,tk⟩ QR:=by
 intro j
 induction j with
 | zero=>
  intro p outs bs tk acc hi hc ho hp hs hT hn hacc hch;refine wQ (Ao ?_);rw[Az AA];rw[CH AA,DY] at hc;subst hc;exact Ay (AHv (hK _ _ _ ⟨acc,rfl,hacc⟩ hs hT hch))
 | succ j D1=>
  intro p outs bs tk acc hi hc ho hp hs hT hn hacc hch;refine wQ (Ao ?_);rw[Ar AA];obtain⟨l,hl⟩:∃c,ls[p]?=some c:=⟨_,Au AA⟩;obtain⟨hne,hlen⟩:=hls l (A3 hl);have hpos:0<l.length:=List.length_pos_iff.2 hne;rw[drop_cons hl,DY,dG] at hc;have gE:=CD hT hX;have Up:BE (.pv (.list (Ad (CA l)))) (Ad (CA l)):=.inl (.list _);refine A9 (AHw (BS Vm (row:=[.list (Ad (CA l))]) AA (by grind[Dr]) rfl AA (Dy (Aq (n:=outs.length) (by rw[hacc.BA,IC]) (C1 (AX gE) (AO (AX gE) (AZ (off:=1) gE rfl (Aq (n:=l.length) (by rw[Up.BA,Aa,Bo,Bm]) (AHu AA hF.2.2.1 (F8 ?_))))))))));have eb:decide ((outs.length:Int)>((ml / l.length:Nat):Int))=AU A6 (outs.length*l.length):=Dk.quo (by rw[hc]; exact hF) hpos;rw[eb];cases hb:AU A6 (outs.length*l.length) with
  | true=>
   rw[hb] at hc;simp only[AM] at hc;subst hc;exact A9 (hK _ _ _ rfl hs hT hch)
  | false=>
   rw[hb] at hc;simp only[AK] at hc;have QU:outs.length*l.length<=A6:=AB;refine Ay (AHx (Aq (n:=outs.length) (by rw[hacc.BA,IC]) ?_));refine AHq Up hacc hlen (λo hm=>by grind) AA outs.length 0 [] bs tk (.AE []) AA AB hs hT hn (.inl rfl) λqV tk1 AHt k1 k2 k3 k4 k5=>?_
   refine ABE (Ba AA AA ?_);rw[JC,Cm] at k4;have:=D1 (p+1) (outs.flatMap λpre=>l.map λx=>pre++[x]) qV tk1 AHt AA hc (by grind[dG]) AB k1 k2 k3 k4.A1 (hch.side k5 (DS.AE _ _))
   grind
end
theorem ADg {rr:Bool} {v:AV} {r:Option (List (List Ty))} {s0:AQ} {bs:List (List AV)} {ts:List (Nat×Nat)} {Post:AV->AQ->Prop} (h0:BI s0) (hT:bs.take s0.bs.length=s0.bs) (hr:dH v r) (hP:∀w,dH w r->Post w ⟨s0.bs,ts⟩):QM rr s0.bs.length Post v ⟨bs,ts⟩:=by
 have hok:((bs.take s0.bs.length).all (Ah s0.bs.length))=true:=by
  rw[C3];intro b hb;exact h0 b AB
 cases r with
 | none=>
  cases hr;refine J0 (ds:=[.AE [],BB false]) hok rfl ?_
  show Post _ ⟨bs.take _,ts⟩
  rw[hT];exact hP _ rfl
 | some l=>
  obtain⟨a,rfl,ha⟩:=hr;obtain⟨a',h1,h2⟩:=ha.close bs s0.bs.length ts.length;refine J0 (ds:=[a',BB true]) hok (by grind[BR,Tel.close]) ?_
  show Post _ ⟨bs.take _,ts⟩
  rw[hT];exact hP _ ⟨a',rfl,h2⟩
section
variable {R:RT}
theorem ABF {e ml A6:Nat} (JU:A6<2 ^ 20) {d:AV} {ls:List (List Ty)} {ya:AV} (Vm:BE ya (Dr ls)) (SN:ls.length<2 ^ 36) (hls:∀l∈ls,l.length<2 ^ 37) {s:AQ} (hs:BI s) (hE:s.bs[e]?=some [d,AG ml]) (hF:Dk ml A6 (bif ls.any List.isEmpty then some [] else DY (AU A6) ls [[]])) {L:BL} (hro:L.ro=0) (Ee:L.rt=0) :
  ∃v s',(∃ts',dH v (bif ls.any List.isEmpty then some [] else DY (AU A6) ls [[]])/\Cd (.AE []) (.AE []) s.ts ts'/\s'=⟨s.bs,ts'⟩)/\BW (env R) L 120 [.ptr e 0,ya] s v s':=by
 refine AYa AR ?_;rw[hro,Ee];refine AHy ⟨_,_,qU Vm AA hs _,?_⟩;cases ha:ls.any List.isEmpty with
 | true=>exact A9 (ADg hs AD (r:=some []) ⟨.AE [],rfl,.inl (.AE _)⟩ λw hw=>⟨s.ts,hw,Cd.refl _ _,rfl⟩)
 | false=>
  refine Ay (AHz (iw (l:=[]) (.inl (.AE _)) (Aq (n:=ls.length) (by rw[Vm.BA,IC]) ?_)));refine wM (n:=s.bs.length) (X:=s.bs) (Np:=s.ts) (r:=DY (AU A6) ls [[]]) JU Vm SN ?_ hE (by rw[ha] at hF; exact hF) (λv bs' GH h1 h2 h3 h4=>ADg hs h3 h1 λw hw=>⟨GH,hw,h4,rfl⟩) ls.length 0 [[]] s.bs s.ts (.AE [[.list (Ad [])]]) AA rfl AD AD hs AD (AY _) (.inl (.AE _)) (Cd.refl _ _)
  grind
end
section
variable {R:RT}
theorem AH0 {all:List (List Ty)} {ya:AV} (Vm:BE ya (Dr all)) (hl:all.length<2 ^ 37) {t12:AV} {bs:List (List AV)} {Np:List (Nat×Nat)} {QR:QT}
  (hK:∀acc GH,Dl 0 GH 25 acc (Ad (CA (all.map (.mk 3 [] 0))))->Cd (.AE []) acc Np GH->ADh R 0 0 0 t12 acc ⟨bs,GH⟩ QR) :
  ∀(j p:Nat) (tk:List (Nat×Nat)) (acc:AV),p+j=all.length->Dl 0 tk 25 acc (Ad (CA ((all.take p).map (.mk 3 [] 0))))->Cd (.AE []) acc Np tk ->
   wR R 0 0 0 t12 acc ya (AG all.length) (AG p) ⟨bs,tk⟩ QR:=by
 intro j
 induction j with
 | zero=>
  intro p tk acc hi hacc hch;refine wS (Ao ?_);rw[Az AA];rw[CU AA] at hacc;exact Ay (hK acc tk hacc hch)
 | succ j D1=>
  intro p tk acc hi hacc hch;refine wS (Ao ?_);rw[Ar AA];obtain⟨o,hc⟩:∃c,all[p]?=some c:=⟨_,Au AA⟩;have ht:BP (ren (.mk 3 [] 0 o)) (.agg [AG 3,SS [],AG 0,.pv (.list (Ad (CA o)))]):=⟨_,rfl,.inl (.list _)⟩;refine A9 (APO (BS Vm (row:=[.list (Ad (CA o))]) AA (by grind[Dr]) rfl AA (Dy (Hg (cs:=[AG 3,SS [],AG 0,.pv (.list (Ad (CA o)))]) rfl (E9 ht ⟨AI,JS hacc rfl (by grind[Bo]) λacc' GH h1 h2=>APP (Ba AA AA ?_)⟩)))));have er:CA ((all.take p).map (.mk 3 [] 0))++[ren (.mk 3 [] 0 o)]=CA ((all.take (p+1)).map (.mk 3 [] 0)):=by grind[List.take_add_one,Bo]
  rw[er] at h1;have:=D1 (p+1) GH acc' AA h1 (hch.trans h2)
  grind
end
section
variable {R:RT}
theorem ABG {e ml A6 M:Nat} (JU:A6<2 ^ 20) {ex:Ty->List Ty->Fw} {B0:List Ty} (ig:∀t B,B<+:(ex t B).2) {ts:List Ty} {ya:AV} (Vm:BE ya (Ad (CA ts))) (hl:ts.length<2 ^ 37)
  (ih:∀t∈ts,∀B,B0<+:B->(ex t B).2.length<=M->Dk ml A6 (ex t B).1->∀x,BP (ren t) x->∀s,BI s->WG R e ml 44 [x] (ex t B) B s)
  {s0:AQ} (he:e<s0.bs.length) {d0:AV} {o:Option (List (List Ty))×List Ty} (ij:o.2.length<=M) (hF:Dk ml A6 o.1) {QR:QT}
  (hN:o.1=none->∀bs tk d,bs.take s0.bs.length=s0.bs.set e [d,AG ml]->Dl 0 tk 25 d (Ad o.2)->Cd d0 d s0.ts tk->QR (.tuple [.AE [],BB false]) ⟨bs,tk⟩)
  (hS:∀ls,o.1=some ls->∀bs tk d acc,BI ⟨bs,tk⟩->bs.take s0.bs.length=s0.bs.set e [d,AG ml]->s0.bs.length<=bs.length->Dl 0 tk 25 d (Ad o.2)->Cd d0 d s0.ts tk->BE acc (Dr ls)->ADi R 0 0 0 (.ptr e 0) acc ⟨bs,tk⟩ QR) :
  ∀(j p:Nat) (out:List (List Ty)) (Bc:List Ty) (bs:List (List AV)) (tk:List (Nat×Nat)) (d acc:AV),p+j=ts.length->E4 ex (ts.drop p) out Bc=o->B0<+:Bc->out.length<=p ->
   BI ⟨bs,tk⟩->bs.take s0.bs.length=s0.bs.set e [d,AG ml]->s0.bs.length<=bs.length ->
   Dl 0 tk 25 d (Ad Bc)->Dl 0 tk 23 acc (Dr out)->Cd d0 d s0.ts tk->DS acc s0.ts->SR d acc ->
   ADj R 0 0 0 (.ptr e 0) acc ya (AG ts.length) (AG p) ⟨bs,tk⟩ QR:=by
 intro j
 induction j with
 | zero=>
  intro p out Bc bs tk d acc hi hseq hB hop hs hT Mi hd hacc hch hfr KE;refine ADk (Ao ?_);rw[Az AA];rw[CH AA,E4] at hseq;subst hseq;exact Ay (hS out rfl bs tk d acc hs hT Mi hd hch hacc.A1)
 | succ j D1=>
  intro p out Bc bs tk d acc hi hseq hB hop hs hT Mi hd hacc hch hfr KE;refine ADk (Ao ?_);rw[Ar AA];obtain⟨c,hc⟩:∃c,ts[p]?=some c:=⟨_,Au AA⟩;have hrc:(CA ts)[p]?=some (ren c):=by grind[Bo]
  have hrl:((Aj (ren c)).map AV.pv).length=4:=by grind[Al]
  have hro:=DE (ren c)
  have Ku:Ah (bs.length+1) ((Aj (ren c)).map AV.pv)=true:=by
   obtain⟨k1,n1,i1,t1⟩:=ren c;rfl
  have D4:=(A7.Bi (ren c)).Fj;refine A9 (APQ (BS Vm (row:=Aj (ren c)) AA (by grind[BJ]) (Al _) AA (Ca (Bj ?_))));rw[drop_cons hc,E4] at hseq;generalize (Aj (ren c)).map AV.pv=row at hrl hro Ku D4;refine Bq (Ax bs Z4) hrl rfl AI (AN _) hro (.inl (AN _)) ?_;have e1:(bs++[Z4]).set bs.length row=bs++[row]:=AD;rw[e1];have hs1:BI ⟨bs++[row],tk⟩:=BI.app (s:=⟨bs,tk⟩) hs Ku;have gr:=Ax bs row;have Ny:=(DI Mi row).trans hT;have lb:(bs++[row]).length=bs.length+1:=AD;generalize bs++[row]=b1 at hs1 gr Ny lb;have gE:(s0.bs.set e [d,AG ml])[e]?=some [d,AG ml]:=by rw[CX he]
  have hfp:∀(l:List Ty) out B,B<+:(E4 ex l out B).2:=λl out B=>UR ig l out B
  have iq:=ih c (A3 hc) Bc hB;have hpre:=ig c Bc;rcases hg:ex c Bc with ⟨r,B1⟩
  rw[hg] at hseq iq hpre;simp only at hseq iq hpre;have WH:B1.length<=M:=AB
  have l8:Dk ml A6 r:=by
   cases r with
   | none=>
    rw[<-hseq] at hF;exact hF.none _
   | some r=>exact hF.some _
  obtain⟨w2,s2',⟨d2,I6,q1,q2,q3,rfl⟩,q4⟩:=iq WH l8 (.agg row) D4 ⟨b1,tk⟩ hs1 (Ce (env R) 88 0 0 0) d rfl rfl (CD Ny gE) hd;have Hh:(b1.set e [d2,AG ml]).take s0.bs.length=s0.bs.set e [d2,AG ml]:=by simp[*,EU]
  refine Ag gr hrl ⟨_,_,q4,?_⟩;cases r with
  | none=>
   cases q1;simp only at hseq;subst hseq;exact B9 rfl (B9 rfl (nt (A9 (hN rfl _ I6 d2 Hh q2 (hch.trans q3)))))
  | some r=>
   obtain⟨a2,rfl,SH⟩:=q1;simp only at hseq;have KZ:=q3.keep hacc KE;have LO:SR d2 acc:=KE.Py q3 hacc;refine B9 rfl (B9 rfl (nt (Ay (APR (iw SH ⟨AI,mB KZ rfl AA λacc' Nl h3 h4=>APS (Ba AA AA ?_)⟩)))));have LP:=hch.trans q3;have hd3:=h4.keep q2 LO.symm;have OX:=LP.side h4 hfr;have hs2:BI ⟨b1.set e [d2,AG ml],Nl⟩:=BI.set (s:=⟨b1,tk⟩) hs1 (by simp[Ah,Aw,q2.A1.Aw]) _;have:=D1 (p+1) (out++[r]) B1 (b1.set e [d2,AG ml]) Nl d2 acc' AA hseq (hB.trans hpre) AB hs2 Hh AB hd3 h3 OX (hfr.Py h4 LP.1) (LO.symm.Py h4 q2).symm
   grind
def J1 (A6:Nat) (ex:Ty->List Ty->Fw) (ts B:List Ty):Fw:=match E4 ex ts [] B with
 | (none,B)=>(none,B)
 | (some ls,B)=>bif ls.any List.isEmpty then(some [],B) else match DY (AU A6) ls [[]] with
  | none=>(none,B)
  | some all=>(some (all.map (.mk 3 [] 0)),B)
theorem Xb {A6:Nat}:∀(ls out r:List (List Ty)),DY (AU A6) ls out=some r->r.length<=A6\/r=out
 | [],out,r,h=>by grind[DY]
 | l::ls,out,r,h=>by
  rw[DY] at h;cases hb:AU A6 (out.flatMap λp=>l.map λx=>p++[x]).length with
  | true=>grind
  | false=>
   rw[hb] at h;have hb':(out.flatMap λp=>l.map λx=>p++[x]).length<=A6:=AB;rcases Xb ls _ r h with h1|h1
   all_goals grind
end
theorem Xc {A6:Nat} {ex:Ty->List Ty->Fw}:∀(l:List Ty) (out:List (List Ty)) (B:List Ty) (r:List (List Ty)),(∀t∈l,∀B r,(ex t B).1=some r->r.length<=A6)->(E4 ex l out B).1=some r->(∀o∈out,o.length<=A6)->(∀o∈r,o.length<=A6)/\r.length=out.length+l.length
 | [],out,B,r,_,h,ho=>by grind[E4]
 | t::l,out,B,r,hx,h,ho=>by
  have h1:=hx t AD B;rw[E4] at h;rcases hr:ex t B with ⟨_|s,B1⟩
  .grind
  .rw[hr] at h h1
   have:=Xc l (out++[s]) B1 r (λa ha=>hx a AB) h AB
   grind
section
variable {R:RT}
theorem ABH {e ml A6 M:Nat} (JU:A6<2 ^ 20) {ex:Ty->List Ty->Fw} {B0:List Ty} (ig:∀t B,B<+:(ex t B).2) {ts:List Ty} (hxl:∀t∈ts,∀B r,(ex t B).1=some r->r.length<=A6) {ya:AV} (Vm:BE ya (Ad (CA ts))) (hl:ts.length<2 ^ 36)
  (ih:∀t∈ts,∀B,B0<+:B->(ex t B).2.length<=M->Dk ml A6 (ex t B).1->∀x,BP (ren t) x->∀s,BI s->WG R e ml 44 [x] (ex t B) B s)
  {B:List Ty} (hB:B0<+:B) (hM:(J1 A6 ex ts B).2.length<=M) (hF:Dk ml A6 (J1 A6 ex ts B).1) {s:AQ} (hs:BI s):WG R e ml 88 [ya] (J1 A6 ex ts B) B s:=by
 intro L d hro Ee hE hd;have le:=(BH.1 hE).1;have same:s.bs.set e [d,AG ml]=s.bs:=by grind[List.set_getElem_self]
 refine m88 AR ?_;rw[hro,Ee];refine APT (Aq (n:=ts.length) (by rw[Vm.BA,Aa,Bo,Bm]) ?_);have ADl:=Xc (A6:=A6) ts [] B (ex:=ex);rcases ho:E4 ex ts [] B with ⟨r,B1⟩
 rw[ho] at ADl;have sC:(J1 A6 ex ts B).2=B1:=by grind[J1]
 rw[sC] at hM
 have hFr:Dk ml A6 r:=by
  cases r with
  | none=>
   have e1:J1 A6 ex ts B=(none,B1):=by rw[J1,ho]
   rw[e1] at hF;exact hF.none _
  | some r=>exact hF.some _
 refine ABG (M:=M) JU ig Vm AA ih le (o:=(r,B1)) hM hFr ?_ ?_ ts.length 0 [] B s.bs s.ts d (.AE []) AA AB hB (AN _) hs AB (AY _) hd (.inl rfl) (Cd.refl _ _) (DS.AE _ _) (SR.AE _ _)
 .rintro h bs tk d' hT hd' hch
  simp only at h;subst h;have e1:J1 A6 ex ts B=(none,B1):=by rw[J1,ho]
  rw[e1];exact FA hs hT (hd'.A1.Aw _) (r:=none) rfl λw hw=>⟨d',tk,hw,hd',hch,rfl⟩
 .rintro ls h bs tk d' acc hs1 hT Mi hd' hch hacc
  simp only at h hd';subst h
  have e1:J1 A6 ex ts B=bif ls.any List.isEmpty then(some [],B1) else match DY (AU A6) ls [[]] with
   | none=>(none,B1)
   | some all=>(some (all.map (.mk 3 [] 0)),B1):=by grind[J1]
  obtain⟨fN,Sr⟩:=ADl ls hxl rfl AD
  have l8:Dk ml A6 (bif ls.any List.isEmpty then some [] else DY (AU A6) ls [[]]):=by
   rw[e1] at hF;cases hb:ls.any List.isEmpty with
   | true=>exact hF.some _
   | false=>
    rw[hb] at hF;simp only[AK] at hF ⊢;cases hc:DY (AU A6) ls [[]] with
    | none=>
     rw[hc] at hF;exact hF.none _
    | some all=>exact hF.some _
  have gE:bs[e]?=some [d',AG ml]:=CD hT (by rw[CX le]);simp only[Bz,CQ] at Sr;obtain⟨v,s',⟨ts',r1,r2,rfl⟩,r3⟩:=ABF (R:=R) (L:=Ce (env R) 88 0 0 0) JU hacc AA (λl hl=>by grind) hs1 gE l8 rfl rfl;have TZ:=r2.keep hd' (λ_ h=>by cases h);have LP:=hch.side r2 (DS.AE _ _);refine APU ⟨_,_,r3,?_⟩
  have fin:∀(r:Option (List (List Ty))) ,dH v r->(r.map (List.map (Ty.mk 3 [] 0)),B1)=J1 A6 ex ts B->(∀all,r=some all->all.length<=A6+1) ->
    JM v 0 λa39=>JM v 1 λa40=>HI ⟨bs,ts'⟩ a39 λa42=>wR R 0 0 0 a40 (.AE []) a39 a42 (AG 0) ⟨bs,ts'⟩ (QM (L.rr 88) s.bs.length (λv s'=>∃d' ts',Res v (J1 A6 ex ts B).1/\Dl 0 ts' 25 d' (Ad (J1 A6 ex ts B).2)/\Cd d d' s.ts ts'/\s'=⟨s.bs.set e [d',AG ml],ts'⟩)):=by
   intro r hr he hle;rw[<-he];cases r with
   | none=>
    cases hr;refine B9 rfl (B9 rfl (Aq (n:=0) rfl (wS (Ao ?_))));rw[Az AA];exact Ay (ADm (FA hs hT (TZ.A1.Aw _) (r:=none) rfl λw hw=>⟨d',ts',hw,TZ,LP,rfl⟩))
   | some all=>
    obtain⟨a,rfl,ha⟩:=hr;have hle':=hle all rfl;refine B9 rfl (B9 rfl (Aq (n:=all.length) (by rw[ha.BA,IC]) ?_));refine AH0 ha AA (Np:=ts') ?_ all.length 0 ts' (.AE []) AA (.inl rfl) (Cd.refl _ _);intro OY OZ h5 h6;refine ADm (FA hs hT (TZ.A1.Aw _) (r:=some (all.map (.mk 3 [] 0))) ⟨OY,rfl,h5.A1⟩ λw hw=>⟨d',OZ,hw,h6.keep TZ (λ_ h=>by cases h),LP.side h6 (DS.AE _ _),rfl⟩)
  refine fin _ r1 ?_ ?_
  .grind
  .intro all h
   cases hb:ls.any List.isEmpty with
   | true=>grind
   | false=>
    rw[hb] at h;simp only[AK] at h;rcases Xb ls [[]] all h with h1|h1
    all_goals grind
end
end Go.Proofs.YtpgfpakdnijngaaGreatDoor
