/-
  A branch's body with its placeholders numbered: the whole term.
-/
import Derived.Test.YtpgfpakdnijngaaGreatDoorTC
import Derived.Test.YtpgfpakdnijngaaGreatDoorTB
import Derived.Test.YtpgfpakdnijngaaGreatDoorW1
set_option linter.all false
namespace Go.Proofs.YtpgfpakdnijngaaGreatDoor
open Go.Tel
attribute [local simp] Cl Bs Lf Lg AO Cw FJ wO setCells Ci FC Dn Dh Ax alive Cg GD I1 oU A8 DF BO Gx Dv Cz tM oV okB tN tP tQ tR tS eC tT tU tV tW tX tY tZ td th tj tq okF uA uB uC uD uE YE uF S0 S1 S2 S3 uG uH uI uJ rG uK uL uM uN uO Fz uP rH uQ uR uS uT uU uV uW uX uY uZ Co g0 g1 xI xL xM xF xG xC lf Y4 Y5
mutual
theorem SC (N:Nat):∀(t:Ty) (o:List Nat),(LP N t o).2.length<=o.length+size t
 | .mk k n i ts,o=>by
  have:=bW N ts o
  grind[LP,size]
theorem bW (N:Nat):∀(l:List Ty) (o:List Nat),(Gj N l o).2.length<=o.length+AY l
 | [],_=>Kz _ _
 | t::l,o=>by
  have h1:=SC N t o;have h2:=bW N l (LP N t o).2
  grind[Gj,AY]
end
section
variable {R:RT}
mutual
theorem bX (hn:Tl R) {P A F e N:Nat} {B:List Ty} (hN:B.length=N) (kj:N<=2 ^ 40):∀(t:Ty),size t<2 ^ 38->Hp N t=true->∀(x:AV),A7 (ren t) x->∀(o:List Nat) (s:AL),BM s->VM P A F e B s.bs->o.length+size t<2 ^ 40->vq R P A F N x o t s
 | .mk k n i ts,h,ht,x,hx,o,s,hs,hE,hb,L,c,hro,Eb,hA,hc=>by
  have lA:=(BL.1 hA).1;have Uv:=BQ ts;have bZ:=KH hn kj ht hx;rw[Hp] at ht;simp only[size] at h hb;refine m91 (by simp[Bo,GO]) ?_;rw[hro,Eb];have same:s.bs.set A [c]=s.bs:=by grind[List.set_getElem_self]
  by_cases h7:k=7
  .subst h7
   simp only[DL,AN,AG,Jk,Dc] at ht;obtain⟨hts,hi0,hiN⟩:=ht;subst hts;have er:ren (.mk 7 n i [])=.mk 2 (36::G5 i.toNat) 0 []:=rfl;rw[er] at hx;obtain⟨a,rfl,ha⟩:=hx;generalize (36::G5 i.toNat)=nm at bZ;have g:=Av (Az s.bs [AB 2,SS nm,AB 0,a]) Z4;have gz:=Az (s.bs++[[AB 2,SS nm,AB 0,a]]) Z4;have gA:=Av (Av hA [AB 2,SS nm,AB 0,a]) Z4;have gP:=Av (Av hE.hP [AB 2,SS nm,AB 0,a]) Z4;obtain⟨d,ds,he,hd⟩:=hE.he;have ge:=Av (Av he [AB 2,SS nm,AB 0,a]) Z4;have tkn:(s.bs++[[AB 2,SS nm,AB 0,a]]++[Z4]).take s.bs.length=s.bs.set A [c]:=by grind
   have el:(s.bs++[[AB 2,SS nm,AB 0,a]]).length=s.bs.length+1:=by simp
   refine AFD (Bu (cs:=[AB 2,SS nm,AB 0,a]) rfl (by simp[ha.ok]) (Bq ?_));simp only[el];rw[el] at gz;generalize YA:s.bs++[[AB 2,SS nm,AB 0,a]]++[Z4]=bs at g gz gA gP ge tkn;refine Ae g rfl (AD bZ ?_);rintro _ rfl;refine CB rfl (CB rfl (Am (Am (AU gP rfl (Am (C1 (AP ge) (Am (AK (AP ge) (Am (AU ge rfl (Am (Al (n:=N) (by rw[hd.A9,AQ,hN]) (Am (Ai (pk ?_)))))))))))))));rw[Ap (by omega)];refine BH (AU gA rfl (AD (gN (l:=gO o) (by grind) hc.A1) ?_));rintro _ rfl;rw[ADB o hi0]
   have hcv:(LP N (.mk 7 n i []) o)=match o.findIdx? (·==i.toNat) with
     | some j=>(var j,o)
     | none=>(var o.length,o++[i.toNat]):=by grind[LP]
   rw[hcv]
   have fin:∀(j:Int) (c':AV) (ts':List (Nat×Nat)) (bs':List (List AV)) (Post:AV->AL->Prop),Ar s.bs.length c'=true->bs'.take s.bs.length=s.bs.set A [c']->bs'[s.bs.length+1]?=some Z4->(∀ds,BV (ren (var j)) (.agg ds)->Post (.agg ds) ⟨s.bs.set A [c'],ts'⟩) ->
     kn R 0 0 0 (.ptr (s.bs.length+1) 0) (AB j) ⟨bs',ts'⟩ (QM (L.rr 91) s.bs.length Post):=by
    intro j c' ts' bs' Post hid hT hz hP;refine APi (IY (cs:=[AB 5,SS [],AB j,.AA []]) rfl (CG hz rfl rfl (by decide) (AI _) rfl (.inl (AI _)) (Ae (Bf hz) rfl ?_)));exact bU hs ((C9 (by omega)).trans hT) (by grind[Ah]) rfl (hP _ ⟨_,rfl,.inl (.AA _)⟩)
   cases hf:o.findIdx? (·==i.toNat) with
   | some j=>
    refine Ai ?_;rw[Aw (by simp)];exact Aq (fin j c s.ts bs _ (hc.A1.Ar _) tkn gz λds hds=>⟨c,s.ts,ds,hc,CY.refl _ _,rfl,hds,rfl⟩)
   | none=>
    refine Ai ?_;rw[Ap (by simp)];refine BH (AU gA rfl (Al (n:=o.length) (by rw[hc.A1.A9,BW,CC]) (AU gA rfl (PA ⟨by decide,bT hc rfl (by grind) λc' ts' KZ hch=>?_⟩))));refine DG gA (by simp) KZ.A1.cells (AI _) KZ.A1.ok (.inl (AI _)) ?_;have hT:=EG (j:=A) (c:=[c']) tkn;rw[Hw] at hT;have hi:((i.toNat:Nat):Int)=i:=by omega
    refine⟨AU gA rfl (by rcases hc with rfl|⟨t,rfl,_⟩ <;> simp[Tel.Bl,LL]),Al (n:=o.length) (by rw[hc.A1.A9,BW,CC]) (by simp[Tel.Bl,NA,GF]),?_⟩;refine fin o.length c' ts' _ _ (KZ.A1.Ar _) hT (BS gz (by omega)) λds hds=>⟨c',ts',ds,?_,hch,rfl,hds,rfl⟩
    grind
  .have b7:(k==7)=false:=by grind
   have er:=HL k n i ts h7;rw[er] at hx;rw[b7] at ht bZ;simp only[AH,AG] at ht bZ;obtain⟨a,rfl,ha⟩:=hx;obtain⟨g0,g1,g2⟩:=ID (s:=s) (c:=[AB k,SS n,AB i,a]) (d:=[AB k,SS n,AB i,.AA []]);have gx:=Av (Az s.bs [AB k,SS n,AB i,a]) Z4;have hcv:LP N (.mk k n i ts) o=(.mk k n i (Gj N ts o).1,(Gj N ts o).2):=by grind[LP]
   rw[hcv];refine AFD (Bu (cs:=[AB k,SS n,AB i,a]) rfl (by simp[ha.ok]) (Bq (Ae gx rfl (AD bZ ?_))));rintro _ rfl;refine CB rfl (CB rfl (Bm (Bm (Bm (Bm (Bm (Bm (Bm (pk (Aq (APj (Ae gx rfl (Bq ?_)))))))))))));refine CG (old:=Z4) (Az _ _) rfl rfl (by decide) (AI _) (by simp[ha.ok]) (.inl (AI _)) ?_;have e:((s.bs++[[AB k,SS n,AB i,a]]++[Z4]++[Z4]).set (s.bs++[[AB k,SS n,AB i,a]]++[Z4]).length [AB k,SS n,AB i,a])=(GK s [AB k,SS n,AB i,a] [AB k,SS n,AB i,a]).bs:=by grind[GK]
   have l1:(s.bs++[[AB k,SS n,AB i,a]]++[Z4]).length=s.bs.length+2:=by simp
   have l2:(s.bs++[[AB k,SS n,AB i,a]]).length=s.bs.length+1:=by simp
   simp only at e l1 l2 ⊢;rw[e];simp only[l1,l2];obtain⟨_,_,q2⟩:=ID (s:=s) (c:=[AB k,SS n,AB i,a]) (d:=[AB k,SS n,AB i,a]);refine AK (AP q2) (DG (off:=3) q2 (Ac 4) rfl (AI _) rfl (.inl (AI _)) ?_);have e2:(GK s [AB k,SS n,AB i,a] [AB k,SS n,AB i,a]).bs.set (s.bs.length+2) ([AB k,SS n,AB i,a].set 3 (.AA []))=(GK s [AB k,SS n,AB i,a] [AB k,SS n,AB i,.AA []]).bs:=by simp[*,GK]
   show Ax ⟨(GK s [AB k,SS n,AB i,a] [AB k,SS n,AB i,a]).bs.set (s.bs.length+2) ([AB k,SS n,AB i,a].set 3 (.AA [])),s.ts⟩ _ _ _
   rw[e2];refine AK (AP g0) (AU g0 rfl (Al (n:=ts.length) (by rw[ha.A9,AQ,Bk,CC]) ?_));have tkn:(GK s [AB k,SS n,AB i,a] [AB k,SS n,AB i,.AA []]).bs.take s.bs.length=s.bs.set A [c]:=by simp[*,GK]
   refine vt hN ha (by omega) h7 (o0:=o) (c0:=c) hs lA hE (λt hm o s hs hE hb=>WV hn hN kj ts (by omega) ht.2.2 t hm o s hs hE hb) (λt _ o=>SC N t o) (by omega) (λc' ts' ds h1 h2 h3=>⟨c',ts',ds,h1,h2,rfl,?_,rfl⟩) ts.length 0 o [] _ s.ts (.AA []) c (by omega) (by simp) (by simp) rfl (by simp)
    (SB hs (by simp[Ah,Ar,ha.Ar]) (by rfl)) tkn g0 g1 g2 hc (.inl rfl) (CY.refl _ _) (DR.AA _ _) (RS.AA _ _)
   grind[HL]
theorem WV (hn:Tl R) {P A F e N:Nat} {B:List Ty} (hN:B.length=N) (kj:N<=2 ^ 40):∀(ts:List Ty),AY ts<2 ^ 38->IZ N ts=true->∀t∈ts,∀(o:List Nat) (s:AL),BM s->VM P A F e B s.bs->o.length+size t<2 ^ 40->vq R P A F N (.agg ((Ag (ren t)).map .pv)) o t s
 | [],_,_,_,h=>by cases h
 | u::l,h,ht,t,hm=>by
  simp only[AY] at h;simp only[IZ,AG] at ht;rcases A6.1 hm with h' | h'
  .rw[h']
   exact bX hn hN kj u (by omega) ht.1 _ (A7.BZ _)
  .exact WV hn hN kj l (by omega) ht.2 t h'
end
end
mutual
theorem gQ {N:Nat}:∀(t:Ty) (o:List Nat),Hp N t=true->(∀x∈o,x<N)->∀x∈(LP N t o).2,x<N
 | .mk k n i ts,o,h,ho=>by
  rw[Hp] at h;rw[LP];cases h7:(k==7) with
  | true=>
   grind
  | false=>
   rw[h7] at h;simp only[AH,AG] at h;exact ko ts o h.2.2 ho
theorem ko {N:Nat}:∀(l:List Ty) (o:List Nat),IZ N l=true->(∀x∈o,x<N)->∀x∈(Gj N l o).2,x<N
 | [],_,_,ho=>ho
 | t::l,o,h,ho=>by
  simp only[IZ,AG] at h;exact ko l _ h.2 (gQ t o h.1 ho)
end
mutual
theorem kq {N:Nat}:∀(t:Ty) (o:List Nat),Hp N t=true->ren (LP N t o).1=(LP N t o).1
 | .mk k n i ts,o,h=>by
  rw[Hp] at h;rw[LP];cases h7:(k==7) with
  | true=>
   rw[h7] at h;simp only[AN,AG,Dc] at h;simp only[Fb,h.2.2,decide_true,AN];split <;> rfl
  | false=>
   rw[h7] at h;simp only[AH,AG] at h;simp only[Gd,AH];rw[HL _ _ _ _ (by grind),bq ts o h.2.2]
theorem bq {N:Nat}:∀(l:List Ty) (o:List Nat),IZ N l=true->Bz (Gj N l o).1=(Gj N l o).1
 | [],_,_=>rfl
 | t::l,o,h=>by
  simp only[IZ,AG] at h;simp only[Gj,Bz,kq t o h.1,bq l _ h.2]
end
theorem EY {l m:List (List AV)} {j n:Nat} {v:List AV} (hn:l.length=n) (h:m[j]?=some v):(l++m)[n+j]?=some v:=by grind
theorem Yj {l m:List (List AV)} {j n:Nat} {v:List AV} (hn:l.length=n):(l++m).set (n+j) v=l++m.set j v:=by
 rw[<-hn,Xc _ _ (by omega),Nat.add_sub_cancel_left]
theorem AKb {rr:Bool} {cs ds:List AV} {s0:AL} {bs:List (List AV)} {ts:List (Nat×Nat)} {Post:AV->AL->Prop} (h0:BM s0) (hT:bs.take s0.bs.length=s0.bs) (Bi:AX bs s0.bs.length ts.length cs=some ds) (hP:Post (.agg ds) ⟨s0.bs,ts⟩):QM rr s0.bs.length Post (.agg cs) ⟨bs,ts⟩:=by
 refine Yi (ds:=ds) ?_ Bi ?_
 .rw[C2]
  intro b hb;exact h0 b (by grind)
 grind
abbrev Z5:List AV:=.AA []::Z4
def CM (b:Br) (x:AV):Prop:=∃a y,x=.agg (a::y)/\BJ a (AZ b.bounds)/\BV b.body (.agg y)
section
variable {R:RT}
theorem bt {e:Nat} {B:List Ty} (hB:∀t∈B,size t<2 ^ 38/\eE t=true) {o:List Nat} (ho:∀x∈o,x<B.length) (ZS:o.length<2 ^ 38) {s0:AL} (hs0:BM s0) {d:AV} {dr:List AV} (he:s0.bs[e]?=some (d::dr)) (hd:BJ d (AZ B)) {xs y:List AV} {t:Ty} (hy:BV t (.agg y)) {c f:AV} (hc:BJ c (AW (gO o)))
  {rr:Bool} {Post:AV->AL->Prop} (hP:∀v ts',CM ⟨o.map λx=>B.getD x aR,t⟩ v->CY (.AA []) (.AA []) s0.ts ts'->Post v ⟨s0.bs,ts'⟩) :
  ∀(j q:Nat) (tk:List (Nat×Nat)) (b:AV),q+j=o.length->Dr 0 tk 25 b (AZ ((o.take q).map λx=>B.getD x aR))->CY (.AA []) (.AA []) s0.ts tk->DR b s0.ts ->
   cB R 0 0 0 (.ptr s0.bs.length 0) (.ptr (s0.bs.length+2) 0) (.ptr (s0.bs.length+5) 0) c (AB o.length) (AB q) ⟨s0.bs++[[.ptr e 0],xs,Z5,[c],[f],b::y],tk⟩ (QM rr s0.bs.length Post):=by
 have vu:y.length=4/\y.all BE=true:=by
  obtain⟨k,n,i,ts⟩:=t;obtain⟨a,hy,ha⟩:=hy;cases hy;exact⟨rfl,by simp[ha.ok]⟩
 intro j
 induction j with
 | zero=>
  intro q tk b hi hb hC hF;refine AFE (Ai ?_);rw[Aw (by omega)];rw[CL (by omega)] at hb;have g5:(s0.bs++[[.ptr e 0],xs,Z5,[c],[f],b::y])[s0.bs.length+5]?=some (b::y):=EY rfl rfl;have g2:(s0.bs++[[.ptr e 0],xs,Z5,[c],[f],b::y])[s0.bs.length+2]?=some Z5:=EY rfl rfl;refine Aq (APk (Ae g5 (by grind) (CG g2 (by grind) rfl (by decide) (AI _) (by simp only[HA,hb.A1.ok,vu.2,K3]) (.inl (AI _)) (Ae (Bf g2) (by grind) ?_))));obtain⟨b',c1,c2⟩:=hb.A1.close ((s0.bs++[[.ptr e 0],xs,Z5,[c],[f],b::y]).set (s0.bs.length+2) (b::y)) s0.bs.length tk.length;obtain⟨ds,c3,c4⟩:=hy.Iz ((s0.bs++[[.ptr e 0],xs,Z5,[c],[f],b::y]).set (s0.bs.length+2) (b::y)) s0.bs.length tk.length;refine AKb (ds:=b'::ds) hs0 ?_ (by simp_all) (hP _ tk ⟨b',ds,rfl,c2,c4⟩ hC);simp
 | succ j D7=>
  intro q tk b hi hb hC hF;refine AFE (Ai ?_);rw[Ap (by omega)];obtain⟨u,hu⟩:∃u,o[q]?=some u:=⟨_,Ak (by omega)⟩;have huB:=ho u (A5 hu);have hBu:B[u]?=some (B.getD u aR):=by grind
  have hm:=hB _ (A5 hBu);have g0:(s0.bs++[[.ptr e 0],xs,Z5,[c],[f],b::y])[s0.bs.length]?=some [.ptr e 0]:=EY (j:=0) rfl rfl;have g5:(s0.bs++[[.ptr e 0],xs,Z5,[c],[f],b::y])[s0.bs.length+5]?=some (b::y):=EY rfl rfl;have ge:(s0.bs++[[.ptr e 0],xs,Z5,[c],[f],b::y])[e]?=some (d::dr):=by grind
  refine BH (APl (BR hc (row:=[.sc (.int .i64 u)]) (by omega) (by simp[*,AW]) rfl (by omega) (El (AK (AP g5) (AU g5 rfl (AU g0 rfl (C1 (AP ge) (AK (AP ge) (AU ge rfl (BR hd (row:=Ag (B.getD u aR)) (by omega) (by grind[BG]) (Af _) (by omega) (Cd (AD (bR hm.1 hm.2 (A7.BZ _)) ?_))))))))))));intro r hr;refine FR hr.G6 ⟨by decide,Iy hb rfl (by grind) λb' HP hb' hch=>?_⟩;have e1:((o.take q).map λx=>B.getD x aR)++[B.getD u aR]=(o.take (q+1)).map λx=>B.getD x aR:=by grind[List.take_add_one]
  rw[e1] at hb';refine AK (AP g5) (DG g5 (by simp) hb'.A1.cells (AI _) hb'.A1.ok (.inl (AI _)) ?_);have e2:(s0.bs++[[.ptr e 0],xs,Z5,[c],[f],b::y]).set (s0.bs.length+5) (b'::y)=s0.bs++[[.ptr e 0],xs,Z5,[c],[f],b'::y]:=Yj rfl;refine⟨AK (AP g5) (EP _ _),AU g5 rfl (HK hb),APm (Ba (by omega) (by omega) ?_)⟩
  show cB R _ _ _ _ _ _ _ _ _ ⟨(s0.bs++[[.ptr e 0],xs,Z5,[c],[f],b::y]).set (s0.bs.length+5) (b'::y),HP⟩ _
  rw[e2];have:=D7 (q+1) HP b' (by omega) hb' (hC.side hch hF) (hF.PC hch hC.1)
  grind
theorem cC (hn:Tl R) {e:Nat} {B:List Ty} (kj:B.length<=2 ^ 40) (hB:∀t∈B,size t<2 ^ 38/\eE t=true) {p:Ty} (hp:size p<2 ^ 38) (ht:Hp B.length p=true) {x:AV} (hx:A7 (ren p) x) {s:AL} (hs:BM s) {d:AV} {dr:List AV} (he:s.bs[e]?=some (d::dr)) (hd:BJ d (AZ B)) {L:A3} (hro:L.ro=0) (Eb:L.rt=0) :
  ∃v s',(∃ts',CM (KG B p) v/\CY (.AA []) (.AA []) s.ts ts'/\s'=⟨s.bs,ts'⟩)/\BA (env R) L 45 [.ptr e 0,x] s v s':=by
 refine m45 (by rfl) ?_;rw[hro,Eb];have hel:=(BL.1 he).1;have hxx:=hx
 obtain⟨k,n,i,ts,hr⟩:∃k n i ts,ren p=.mk k n i ts:=by
  obtain⟨k,n,i,ts⟩:=ren p;simp
 rw[hr] at hx;obtain⟨a,rfl,ha⟩:=hx;have ZS:=SC B.length p [];refine APn (Bu (cs:=[.ptr e 0]) rfl rfl (Bu (cs:=[AB k,SS n,AB i,a]) rfl (by simp[ha.ok]) (Bq (Bq (Bq ?_)))));simp only[FY,Dx,Ce,CD,CT,CJ,CP,Nat.reduceAdd];have g4:(s.bs++[[.ptr e 0],[AB k,SS n,AB i,a],Z5,[.AA []],[.pv (.sc .nilFunc)]])[s.bs.length+4]?=some [.pv (.sc .nilFunc)]:=EY rfl rfl;refine DG g4 (by decide) rfl (AI _) rfl (.inl (AI _)) ?_;have e4:∀c,(s.bs++[[.ptr e 0],[AB k,SS n,AB i,a],Z5,[.AA []],[.pv (.sc .nilFunc)]]).set (s.bs.length+4) c=s.bs++[[.ptr e 0],[AB k,SS n,AB i,a],Z5,[.AA []],c]:=λ_=>Yj rfl
 simp only[e4,List.set_cons_zero];generalize YA:s.bs++[[.ptr e 0],[AB k,SS n,AB i,a],Z5,[.AA []],[bV s.bs.length (s.bs.length+3) (s.bs.length+4)]]=bs;have Ng:bs.length=s.bs.length+5:=by grind
 have k0:bs[s.bs.length]?=some [.ptr e 0]:=by grind
 have k1:bs[s.bs.length+1]?=some [AB k,SS n,AB i,a]:=by rw[<-YA]; simp
 have k3:bs[s.bs.length+3]?=some [.AA []]:=by rw[<-YA]; simp
 have k4:bs[s.bs.length+4]?=some [bV s.bs.length (s.bs.length+3) (s.bs.length+4)]:=by grind
 have ke:bs[e]?=some (d::dr):=by grind
 have hok:BM ⟨bs,s.ts⟩:=by
  intro b hb;rw[<-YA] at hb;simp only[B9,A6,FZ,Fa] at hb
  show Ah bs.length b=true
  rw[Ng];rcases hb with hb|rfl|rfl|rfl|rfl|rfl
  .exact Bn (by omega) b (hs b hb)
  .simp[Ah,Ar]; omega
  .simp[Ah,Ar,ha.Ar]
  all_goals simp[*,Ah,Ar]
 refine AU k4 rfl (Ae k1 rfl ?_);obtain⟨v,s',⟨c',ts',ds,r1,r2,rfl,r4,rfl⟩,r6⟩:=bX hn (e:=e) (P:=s.bs.length) (A:=s.bs.length+3) (F:=s.bs.length+4) (N:=B.length) rfl kj p hp ht _ hxx [] ⟨bs,s.ts⟩ hok ⟨k0,k4,⟨d,dr,ke,hd⟩,by omega,by omega,by omega⟩ (by grind) (Dh (env R) 45 0 0 0) (.AA []) rfl rfl k3 (.inl rfl);rw[kq p [] ht] at r4
 have hds:ds.length=4/\ds.all BE=true:=by
  generalize (LP B.length p []).1=t at r4;obtain⟨k,n,i,ts⟩:=t;obtain⟨a,hy,ha⟩:=r4;cases hy;exact⟨rfl,by simp[ha.ok]⟩
 have AWU:∀f,(s.bs++[[.ptr e 0],[AB k,SS n,AB i,a],Z5,[c'],[f],Z5]).set (s.bs.length+5) (.AA []::ds)=s.bs++[[.ptr e 0],[AB k,SS n,AB i,a],Z5,[c'],[f],.AA []::ds]:=λ_=>Yj rfl
 refine⟨_,_,r6,IY (cs:=.AA []::ds) ?_ ?_⟩
 .simp only[FJ,cellsOf,hds.1,hds.2,CT,CJ,and_self,Nat.reduceAdd,Ac,F2]
  match ds,hds.1 with
  | [d1,d2,d3,d4],_=>rfl
 .subst YA
  have e3:∀c,(s.bs++[[.ptr e 0],[AB k,SS n,AB i,a],Z5,[.AA []],[bV s.bs.length (s.bs.length+3) (s.bs.length+4)]]).set (s.bs.length+3) c=s.bs++[[.ptr e 0],[AB k,SS n,AB i,a],Z5,c,[bV s.bs.length (s.bs.length+3) (s.bs.length+4)]]:=λ_=>Yj rfl
  simp only[e3];refine Bq ?_;simp only[FY,Dx,Ce,CD,CT,CJ,CP,Nat.reduceAdd];have g5:(s.bs++[[.ptr e 0],[AB k,SS n,AB i,a],Z5,[c'],[bV s.bs.length (s.bs.length+3) (s.bs.length+4)],Z5])[s.bs.length+5]?=some Z5:=EY rfl rfl;refine CG g5 (by grind) rfl (by decide) (AI _) (by simp[*]) (.inl (AI _)) ?_;simp only[AWU];have g3:(s.bs++[[.ptr e 0],[AB k,SS n,AB i,a],Z5,[c'],[bV s.bs.length (s.bs.length+3) (s.bs.length+4)],.AA []::ds])[s.bs.length+3]?=some [c']:=EY rfl rfl;refine AU g3 rfl (Al (n:=(LP B.length p []).2.length) (by rw[r1.A1.A9,BW,CC]) ?_);simp only[CJ] at ZS;exact bt hB (gQ p [] ht (by simp)) (by omega) hs he hd r4 r1.A1 (λv ts' h1 h2=>⟨ts',h1,h2,rfl⟩) (LP B.length p []).2.length 0 ts' (.AA []) (by omega) (.inl rfl) ⟨r2.1,r2.2.1,.inl rfl⟩ (DR.AA _ _)
end
mutual
def gR (m:Int->Bool) (b:Ty):Ty->Int->Ty
 | .mk c n i ts,k=>bif c==7 then(bif m i&&k==0 then b else .mk c n i ts) else bif c==3 then .mk c n i (QU m b ts k) else .mk c n i ts
def QU (m:Int->Bool) (b:Ty):List Ty->Int->List Ty
 | [],_=>[]
 | t::l,k=>gR m b t k::QU m b l (k-BU m t)
end
mutual
theorem kr (m:Int->Bool) (b:Ty):∀(t:Ty) (k:Int),k<0\/(BU m t:Int)<=k->gR m b t k=t
 | .mk c n i ts,k,h=>by
  rw[BU] at h;rw[gR];cases h7:c==7 with
  | true=>
   grind
  | false=>
   cases h3:c==3 with
   | true=>
    rw[h7,h3] at h;simp only[AN,AH] at h ⊢;rw[Tx m b ts k h]
   | false=>rfl
theorem Tx (m:Int->Bool) (b:Ty):∀(l:List Ty) (k:Int),k<0\/(CX m l:Int)<=k->QU m b l k=l
 | [],_,_=>rfl
 | t::l,k,h=>by
  rw[CX] at h;rw[QU,kr m b t k (by omega),Tx m b l (k-BU m t) (by omega)]
end
mutual
theorem vv (m:Int->Bool) (b:Ty):∀(t:Ty) (k:Nat),k<BU m t->gR m b t k=KF m b t k
 | .mk c n i ts,k,h=>by
  rw[BU] at h;rw[gR,KF];cases h7:c==7 with
  | true=>
   grind
  | false=>
   cases hc:c==3 with
   | true=>
    rw[h7,hc] at h;simp only[AN,AH] at h ⊢;rw[ku m b ts k h]
   | false=>rfl
theorem ku (m:Int->Bool) (b:Ty):∀(l:List Ty) (k:Nat),k<CX m l->QU m b l k=Jg m b l k
 | [],_,h=>by rfl
 | t::l,k,h=>by
  rw[CX] at h;rw[QU,Jg]
  by_cases hk:k<BU m t
  .rw[Ap hk,AN,vv m b t k hk,Tx m b l _ (by omega)]
  .have:(k:Int)-(BU m t:Nat)=((k-BU m t:Nat):Int):=by omega
   rw[Aw hk,AH,kr m b t k (by omega),this,ku m b l (k-BU m t) (by omega)]
end
section
variable {R:RT}
abbrev vw (V:Nat):AV:=.func (.func 137) [] [.ptr V 0]
theorem v7 {V:Nat} {v:Nat} {i:Int} {s:AL} (hs:BM s) (hV:s.bs[V]?=some [AB v]) (L:A3):BA (env R) L 137 [AB i,.ptr V 0] s (BB (i==(v:Int))) s:=by
 obtain⟨w,s',⟨rfl,rfl⟩,hc⟩:=AWV (R:=R) (L:=L) (s:=s) (t0:=AB i) (t1:=.ptr V 0) (Post:=λw s'=>w=BB (i==(v:Int))/\s'=s) (by rfl) (AKc (AU hV rfl (Ay (by
  have:=Iw (rr:=L.rr 137) hs (m:=[]) (p:=.sc (.bool (i==(v:Int)))) (Post:=λw s'=>w=BB (i==(v:Int))/\s'=s) ⟨rfl,rfl⟩
  simp_all))))
 omega
def AKd (R:RT) (C V v:Nat) (b:Ty) (y:AV) (x:AV) (t:Ty) (k:Int) (s:AL):Prop:=∀(L:A3),L.ro=0->L.rt=0->s.bs[C]?=some [AB k]->s.bs[V]?=some [AB v] ->
 ∃w s',(∃ts' ds,w=.agg ds/\BV (ren (gR (·==(v:Int)) b t k)) (.agg ds)/\CY (.AA []) (.AA []) s.ts ts'/\s'=⟨s.bs.set C [AB (k-BU (·==(v:Int)) t)],ts'⟩)/\BA (env R) L 59 [x,.ptr C 0,vw V,y] s w s'
theorem ADC {C V v:Nat} (hCV:C≠V) {b:Ty} {yc:List AV} {ts:List Ty} {a:AV} (ha:BJ a (AZ (Bz ts))) (hl:AY ts<2 ^ 38) {k i k0:Int} {n:List UInt8} (hk7:k≠7) (ZQ:-(2 ^ 40)-2 ^ 38<=k0-AY ts) (hk2:k0<2 ^ 40) {s0:AL} (hs0:BM s0) (hC:C<s0.bs.length) (hV:s0.bs[V]?=some [AB v]) (hyl:yc.length=4)
  (ih:∀t∈ts,∀(k:Int) (s:AL),BM s->-(2 ^ 40)-2 ^ 38<=k-size t->k<2 ^ 40->AKd R C V v b (.agg yc) (.agg ((Ag (ren t)).map .pv)) t k s)
  {rr:Bool} {Post:AV->AL->Prop}
  (hP:∀ts' ds,CY (.AA []) (.AA []) s0.ts ts'->BV (.mk k n i (Bz (QU (·==(v:Int)) b ts k0))) (.agg ds)->Post (.agg ds) ⟨s0.bs.set C [AB (k0-CX (·==(v:Int)) ts)],ts'⟩) :
  ∀(j q:Nat) (kc:Int) (done:List Ty) (bs:List (List AV)) (tk:List (Nat×Nat)) (acc:AV),q+j=ts.length->done++QU (·==(v:Int)) b (ts.drop q) kc=QU (·==(v:Int)) b ts k0->done.length=q->kc-CX (·==(v:Int)) (ts.drop q)=k0-CX (·==(v:Int)) ts->k0-AY ts<=kc-AY (ts.drop q)->kc<2 ^ 40 ->
   BM ⟨bs,tk⟩->bs.take s0.bs.length=s0.bs.set C [AB kc]->bs[s0.bs.length+1]?=some yc->bs[s0.bs.length+2]?=some Z4->bs[s0.bs.length+3]?=some [AB k,SS n,AB i,acc] ->
   Dr 0 tk 25 acc (AZ (Bz done))->CY (.AA []) (.AA []) s0.ts tk->DR acc s0.ts ->
   kz R 0 0 0 (.ptr C 0) (vw V) (.ptr (s0.bs.length+1) 0) (.ptr (s0.bs.length+2) 0) (.ptr (s0.bs.length+3) 0) a (AB ts.length) (AB q) ⟨bs,tk⟩ (QM rr s0.bs.length Post):=by
 have Uv:=BQ ts;intro j
 induction j with
 | zero=>
  intro q kc done bs tk acc hi hd hdl hk hks R2 hs hT h1 h2 h3 hb hch hfr;refine AFF (Ai ?_);rw[Aw (by omega)];rw[Bt (by omega),QU,Gb] at hd;rw[Bt (by omega),CX] at hk;rw[hd] at hb;refine Aq (APo (Ae h3 rfl (CG h2 rfl rfl (by decide) (AI _) (by simp[hb.A1.ok]) (.inl (AI _)) (Ae (Bf h2) rfl ?_))));obtain⟨ds,c1,c2⟩:=BV.Iz (v:=.mk k n i (Bz (QU (·==(v:Int)) b ts k0))) (cs:=[AB k,SS n,AB i,acc]) ⟨acc,rfl,hb.A1⟩ (bs.set (s0.bs.length+2) [AB k,SS n,AB i,acc]) s0.bs.length tk.length;have hkc:kc=k0-CX (·==(v:Int)) ts:=by omega
  rw[hkc] at hT;exact bU hs0 ((C9 (by omega)).trans hT) rfl c1 (hP tk ds hch c2)
 | succ j D7=>
  intro q kc done bs tk acc hi hd hdl hk hks R2 hs hT h1 h2 h3 hb hch hfr;refine AFF (Ai ?_);rw[Ap (by omega)];obtain⟨t,ht⟩:∃t,ts[q]?=some t:=⟨_,Ak (by omega)⟩;have Eb:(Bz ts)[q]?=some (ren t):=by simp[*,Bk]
  have Uu:=A5 ht;have hrl:((Ag (ren t)).map AV.pv).length=4:=by grind[Af]
  have hro:=DW (ren t)
  have Lp:Ah (bs.length+1) ((Ag (ren t)).map AV.pv)=true:=by
   obtain⟨k1,n1,i1,t1⟩:=ren t;rfl
  refine BH (APp (BR ha (row:=Ag (ren t)) (by omega) (by simp[*,BG]) (Af _) (by omega) (Cd (Bq ?_))));have gK:=ih t Uu;have hdr:ts.drop q=t::ts.drop (q+1):=drop_cons ht;rw[hdr,QU] at hd;rw[hdr,CX] at hk;rw[hdr,AY] at hks;have hcs:=O0 (·==(v:Int)) t;generalize (Ag (ren t)).map AV.pv=row at hrl hro Lp gK;refine CG (Az bs Z4) hrl rfl (by decide) (AI _) hro (.inl (AI _)) ?_;have e:(bs++[Z4]).set bs.length row=bs++[row]:=by simp
  rw[e];have l3:=(BL.1 h3).1;have N7:s0.bs.length<=bs.length:=by omega
  have gM:=(D1 N7 row).trans hT;have hs':BM ⟨bs++[row],tk⟩:=BM.app (s:=⟨bs,tk⟩) hs Lp;have gC:(s0.bs.set C [AB kc])[C]?=some [AB kc]:=by rw[CU hC]
  have gV:(s0.bs.set C [AB kc])[V]?=some [AB v]:=by grind
  have lV:=(BL.1 hV).1;obtain⟨w,s',⟨ts',ds,rfl,r4,r2,rfl⟩,r6⟩:=gK kc ⟨bs++[row],tk⟩ hs' (by omega) R2 (Dh (env R) 59 0 0 0) rfl rfl (B6 gM gC) (B6 gM gV);have g1:=Av h1 row;have g2:=Av h2 row;have g3:=Av h3 row;have g3':((bs++[row]).set C [AB (kc-BU (·==(v:Int)) t)])[s0.bs.length+3]?=some [AB k,SS n,AB i,acc]:=BS g3 (by omega);refine AK (AP g3) (AU g3 rfl (Ae (Az bs row) hrl (Ae g1 hyl ⟨_,_,r6,FR r4 ⟨by decide,Iy (r2.keep hb (λ_ h=>by cases h)) rfl ?_ ?_⟩⟩)))
  .grind[Bk]
  .intro b' HP hb' KZ
   have er:Bz done++[ren (gR (·==(v:Int)) b t kc)]=Bz (done++[gR (·==(v:Int)) b t kc]):=by simp[Bk]
   rw[er] at hb';refine AK (AP g3') (DG g3' (by simp) hb'.A1.cells (AI _) hb'.A1.ok (.inl (AI _)) ?_);refine⟨AK (AP g3') (EP _ _),AU g3' rfl (HK hb),APq (Ba (by omega) (by omega) ?_)⟩;have ow:(((bs++[row]).set C [AB (kc-BU (·==(v:Int)) t)]).set (s0.bs.length+3) [AB k,SS n,AB i,b']).take s0.bs.length=s0.bs.set C [AB (kc-BU (·==(v:Int)) t)]:=by simp[*,C9,EG]
   have hs2:BM ⟨(bs++[row]).set C [AB (kc-BU (·==(v:Int)) t)],ts'⟩:=BM.set (s:=⟨bs++[row],tk⟩) hs' rfl _
   have fin:=D7 (q+1) (kc-BU (·==(v:Int)) t) (done++[gR (·==(v:Int)) b t kc]) _ HP b' (by omega) (by simp[*]) (by simp[*]) (by omega) (by omega) (by omega)
    (BM.set (s:=⟨(bs++[row]).set C [AB (kc-BU (·==(v:Int)) t)],ts'⟩) hs2 (by simp[Ah,Ar,hb'.A1.Ar]) _) ow (BS (BS g1 (by omega)) (by omega)) (BS (BS g2 (by omega)) (by omega)) (Bf g3')
    hb' ((hch.trans r2).side KZ hfr) (hfr.PC KZ (CN hch.1 r2.1))
   assumption
end
theorem A7.agg {t:Ty} {x:AV} (h:A7 t x):∃cs,x=.agg cs:=by
 obtain⟨k,n,i,ts⟩:=t;obtain⟨a,rfl,_⟩:=h;simp
theorem AM.open {E:Env} {f:FuncId} {args args':List AV} {Post:AV->Prop} (hk:E.kind f=.rd) (hc:E.clone f=false) (hl:args.length=args'.length) (h1:AX [] 0 0 args=some args') (h2:AX [] 0 0 args'=some args') (h:AM E f args' Post):AM E f args Post:=by
 obtain⟨v,hp,hv⟩:=h;refine⟨v,hp,λL s=>?_⟩;obtain⟨n,hn⟩:=hv L s;refine⟨n,λm hm=>?_⟩;rw[<-hn m hm];cases m with
 | zero=>rfl
 | succ m=>
  grind[Dl,D5]
theorem A7.H6 {t:Ty} {x:AV} (h:A7 t x) (bs:List (List AV)) (n m:Nat):close bs n m x=some x:=by
 obtain⟨k,c,i,ts⟩:=t;obtain⟨a,rfl,ha⟩:=h;simp[ha.close]
section
variable {R:RT}
theorem Tz (hn:Tl R) {N:Nat} (hN:N<=2 ^ 40) {k i:Int} {n:List UInt8} {ts:List Ty} (ht:Hp N (.mk k n i ts)=true) {x:AV} (hx:BV (ren (.mk k n i ts)) x) :
  AM (env R) 92 [x] λr=>r=bif k==7 then .tuple [AB i,BB true] else .tuple [AB 0,BB false]:=by
 obtain⟨x',h1,h2⟩:=hx.closed [] 0;exact AM.open (args':=[x']) (by rfl) (by rfl) rfl (by simp[*]) (by simp[AX,h2.H6]) (KH hn hN ht h2)
theorem PD (hn:Tl R) {N:Nat} (hN:N<=2 ^ 40) (v:Nat) (t:Ty) (inv:Bool) (hs:size t<2 ^ 60) (ht:Hp N t=true) {x:AV} (hx:BV (ren t) x):AM (env R) 62 [x,AB v,BB inv] λr=>r=BB (DY v inv t):=by
 obtain⟨x',h1,h2⟩:=hx.closed [] 0;exact AM.open (args':=[x',AB v,BB inv]) (by rfl) (by rfl) rfl (by simp[*]) (by simp[AX,h2.H6,Tel.close]) (RD hn hN v t inv hs ht x' h2)
theorem T1 {rr:Bool} {C:Nat} {c:List AV} {t:Ty} {cs:List AV} {s0:AL} {bs:List (List AV)} {ts:List (Nat×Nat)} {Post:AV->AL->Prop} (h0:BM s0) (hT:bs.take s0.bs.length=s0.bs.set C c) (hc:Ah s0.bs.length c=true) (ht:BV t (.agg cs)) (hP:∀ds,BV t (.agg ds)->Post (.agg ds) ⟨s0.bs.set C c,ts⟩):QM rr s0.bs.length Post (.agg cs) ⟨bs,ts⟩:=by
 obtain⟨ds,c1,c2⟩:=ht.Iz bs s0.bs.length ts.length
 grind[bU]
mutual
theorem lB (hn:Tl R) {N:Nat} (kj:N<=2 ^ 40) {C V v:Nat} (hCV:C≠V) {b:Ty} {y:AV} (hy:A7 (ren b) y):∀(t:Ty),size t<2 ^ 38->Hp N t=true->∀(x:AV),BV (ren t) x->∀(k:Int) (s:AL),BM s->-(2 ^ 40)-2 ^ 38<=k-size t->k<2 ^ 40->AKd R C V v b y x t k s
 | .mk k n i ts,h,ht,x,hx,kc,s,hs,ZQ,hk2,L,hro,Eb,hC,hV=>by
  have lC:=(BL.1 hC).1;have Uv:=BQ ts;have bZ:=Tz hn kj ht hx;rw[Hp] at ht;simp only[size] at h ZQ;obtain⟨yc,rfl⟩:=hy.agg;have hy':=hy;obtain⟨vu,hyo,hyi,_⟩:=hy'.cells;refine m59 (by simp[Bo,GO]) ?_;rw[hro,Eb];have same:s.bs.set C [AB kc]=s.bs:=by grind[List.set_getElem_self]
  have start:∀(k' i':Int) (nm:List UInt8) (a:AV) (rows:List (List PV)) (Post:AV->AL->Prop),BJ a rows->AM (env R) 92 [.agg [AB k',SS nm,AB i',a]] (λr=>r=bif k==7 then .tuple [AB i,BB true] else .tuple [AB 0,BB false]) ->
    (∀bs,bs.take s.bs.length=s.bs.set C [AB kc]->BM ⟨bs,s.ts⟩->bs.length=s.bs.length+3->bs[s.bs.length]?=some [AB k',SS nm,AB i',a]->bs[s.bs.length+1]?=some yc->bs[s.bs.length+2]?=some Z4 ->
     AO (BB (k==7)) (
      GM (env R) (Dh (env R) 59 0 0 0) (vw V) [AB (bif k==7 then i else 0)] ⟨bs,s.ts⟩ λa22 Yk=>
      AO a22 (
      Cz Yk (.ptr C 0) λa24=>
      FC (env R) Yk none a24 λa25=>
      Cg .i64 .sub a25 (AB 1) λa26=>
      Cz Yk (.ptr C 0) λa27=>
      Ci (Dh (env R) 59 0 0 0) Yk 1 a27 a26 λTv=>
      Cz Tv (.ptr C 0) λa29=>
      FC (env R) Tv none a29 λa30=>
      Cg .i64 .eql a30 (AB (-1)) λa31=>
      AO a31 (
      FC (env R) Tv (some 4) (.ptr (s.bs.length+1) 0) λa32=>
      Ci (Dh (env R) 59 0 0 0) Tv 4 (.ptr (s.bs.length+2) 0) a32 λou=>
      FC (env R) ou (some 4) (.ptr (s.bs.length+2) 0) λr=>
      QM (L.rr 59) s.bs.length Post r ou) (
      WW R 0 0 0 (.ptr s.bs.length 0) (.ptr (s.bs.length+2) 0) Tv (QM (L.rr 59) s.bs.length Post))) (
      WW R 0 0 0 (.ptr s.bs.length 0) (.ptr (s.bs.length+2) 0) Yk (QM (L.rr 59) s.bs.length Post))) (
      v8 R 0 0 0 (.ptr C 0) (vw V) (.ptr s.bs.length 0) (.ptr (s.bs.length+1) 0) (.ptr (s.bs.length+2) 0) ⟨bs,s.ts⟩ (QM (L.rr 59) s.bs.length Post))) ->
    wA R 0 0 0 (.agg [AB k',SS nm,AB i',a]) (.ptr C 0) (vw V) (.agg yc) s (QM (L.rr 59) s.bs.length Post):=by
   intro k' i' nm a rows Post ha hv hh;refine APs (Bu (cs:=[AB k',SS nm,AB i',a]) rfl (by simp[ha.ok]) (Bu (cs:=yc) rfl hyo (Bq ?_)));simp only[FY,Dx,Ce,CD,CT,CJ,CP,Nat.reduceAdd];have g0:(s.bs++[[AB k',SS nm,AB i',a],yc,Z4])[s.bs.length]?=some [AB k',SS nm,AB i',a]:=EY (j:=0) rfl rfl;refine Ae g0 rfl (AD hv ?_);rintro _ rfl
   have:=hh (s.bs++[[AB k',SS nm,AB i',a],yc,Z4]) (by grind) (by
    intro d hd;simp only[B9,A6,FZ,Fa] at hd
    show Ah (s.bs++_).length d=true
    rcases hd with hd|rfl|rfl|rfl
    .exact Bn (by simp) d (hs d hd)
    .simp[Ah,Ar,ha.Ar]
    .grind[Bn]
    rfl) (by simp) g0 (EY rfl rfl) (EY rfl rfl)
   cases hb7:k==7 with
   | true=>rw[hb7] at this; assumption
   | false=>simp_all
  have back:∀(k' i':Int) (nm:List UInt8) (a:AV) (u:List Ty) (kd:Int) (bs:List (List AV)) (Post:AV->AL->Prop),BJ a (AZ u)->bs.take s.bs.length=s.bs.set C [AB kd]->bs[s.bs.length]?=some [AB k',SS nm,AB i',a]->bs[s.bs.length+2]?=some Z4 ->
    (∀ds,BV (.mk k' nm i' u) (.agg ds)->Post (.agg ds) ⟨s.bs.set C [AB kd],s.ts⟩)->WW R 0 0 0 (.ptr s.bs.length 0) (.ptr (s.bs.length+2) 0) ⟨bs,s.ts⟩ (QM (L.rr 59) s.bs.length Post):=by
   intro k' i' nm a u kd bs Post ha hT g0 g2 hP;refine APt (Ae g0 rfl (CG g2 rfl rfl (by decide) (AI _) (by simp[ha.ok]) (.inl (AI _)) (Ae (Bf g2) rfl ?_)));exact T1 hs ((C9 (by omega)).trans hT) rfl (t:=.mk k' nm i' u) ⟨a,rfl,ha⟩ hP
  by_cases h7:k=7
  .subst h7
   simp only[DL,AN,AG,Jk,Dc] at ht;obtain⟨hts,hi0,hiN⟩:=ht;subst hts;have er:ren (.mk 7 n i [])=.mk 2 (36::G5 i.toNat) 0 []:=rfl;rw[er] at hx;obtain⟨a,rfl,ha⟩:=hx;have wB:gR (·==(v:Int)) b (.mk 7 n i []) kc=bif (i==(v:Int))&&kc==0 then b else .mk 7 n i []:=by rfl
   have wC:BU (·==(v:Int)) (.mk 7 n i [])=bif i==(v:Int) then 1 else 0:=by rfl
   rw[wB,wC];refine start 2 0 (36::G5 i.toNat) a _ _ ha bZ λbs hT hok hl g0 g1 g2=>?_
   have gV:bs[V]?=some [AB v]:=B6 hT (by grind);have gC:bs[C]?=some [AB kc]:=B6 hT (by grind);refine BH ⟨_,_,v7 (i:=i) hok gV _,?_⟩;cases hiv:i==(v:Int) with
   | false=>
    grind[Aq,CY.refl]
   | true=>
    simp only[Fb,AN];refine BH (C1 (AP gC) (AU gC rfl (QJ (by omega) (by omega) (C1 (AP gC) (DG gC (by simp) rfl (AI _) rfl (.inl (AI _)) ?_)))));have gC':(bs.set C [AB (kc-1)])[C]?=some [AB (kc-1)]:=by rw[CU (by omega)]
    have gM:(bs.set C [AB (kc-1)]).take s.bs.length=s.bs.set C [AB (kc-1)]:=by simp[*,EG]
    refine C1 (AP gC') (AU gC' rfl (Ay ?_));have e0:(kc-1==-1)=(kc==0):=by grind
    rw[e0];cases Ze:kc==0 with
    | true=>
     simp only[AN];refine BH (Ae (BS g1 (by omega)) vu (CG (BS g2 (by omega)) vu rfl (by decide) (AI _) hyo (.inl (AI _)) (Ae (Bf (BS g2 (by omega))) vu ?_)));refine T1 hs ((C9 (by omega)).trans gM) rfl hy'.G6 λds hds=>⟨s.ts,ds,rfl,hds,CY.refl _ _,rfl⟩
    | false=>
     simp only[AH];refine Aq (back 2 0 _ a [] (kc-1) _ _ ha gM (BS g0 (by omega)) (BS g2 (by omega)) λds hds=>⟨s.ts,ds,rfl,by grind,CY.refl _ _,rfl⟩)
  .have b7:(k==7)=false:=by grind
   have er:=HL k n i ts h7;rw[er] at hx;rw[b7] at ht;simp only[AH,AG] at ht;obtain⟨a,rfl,ha⟩:=hx;refine start k i n a _ _ ha bZ λbs hT hok hl g0 g1 g2=>?_
   rw[b7];refine Aq (APv (AK (AP g0) (AU g0 rfl (FD ?_))));cases h3:k==3 with
   | false=>
    have hne:(k != 3)=true:=by grind
    rw[hne];have wB:gR (·==(v:Int)) b (.mk k n i ts) kc=.mk k n i ts:=by grind[gR]
    have wC:BU (·==(v:Int)) (.mk k n i ts)=0:=by grind[BU]
    rw[wB,wC];have:=back k i n a (Bz ts) kc bs (λw s'=>∃ts' ds,w=.agg ds/\BV (ren (.mk k n i ts)) (.agg ds)/\CY (.AA []) (.AA []) s.ts ts'/\s'=⟨s.bs.set C [AB (kc-(0:Nat))],ts'⟩) ha hT g0 g2 λds hds=>⟨s.ts,ds,rfl,by grind,CY.refl _ _,by simp⟩
    exact BH (Ae g0 rfl (CG g2 rfl rfl (by decide) (AI _) (by simp[ha.ok]) (.inl (AI _)) (Ae (Bf g2) rfl (T1 hs ((C9 (by omega)).trans hT) rfl (t:=.mk k n i (Bz ts)) ⟨a,rfl,ha⟩ λds hds=>⟨s.ts,ds,rfl,by grind,CY.refl _ _,by simp⟩))))
   | true=>
    have hne:(k != 3)=false:=by grind
    rw[hne];have wB:gR (·==(v:Int)) b (.mk k n i ts) kc=.mk k n i (QU (·==(v:Int)) b ts kc):=by grind[gR]
    have wC:BU (·==(v:Int)) (.mk k n i ts)=CX (·==(v:Int)) ts:=by grind[BU]
    rw[wB,wC,HL k n i _ h7];refine Aq (APw (Ae g0 rfl (Bq ?_)));simp only[hl];have gl:(bs++[Z4])[s.bs.length+3]?=some Z4:=by grind
    refine CG gl rfl rfl (by decide) (AI _) (by simp[ha.ok]) (.inl (AI _)) ?_;have gl2:((bs++[Z4]).set (s.bs.length+3) [AB k,SS n,AB i,a])[s.bs.length+3]?=some [AB k,SS n,AB i,a]:=Bf gl;refine AK (AP gl2) (DG (off:=3) gl2 (Ac 4) rfl (AI _) rfl (.inl (AI _)) ?_);have eb:((bs++[Z4]).set (s.bs.length+3) [AB k,SS n,AB i,a]).set (s.bs.length+3) ([AB k,SS n,AB i,a].set 3 (.AA []))=bs++[[AB k,SS n,AB i,.AA []]]:=by grind
    show Ax ⟨((bs++[Z4]).set (s.bs.length+3) [AB k,SS n,AB i,a]).set (s.bs.length+3) ([AB k,SS n,AB i,a].set 3 (.AA [])),s.ts⟩ _ _ _
    rw[eb];have q0:=Av g0 [AB k,SS n,AB i,.AA []];refine AK (AP q0) (AU q0 rfl (Al (n:=ts.length) (by rw[ha.A9,AQ,Bk,CC]) ?_))
    exact ADC (C:=C) (V:=V) hCV (yc:=yc) ha (by omega) h7 (k0:=kc) (by omega) hk2 hs lC hV vu (λt hm k s hs h1 h2=>cD hn kj hCV hy' ts (by omega) ht.2.2 t hm k s hs h1 h2) (λts' ds h1 h2=>⟨ts',ds,rfl,h2,h1,rfl⟩) ts.length 0 kc [] _ s.ts (.AA []) (by omega) (by simp) rfl (by simp) (by simp) hk2
     (BM.app (s:=⟨bs,s.ts⟩) hok (by rfl)) ((D1 (by omega) _).trans hT) (Av g1 _) (Av g2 _) (by grind) (.inl rfl) (CY.refl _ _) (DR.AA _ _)
theorem cD (hn:Tl R) {N:Nat} (kj:N<=2 ^ 40) {C V v:Nat} (hCV:C≠V) {b:Ty} {y:AV} (hy:A7 (ren b) y):∀(ts:List Ty),AY ts<2 ^ 38->IZ N ts=true->∀t∈ts,∀(k:Int) (s:AL),BM s->-(2 ^ 40)-2 ^ 38<=k-size t->k<2 ^ 40->AKd R C V v b y (.agg ((Ag (ren t)).map .pv)) t k s
 | [],_,_,_,h=>by cases h
 | u::l,h,ht,t,hm=>by
  simp only[AY] at h;simp only[IZ,AG] at ht;rcases A6.1 hm with h' | h'
  .rw[h']
   exact lB hn kj hCV hy u (by omega) ht.1 _ (A7.BZ _).G6
  .exact cD hn kj hCV hy l (by omega) ht.2 t h'
end
end
def Res (v:AV) (r:Option (List Ty)):Prop:=match r with
 | none=>v=.tuple [.AA [],BB false]
 | some l=>∃a,v=.tuple [a,BB true]/\BJ a (AZ (Bz l))
abbrev AR (A4:Nat):Nat->Bool:=λn=>decide (A4<n)
theorem Ev {rr:Bool} {e A4:Nat} {v d':AV} {r:Option (List Ty)} {s0:AL} {bs:List (List AV)} {ts:List (Nat×Nat)} {Post:AV->AL->Prop} (h0:BM s0) (hT:bs.take s0.bs.length=s0.bs.set e [d',AB A4]) (hd:Ar s0.bs.length d'=true) (hr:Res v r) (hP:∀w,Res w r->Post w ⟨s0.bs.set e [d',AB A4],ts⟩):QM rr s0.bs.length Post v ⟨bs,ts⟩:=by
 have hok:((bs.take s0.bs.length).all (Ah s0.bs.length))=true:=by
  have:=BM.set h0 (c:=[d',AB A4]) (by grind[Ah,Ar]) ts (j:=e);rw[C2];intro b hb;have:=this b (by grind)
  grind
 cases r with
 | none=>
  cases hr;refine JU (ds:=[.AA [],BB false]) hok rfl ?_
  show Post _ ⟨bs.take _,ts⟩
  rw[hT];exact hP _ rfl
 | some l=>
  obtain⟨a,rfl,ha⟩:=hr;obtain⟨a',h1,h2⟩:=ha.close bs s0.bs.length ts.length;refine JU (ds:=[a',BB true]) hok (by simp[*]) ?_
  show Post _ ⟨bs.take _,ts⟩
  rw[hT];exact hP _ ⟨a',rfl,h2⟩
theorem BV.cells {t:Ty} {y:List AV} (h:BV t (.agg y)):y.length=4/\y.all BE=true/\∀n,Ah n y=true:=by
 obtain⟨k,n,i,ts⟩:=t;obtain⟨a,hy,ha⟩:=h;cases hy;exact⟨rfl,by simp[ha.ok],λn=>by simp[Ah,Ar,ha.Ar]⟩
theorem BV.agg {t:Ty} {x:AV} (h:BV t x):∃cs,x=.agg cs:=by
 obtain⟨k,n,i,ts⟩:=t;obtain⟨a,rfl,_⟩:=h;simp
mutual
theorem Mr (N:Nat):∀t:Ty,Hp N t=Eu (λi=>decide (0<=i)&&decide (i<N)) t
 | .mk k n i ts=>by rw[Hp,Eu,cE N ts]
theorem cE (N:Nat):∀l:List Ty,IZ N l=D2 (λi=>decide (0<=i)&&decide (i<N)) l
 | []=>rfl
 | t::l=>by rw[IZ,D2,Mr N t,cE N l]
end
theorem Ew {L:A3} {s:AL} {a y:AV} {es l:List Ty} {K:AV->AL->Prop} (ha:Dr 0 s.ts 25 a (AZ es)) (Eb:L.rt=0) (hl:es.length+l.length<2 ^ 39) (hy:BJ y (AZ l)) (h:∀a' ts',Dr 0 ts' 25 a' (AZ (es++l))->CY a a' s.ts ts'->K a' ⟨s.bs,ts'⟩) :
  Cx false L s 25 4 56 a y K:=by
 have h1:=AQ es;have h2:=AQ l;refine QS (m:=AZ l) ha Eb (λr hr=>Gy hr) (λr hr=>Gy hr) (by omega) (De hy λr hr=>Gy hr) ?_ (by omega) (by omega) λa' ts' h3 h4=>h a' ts' (by grind[GJ]) h4
 grind[IA,DW]
theorem cG {α:Type} {A4:Nat} {g:α->List Ty->Fv}:∀(l:List α) (out B r:List Ty),out.length<=A4->(Ca (AR A4) g l out B).1=some r->r.length<=A4
 | [],out,B,r,ho,h=>by grind[Ca]
 | a::l,out,B,r,ho,h=>by
  rw[Ca] at h;rcases hr:g a B with ⟨_|s,B1⟩
  .grind
  .rw[hr] at h
   simp only at h;cases hb:AR A4 (out++s).length with
   | true=>grind
   | false=>
    rw[hb] at h;exact cG l (out++s) B1 r (by grind) h
theorem QV {A4:Nat} {ex:List Ty->Fv} {v:Nat}:∀(f:Nat) (t:Ty) (B r:List Ty),(CI (AR A4) ex v f t B).1=some r->r.length<=A4+1
 | 0,t,B,r,h=>by grind[CI]
 | f+1,t,B,r,h=>by
  rw[CI] at h;cases ho:DY v false t with
  | false=>grind
  | true=>
   rw[ho] at h;simp only[AN] at h;rcases he:ex B with ⟨_|cs,B1⟩
   .grind
   .rw[he] at h
    have:=cG cs [] B1 r (by simp) h;omega
section
variable {R:RT}
def WX (R:RT) (e A4 f:Nat) (args:List AV) (o:Fv) (B:List Ty) (s:AL):Prop:=∀(L:A3) (d:AV),L.ro=0->L.rt=0->s.bs[e]?=some [d,AB A4]->Dr 0 s.ts 25 d (AZ B) ->
 ∃v s',(∃d' ts',Res v o.1/\Dr 0 ts' 25 d' (AZ o.2)/\CY d d' s.ts ts'/\s'=⟨s.bs.set e [d',AB A4],ts'⟩)/\BA (env R) L f (.ptr e 0::args) s v s'
end
mutual
theorem Gz:∀t:Ty,(Aj t).length<=size t
 | .mk k n i ts=>by
  have:=Nt ts
  grind[Aj,size]
theorem Nt:∀l:List Ty,(Bp l).length<=AY l
 | []=>by simp[Bp]
 | t::l=>by
  have:=Gz t;have:=Nt l
  grind[Bp,AY]
end
mutual
theorem cH (N:Nat):∀(t:Ty) (o:List Nat),size (LP N t o).1<=size t
 | .mk k n i ts,o=>by
  have:=WY N ts o
  grind[LP,size,AY]
theorem WY (N:Nat):∀(l:List Ty) (o:List Nat),AY (Gj N l o).1<=AY l
 | [],_=>by grind[Gj]
 | t::l,o=>by
  have h1:=cH N t o;have h2:=WY N l (LP N t o).2
  grind[Gj,AY]
end
theorem wD (B:List Ty) (p:Ty):size (KG B p).body<=size p/\(KG B p).bounds.length<=size p:=by grind[cH,SC,KG]
def RU (b:Br):Bool:=decide (b.bounds.length<=6)&&decide ((Aj b.body).length<=3)
def Dw (o:List Br×Int):Bool:=o.2==0&&decide (o.1.length<=4)
def xP:Nat->Ty->List Br×Int
 | 0,_=>([],2)
 | f+1,t=>bif !(verdict t==0)||!(Cv 0 t) then([],2) else match BF (AR 32) (depth t) t [] with
  | (none,_)=>([],4)
  | (some ps,B)=>bif (ps.map (KG B)).all RU&&(((ps.map (KG B)).flatMap Br.bounds).all λb=>Dw (xP f b)) then(ps.map (KG B),0) else([],4)
def xR:Nat->Ty->List Br×Int
 | 0,_=>([],2)
 | f+1,t=>bif !(verdict t==0)||!(Cv 0 t) then([],2) else match DS (AR 32) (depth t) t with
  | none=>([],4)
  | some l=>bif (l.map FQ).all λb=>RU b&&b.bounds.all λb=>Dw (xR f b) then(l.map FQ,0) else([],4)
theorem LU {t:Ty} (h:verdict t=0):valid t=true/\size t<=200/\depth t<=12:=by grind[verdict]
mutual
def D3 (P:Ty->Prop):Ty->Prop
 | .mk k _ _ ts=>(k=6->∀b body,ts=[b,body]->P b)/\(k=3\/k=4\/k=6->MM P ts)
def MM (P:Ty->Prop):List Ty->Prop
 | []=>True
 | t::l=>D3 P t/\MM P l
end
theorem WZ {P:Ty->Prop}:∀{l:List Ty} {t:Ty},MM P l->t∈l->D3 P t
 | a::l,t,h,ht=>by
  rw[MM] at h;rcases A6.1 ht with rfl|ht
  .grind
  .exact WZ h.2 ht
mutual
theorem Wa {P Q:Ty->Prop} (h:∀b,P b->Q b):∀t:Ty,D3 P t->D3 Q t
 | .mk k n i ts,ht=>by
  rw[D3] at ht ⊢;exact⟨λh6 b body e=>h b (ht.1 h6 b body e),λhk=>T2 h ts (ht.2 hk)⟩
theorem T2 {P Q:Ty->Prop} (h:∀b,P b->Q b):∀l:List Ty,MM P l->MM Q l
 | [],_=>trivial
 | t::l,hl=>by
  rw[MM] at hl ⊢;exact⟨Wa h t hl.1,T2 h l hl.2⟩
end
def Gt (P:Ty->Prop) (ex:List Ty->Fv):Prop:=∀B,(∀b∈B,P b)->∀b∈(ex B).2,P b
section
variable {BD:Nat->Bool} {P:Ty->Prop}
theorem QW {α:Type} {g:α->List Ty->Fv} (hg:∀a,Gt P (g a)):∀(l:List α) (out:List Ty),Gt P (Ca BD g l out)
 | [],out,B,h=>h
 | a::l,out,B,h=>by
  have h1:=hg a B h;rw[Ca];rcases hr:g a B with ⟨_|r,B1⟩
  .grind
  .rw[hr] at h1
   simp only;cases BD (out++r).length with
   | true=>grind
   | false=>exact QW hg l _ B1 h1
theorem T3 {ex:List Ty->Fv} (hx:Gt P ex) (v:Nat):∀(f:Nat) (t:Ty),Gt P (CI BD ex v f t)
 | 0,_,B,h=>h
 | f+1,t,B,h=>by
  have h1:=hx B h;rw[CI];cases DY v false t with
  | false=>exact h
  | true=>
   simp only[AN];rcases hr:ex B with ⟨_|r,B1⟩
   .grind
   .rw[hr] at h1
    exact QW (λc=>T3 hx v f _) r [] B1 h1
theorem gS {ex:List Ty->Fv} (hx:Gt P ex) (v:Nat) (t:Ty):Gt P (B5 BD ex v t):=by
 intro B h;rw[B5];cases DY v true t with
 | true=>exact h
 | false=>exact T3 hx v _ t B h
theorem QX {ex:Ty->List Ty->Fv}:∀(l out:List Ty) (ok:Bool),(∀t∈l,Gt P (ex t))->∀B,(∀b∈B,P b)->∀b∈(G4 ex l out ok B).2,P b
 | [],_,_,_,_,h=>h
 | t::l,out,ok,hx,B,h=>by
  have h1:=hx t (by simp) B h;rw[G4];rcases hr:ex t B with ⟨_|r,B1⟩
  .rw[hr] at h1
   exact QX l out false (λa ha=>hx a (by grind)) B1 h1
  .rw[hr] at h1
   exact QX l _ ok (λa ha=>hx a (by grind)) B1 h1
theorem Wc {ex:Ty->List Ty->Fv}:∀(l:List Ty) (out:List (List Ty)),(∀t∈l,Gt P (ex t))->∀B,(∀b∈B,P b)->∀b∈(Er ex l out B).2,P b
 | [],_,_,_,h=>h
 | t::l,out,hx,B,h=>by
  have h1:=hx t (by simp) B h;rw[Er];rcases hr:ex t B with ⟨_|r,B1⟩
  .grind
  .rw[hr] at h1
   exact Wc l _ (λa ha=>hx a (by grind)) B1 h1
theorem Wd:∀(f:Nat) (t:Ty) (σ:List Nat),valid t=true->Cv σ.length t=true->D3 P t->Gt P (BF BD f (inst σ 0 t))
 | 0,_,_,_,_,_=>λB h=>h
 | f+1,.mk k n i ts,σ,hv,hc,ha=>by
  intro B h;have ih:=λt σ=>Wd f t σ
  have Pz:=hv;simp only[valid,AG] at hv;rw[D3] at ha
  have mem:∀(hk:k≠6) (lD:k≠5),(k=3\/k=4\/k=6)->∀t∈ts.map (inst σ 0),Gt P (BF BD f t):=by
   intro hk lD R2 t ht;obtain⟨t0,ZU,rfl⟩:=C3.1 ht;exact ih t0 σ (Cb hv.2 ZU) (Hj hk (D9 hc lD) ZU) (WZ (ha.2 R2) ZU)
  rcases Dt σ 0 Pz with ⟨rfl,rfl,rfl,_,_,⟨v,h2,h3⟩|h3⟩|⟨b5,h3⟩
  .grind[BF]
  .grind[BF]
  .rw[h3,BF]
   cases Ze:k==0||k==2||k==7 with
   | true=>exact h
   | false=>
    simp only[AH];cases h4:k==4 with
    | true=>
     have:k=4:=by grind
     subst this;simp only[AN];rw[Et (k:=4) (by decide)];have:=QX (ts.map (inst σ 0)) [] true (mem (by decide) (by decide) (by simp)) B h;omega
    | false=>
     simp only[AH];cases R2:k==3 with
     | true=>
      have:k=3:=by grind
      subst this;simp only[AN];rw[Et (k:=3) (by decide)];have:=Wc (ts.map (inst σ 0)) [] (mem (by decide) (by decide) (by simp)) B h;generalize Er (BF BD f) (ts.map (inst σ 0)) [] B=o at this ⊢;rcases o with ⟨_|ls,B1⟩
      .omega
      .simp only
       cases ls.any List.isEmpty with
       | true=>grind
       | false=>
        grind
     | false=>
      simp only[AH];cases j5:k==6 with
      | false=>exact h
      | true=>
       have:k=6:=by grind
       subst this;rcases NL hv.1 with h' | h' | h' | h' | h' | h' | ⟨_,rfl,rfl,b,body,rfl,hcb⟩
       iterate 6 exact absurd h' (by simp)
       have hPb:=ha.1 rfl b body rfl;have S9:=ha.2 (by simp);rw[MM,MM] at S9;simp only[BT,AG] at hv;obtain⟨_,OB,cI,_⟩:=hv;have eb:inst σ (0+Ec 6 0) b=b:=Iu σ b 0 OB hcb
       have hcy:Cv (1+σ.length) body=true:=by
        have:=D9 hc (by decide);simp only[D8,AG] at this;have h2:=this.2.1;rw[Md];exact h2
       have VK:sub B.length 0 (inst σ 1 body)=inst (B.length::σ) 0 body:=Ki B.length σ body 0 cI (by omega)
       have hkb:Gt P (BF BD f b):=by
        have:=ih b [] OB hcb S9.1
        grind[ER]
       have hky:=ih body (B.length::σ) cI (by grind) S9.2.1;simp only[AN,Db,eb,eD];have e1:inst σ (0+Ec 6 (0+1)) body=inst σ 1 body:=rfl;rw[e1,VK];have h1:=hky (B++[b]) (by grind);generalize BF BD f (inst (B.length::σ) 0 body) (B++[b])=o at h1 ⊢;rcases o with ⟨_|l,B1⟩
       .omega
       .simp only at h1 ⊢
        have h2:=QW (BD:=BD) (g:=B5 BD (BF BD f b) B.length) (λa=>gS hkb B.length a) l [] B1 h1
        grind
end
section
variable {R:RT}
theorem ADE (hn:Tl R) {e A4 v M S f:Nat} {B0:List Ty} {q:Int->Bool} (hq:∀i,q i=true->0<=i/\i<2 ^ 40) (JW:A4<2 ^ 20) (hS:S<2 ^ 37) {ex:List Ty->Fv} (gT:∀B,B<+:(ex B).2)
  {t:Ty} (htq:Eu q t=true) (TU:0<BU (·==(v:Int)) t) (htS:size t<=S) {xc:List AV} (hx:BV (ren t) (.agg xc)) {cs:List Ty} (Bi:cs.length<=A4) {a:AV} (ha:BJ a (AZ (Bz cs)))
  (ih:∀c∈cs,∀(B:List Ty),B0<+:B->(CI (AR A4) ex v f (KF (·==(v:Int)) c t 0) B).2.length<=M->∀x,BV (ren (KF (·==(v:Int)) c t 0)) x->∀s,BM s->WX R e A4 114 [x,AB v] (CI (AR A4) ex v f (KF (·==(v:Int)) c t 0) B) B s)
  {s0:AL} (hs0:BM s0) (he:e<s0.bs.length) {d0:AV} {o:Fv} (oz:o.2.length<=M) {rr:Bool} {Post:AV->AL->Prop}
  (hP:∀w d' ts',Res w o.1->Dr 0 ts' 25 d' (AZ o.2)->CY d0 d' s0.ts ts'->Post w ⟨s0.bs.set e [d',AB A4],ts'⟩) :
  ∀(j p:Nat) (out Bc:List Ty) (bs:List (List AV)) (tk:List (Nat×Nat)) (d acc:AV),p+j=cs.length->Ca (AR A4) (λc B=>CI (AR A4) ex v f (KF (·==(v:Int)) c t 0) B) (cs.drop p) out Bc=o->B0<+:Bc->out.length<=A4 ->
   BM ⟨bs,tk⟩->bs.take s0.bs.length=s0.bs.set e [d,AB A4]->bs[s0.bs.length]?=some xc->bs[s0.bs.length+1]?=some [AB v] ->
   Dr 0 tk 25 d (AZ Bc)->Dr 0 tk 25 acc (AZ (Bz out))->CY d0 d s0.ts tk->DR acc s0.ts->RS d acc ->
   Yl R 0 0 0 (.ptr e 0) (.ptr s0.bs.length 0) (.ptr (s0.bs.length+1) 0) acc a (AB cs.length) (AB p) ⟨bs,tk⟩ (QM rr s0.bs.length Post):=by
 obtain⟨hx4,hxo,hxi⟩:=hx.cells;intro j
 induction j with
 | zero=>
  intro p out Bc bs tk d acc hi EA hlo hout hs hT h0 h1 hd hacc hch hfr Jf;refine wE (Ai ?_);rw[Aw (by omega)];rw[Bt (by omega),Ca] at EA;subst EA;exact Aq (AKe (Ev hs0 hT (hd.A1.Ar _) (r:=some out) ⟨acc,rfl,hacc.A1⟩ λw hw=>hP w d tk hw hd hch))
 | succ j D7=>
  intro p out Bc bs tk d acc hi EA hlo hout hs hT h0 h1 hd hacc hch hfr Jf;refine wE (Ai ?_);rw[Ap (by omega)];obtain⟨c,hc⟩:∃c,cs[p]?=some c:=⟨_,Ak (by omega)⟩;have hrc:(Bz cs)[p]?=some (ren c):=by grind[Bk]
  have N8:=A5 hc;have hrl:((Ag (ren c)).map AV.pv).length=4:=by grind[Af]
  have hro:=DW (ren c)
  have Lp:Ah (bs.length+1) ((Ag (ren c)).map AV.pv)=true:=by
   obtain⟨k1,n1,i1,t1⟩:=ren c;rfl
  have ES:=A7.BZ (ren c);refine BH (AKf (BR ha (row:=Ag (ren c)) (by omega) (by grind[BG]) (Af _) (by omega) (Cd (Bq ?_))));have hdr:cs.drop p=c::cs.drop (p+1):=drop_cons hc;rw[hdr,Ca] at EA;generalize (Ag (ren c)).map AV.pv=row at hrl hro Lp ES;refine CG (Az bs Z4) hrl rfl (by decide) (AI _) hro (.inl (AI _)) ?_;have e1:(bs++[Z4]).set bs.length row=bs++[row]:=by simp
  rw[e1];have l1:=(BL.1 h1).1;have N7:s0.bs.length<=bs.length:=by omega
  refine Bq ?_;have ebl:(bs++[row]).length=bs.length+1:=by simp
  have gC:(bs++[row]++[[AB 0]])[bs.length+1]?=some [AB 0]:=by simp
  simp only[ebl];refine DG gC (by decide) rfl (AI _) rfl (.inl (AI _)) ?_;have e2:(bs++[row]++[[AB 0]]).set (bs.length+1) ([AB 0].set 0 (AB 0))=bs++[row]++[[AB 0]]:=by simp
  show FC _ ⟨(bs++[row]++[[AB 0]]).set (bs.length+1) ([AB 0].set 0 (AB 0)),tk⟩ _ _ _
  rw[e2];have hs1:BM ⟨bs++[row],tk⟩:=BM.app (s:=⟨bs,tk⟩) hs Lp;have hs2:BM ⟨bs++[row]++[[AB 0]],tk⟩:=BM.app (s:=⟨bs++[row],tk⟩) hs1 rfl;have g0:=Av (Av h0 row) [AB 0];have g1:=Av (Av h1 row) [AB 0];have gr:=Av (Az bs row) [AB 0];have Ia:=(D1 (n:=s0.bs.length) (by omega) [AB 0]).trans ((D1 N7 row).trans hT);generalize hB2:bs++[row]++[[AB 0]]=b2 at gC hs2 g0 g1 gr Ia;have lb2:b2.length=bs.length+2:=by grind
  refine Ae g0 hx4 (Ae gr hrl ?_);obtain⟨w1,s1',⟨NG,ds,rfl,r1,r2,rfl⟩,r3⟩:=lB hn (N:=2 ^ 40) (Ac _) (C:=bs.length+1) (V:=s0.bs.length+1) (v:=v) (by omega) (b:=c) ES t (by omega) (by grind[Mr,GI]) (.agg xc) hx 0 ⟨b2,tk⟩ hs2 (by omega) (by omega) (Dh (env R) 114 0 0 0) rfl rfl gC g1;have ez:gR (·==(v:Int)) c t 0=KF (·==(v:Int)) c t 0:=vv (·==(v:Int)) c t 0 TU;rw[ez] at r1;have hs3:BM ⟨b2.set (bs.length+1) [AB (0-BU (·==(v:Int)) t)],NG⟩:=BM.set (s:=⟨b2,tk⟩) hs2 rfl _;have T4:(b2.set (bs.length+1) [AB (0-BU (·==(v:Int)) t)]).take s0.bs.length=s0.bs.set e [d,AB A4]:=(C9 (by omega)).trans Ia;have k0:(b2.set (bs.length+1) [AB (0-BU (·==(v:Int)) t)])[s0.bs.length]?=some xc:=BS g0 (by omega);have k1:(b2.set (bs.length+1) [AB (0-BU (·==(v:Int)) t)])[s0.bs.length+1]?=some [AB v]:=BS g1 (by omega);have gE:(s0.bs.set e [d,AB A4])[e]?=some [d,AB A4]:=by rw[CU he]
  refine⟨_,_,r3,AU k1 rfl ?_⟩;have lb3:(b2.set (bs.length+1) [AB (0-BU (·==(v:Int)) t)]).length=bs.length+2:=by rw[Rp,lb2]
  generalize b2.set (bs.length+1) [AB (0-BU (·==(v:Int)) t)]=b3 at hs3 T4 k0 k1 lb3;have hdk:=r2.keep hd (λ_ h=>by cases h);have AFI:=r2.keep hacc (λ_ h=>by cases h);have o5:=hch.side r2 (DR.AA _ _);have gU:=ih c N8 Bc hlo;have hlen:=Ho (BD:=AR A4) gT v f (KF (·==(v:Int)) c t 0) Bc;have hrb:=QV (A4:=A4) (ex:=ex) (v:=v) f (KF (·==(v:Int)) c t 0) Bc;have hfp:∀(l:List Ty) out B,B<+:(Ca (AR A4) (λc B=>CI (AR A4) ex v f (KF (·==(v:Int)) c t 0) B) l out B).2:=λl out B=>JT (λc B=>Ho gT v f _ B) l out B
  rcases hg:CI (AR A4) ex v f (KF (·==(v:Int)) c t 0) Bc with ⟨r,B1⟩
  rw[hg] at gU hlen hrb EA;simp only at gU hlen hrb EA
  have VN:B1.length<=M:=by
   cases r with
   | none=>grind
   | some r=>
    simp only at EA;cases hb:AR A4 (out++r).length with
    | true=>grind
    | false=>
     grind
  obtain⟨w2,s2',⟨d2,J1,q1,q2,q3,rfl⟩,q4⟩:=gU VN (.agg ds) r1 ⟨b3,NG⟩ hs3 (Dh (env R) 114 0 0 0) d rfl rfl (B6 T4 gE) hdk;have hT4:(b3.set e [d2,AB A4]).take s0.bs.length=s0.bs.set e [d2,AB A4]:=by simp[*,EG]
  have kE:(b3.set e [d2,AB A4])[e]?=some [d2,AB A4]:=by rw[CU (by omega)]
  have Ks:RS d2 acc:=Jf.PC q3 AFI;have J2:=q3.keep AFI Jf;have Ln:=o5.trans q3;have heq:Tel.Bl (AB v) (AB v)=true:=by simp[Tel.Bl,NA,GF]
  cases r with
  | none=>
   cases q1;simp only at EA;subst EA;refine⟨_,_,q4,CB rfl (CB rfl ⟨AU g1 rfl heq,by decide,Ew (l:=[]) J2 rfl (by rw[Bk,CC]; grind) (.inl (.AA _)) λacc' Ms _ Uz=>?_⟩)⟩;exact nt (DJ (DJ (DJ (DJ (DJ (DJ (DJ (pk (BH (Ev hs0 hT4 (q2.A1.Ar _) (r:=none) rfl λw hw=>hP w d2 Ms hw (Uz.keep q2 Ks.symm) (Ln.side Uz hfr)))))))))))
  | some r=>
   obtain⟨a2,rfl,S9⟩:=q1;have AWY:=hrb r rfl;refine⟨_,_,q4,CB rfl (CB rfl ⟨AU g1 rfl heq,by decide,Ew J2 rfl (by rw[Bk,Bk,CC,CC]; omega) S9 λacc' Ms Lj Uz=>?_⟩)⟩;have er:Bz out++Bz r=Bz (out++r):=by simp[Bk]
   rw[er] at Lj;have hd3:=Uz.keep q2 Ks.symm;have Nu:=Ln.side Uz hfr;refine nt (Am (b:=false) (Am (b:=false) (Al (n:=(out++r).length) (by rw[Lj.A1.A9,AQ,Bk,CC]) (Am (b:=false) (Am (b:=false) (C1 (AP kE) (Am (b:=false) (AK (AP kE) (Am (b:=false) (AU (off:=1) kE rfl (Am (b:=false) (Gk (pk ?_)))))))))))))
   have eb:decide (((out++r).length:Int)>(A4:Nat))=AR A4 (out++r).length:=by
    simp only[AR];rw[OJ];simp only[Dc];omega
   rw[eb];simp only at EA;cases hb:AR A4 (out++r).length with
   | true=>
    rw[hb] at EA;simp only[AN] at EA;subst EA;exact BH (Ev hs0 hT4 (q2.A1.Ar _) (r:=none) rfl λw hw=>hP w d2 Ms hw hd3 Nu)
   | false=>
    rw[hb] at EA;simp only[AH] at EA;refine Aq (AKg (Ba (by omega) (by omega) ?_));have hs4:BM ⟨b3.set e [d2,AB A4],Ms⟩:=BM.set (s:=⟨b3,NG⟩) hs3 (by simp[Ah,Ar,q2.A1.Ar]) _;have fin:=D7 (p+1) (out++r) B1 (b3.set e [d2,AB A4]) Ms d2 acc' (by omega) EA (hlo.trans hlen) (by grind) hs4 hT4 (BS k0 (by omega)) (BS k1 (by omega)) hd3 Lj Nu (hfr.PC Uz (CN o5.1 q3.1)) (Ks.symm.PC Uz q2).symm
    grind
end
structure ExB (A4 v M W:Nat) (B0:List Ty) (q:Int->Bool) (ex:List Ty->Fv):Prop where
 pre:∀B,B<+:(ex B).2
 res:∀B r,B0<+:B->(ex B).1=some r->(ex B).2.length<=M->r.length<=A4/\∀c∈r,Eu q c=true/\(∀inv,DY v inv c=false)/\BU (·==(v:Int)) c=0/\size c<=W/\pat c=true
section
variable {R:RT}
def o6 (R:RT) (e A4 v M W S:Nat) (B0:List Ty) (q:Int->Bool) (ex:List Ty->Fv) (f:Nat):Prop:=∀(t:Ty),Eu q t=true->pat t=true->DY v true t=false->BU (·==(v:Int)) t<=f->size t+BU (·==(v:Int)) t*W<=S->∀(B:List Ty),B0<+:B->(CI (AR A4) ex v f t B).2.length<=M ->
 ∀x,BV (ren t) x->∀s,BM s->WX R e A4 114 [x,AB v] (CI (AR A4) ex v f t B) B s
theorem lF (hn:Tl R) {e A4 v M W S:Nat} {B0:List Ty} {q:Int->Bool} (hq:∀i,q i=true->0<=i/\i<2 ^ 40) (JW:A4<2 ^ 20) (hS:S<2 ^ 37) {ex:List Ty->Fv} {b:Ty} (hx:ExB A4 v M W B0 q ex) (hv:B0[v]?=some b)
  (hex:∀(B:List Ty) (s:AL),BM s->B0<+:B->(ex B).2.length<=M->WX R e A4 44 [.agg ((Ag b).map .pv)] (ex B) B s)
  {f:Nat} (hih:f=0\/∃f',f=f'+1/\o6 R e A4 v M W S B0 q ex f'):o6 R e A4 v M W S B0 q ex f:=by
 intro t ht hp hoc hf htS B hB hM x jh s hs L d hro Eb hE hd;obtain⟨xc,rfl⟩:=jh.agg;obtain⟨hx4,hxo,hxi⟩:=jh.cells;have le:=(BL.1 hE).1;have same:s.bs.set e [d,AB A4]=s.bs:=by grind[List.set_getElem_self]
 refine AWZ (by rfl) ?_;rw[hro,Eb];have g0:(s.bs++[xc,[AB v]])[s.bs.length]?=some xc:=EY (j:=0) rfl rfl;have g1:(s.bs++[xc,[AB v]])[s.bs.length+1]?=some [AB v]:=EY rfl rfl;have hT:(s.bs++[xc,[AB v]]).take s.bs.length=s.bs.set e [d,AB A4]:=by grind
 have hok:BM ⟨s.bs++[xc,[AB v]],s.ts⟩:=by
  intro c hc;simp only[B9,A6,FZ,Fa] at hc
  show Ah (s.bs++_).length c=true
  rcases hc with hc|rfl|rfl
  .exact Bn (by simp) c (hs c hc)
  .grind
  rfl
 refine AKh (Bu (cs:=xc) rfl hxo (Bu (cs:=[AB v]) rfl rfl ?_));simp only[FY,Dx,Ce,CD,CT,CJ,CP];generalize s.bs++[xc,[AB v]]=bs at g0 g1 hT hok;have Uu:Hp (2 ^ 40) t=true:=by grind[Mr,GI]
 have gE:bs[e]?=some [d,AB A4]:=B6 hT (by rw[CU le]);refine Ae g0 hx4 (AU g1 rfl (AD (PD hn (Ac _) v t false (by omega) Uu jh) ?_));rintro _ rfl;have APz:=YY t hp hoc;rw[APz]
 by_cases hc0:0<BU (·==(v:Int)) t
 .obtain⟨f,rfl,ihf⟩:∃f',f=f'+1/\o6 R e A4 v M W S B0 q ex f':=by grind
  rw[CI,APz,Ap hc0] at hM ⊢;simp only[AN] at hM ⊢;have hBv:B[v]?=some b:=Mn hB hv;refine nt (Aq (AKi (C1 (AP gE) (AK (AP gE) (AU (off:=0) gE rfl (AU g1 rfl (BR hd.A1 (row:=Ag b) (by omega) (by grind[BG]) (Af _) (by omega) (Cd ?_))))))));have AKj:=hex B ⟨bs,s.ts⟩ hok hB;have hxB:=hx.res B;have hpre:=hx.pre B;have hfp:∀(l:List Ty) B,B<+:(Ca (AR A4) (λc B=>CI (AR A4) ex v f (KF (·==(v:Int)) c t 0) B) l [] B).2:=λl B=>JT (λc B=>Ho hx.pre v f _ B) l [] B
  rcases he:ex B with ⟨r,B1⟩
  rw[he] at hM AKj hxB hpre;simp only at hM AKj hxB hpre;have hB1:B1.length<=M:=by grind
  obtain⟨w,s',⟨d1,NG,q1,q2,q3,rfl⟩,q4⟩:=AKj hB1 (Dh (env R) 114 0 0 0) d rfl rfl gE hd;have SD:(bs.set e [d1,AB A4]).take s.bs.length=s.bs.set e [d1,AB A4]:=by grind[EG]
  cases r with
  | none=>
   cases q1;exact⟨_,_,q4,CB rfl (CB rfl (nt (BH (Ev hs SD (q2.A1.Ar _) (r:=none) rfl λw hw=>⟨d1,NG,hw,q2,q3,rfl⟩))))⟩
  | some cs=>
   obtain⟨a,rfl,ha⟩:=q1;obtain⟨Bi,hcs⟩:=hxB cs hB rfl hB1;refine⟨_,_,q4,CB rfl (CB rfl (nt (Aq (AKk (Al (n:=cs.length) (by rw[ha.A9,AQ,Bk,CC]) ?_)))))⟩;simp only at hM ⊢
   refine ADE hn (M:=M) (S:=S) (f:=f) (B0:=B0) hq JW hS hx.pre ht hc0 (by omega) jh Bi ha ?_ hs le hM (λw d' ts' h1 h2 h3=>⟨d',ts',h1,h2,h3,rfl⟩) cs.length 0 [] B1 _ NG d1 (.AA []) (by omega) rfl (hB.trans hpre) (AI _)
    (BM.set (s:=⟨bs,s.ts⟩) hok (by simp[Ah,Ar,q2.A1.Ar]) _) SD (BS g0 (by omega)) (BS g1 (by omega)) q2 (.inl rfl) q3 (DR.AA _ _) (RS.AA _ _)
   intro c hc B' hB' gH x' hx' s' hs';obtain⟨c1,c2,c3,c4,c5⟩:=hcs c hc;obtain⟨r1,r2⟩:=R7 (b:=c) t 0 hc0;have:BU (·==(v:Int)) t*W=BU (·==(v:Int)) (KF (·==(v:Int)) c t 0)*W+W:=by grind
   exact ihf _ (Ta c1 t 0 ht) (R9 c5 t 0 hp) (YZ (c2 true) t 0 hoc) (by omega) (by omega) B' hB' gH x' hx' s' hs'
 .have ef:CI (AR A4) ex v f t B=(some [t],B):=by grind[CI]
  rw[ef,Aw hc0];refine nt (BH (Ae g0 hx4 (FR jh ?_)));exact Ev hs hT (hd.A1.Ar _) (r:=some [t]) ⟨.AA [Ag (ren t)],rfl,.inl (by grind[Bz,AZ,Ao.AA])⟩ λw hw=>⟨d,s.ts,hw,hd,CY.refl _ _,rfl⟩
theorem lG (hn:Tl R) {e A4 v M W S:Nat} {B0:List Ty} {q:Int->Bool} (hq:∀i,q i=true->0<=i/\i<2 ^ 40) (JW:A4<2 ^ 20) (hS:S<2 ^ 37) {ex:List Ty->Fv} {b:Ty} (hx:ExB A4 v M W B0 q ex) (hv:B0[v]?=some b)
  (hex:∀(B:List Ty) (s:AL),BM s->B0<+:B->(ex B).2.length<=M->WX R e A4 44 [.agg ((Ag b).map .pv)] (ex B) B s):∀f,o6 R e A4 v M W S B0 q ex f
 | 0=>lF hn hq JW hS hx hv hex (.inl rfl)
 | f+1=>lF hn hq JW hS hx hv hex (.inr ⟨f,rfl,lG hn hq JW hS hx hv hex f⟩)
end
section
variable {R:RT}
theorem ADG (hn:Tl R) {e A4 v M W S:Nat} {B0:List Ty} {q:Int->Bool} (hq:∀i,q i=true->0<=i/\i<2 ^ 40) (JW:A4<2 ^ 20) (hS:S<2 ^ 37) {ex:List Ty->Fv} (gT:∀B,B<+:(ex B).2) {cs:List Ty} (Bi:cs.length<=A4) {a:AV} (ha:BJ a (AZ (Bz cs)))
  (hcs:∀t∈cs,Eu q t=true/\pat t=true/\size t+BU (·==(v:Int)) t*W<=S) (ih:∀f,o6 R e A4 v M W S B0 q ex f)
  {s0:AL} (hs0:BM s0) (he:e<s0.bs.length) {d0:AV} {o:Fv} (oz:o.2.length<=M) {rr:Bool} {Post:AV->AL->Prop}
  (hP:∀w d' ts',Res w o.1->Dr 0 ts' 25 d' (AZ o.2)->CY d0 d' s0.ts ts'->Post w ⟨s0.bs.set e [d',AB A4],ts'⟩) :
  ∀(j p:Nat) (out Bc:List Ty) (bs:List (List AV)) (tk:List (Nat×Nat)) (d acc:AV),p+j=cs.length->Ca (AR A4) (B5 (AR A4) ex v) (cs.drop p) out Bc=o->B0<+:Bc->out.length<=A4 ->
   BM ⟨bs,tk⟩->bs.take s0.bs.length=s0.bs.set e [d,AB A4]->s0.bs.length<=bs.length ->
   Dr 0 tk 25 d (AZ Bc)->Dr 0 tk 25 acc (AZ (Bz out))->CY d0 d s0.ts tk->DR acc s0.ts->RS d acc ->
   lH R 0 0 0 (.ptr e 0) (AB v) acc a (AB cs.length) (AB p) ⟨bs,tk⟩ (QM rr s0.bs.length Post):=by
 intro j
 induction j with
 | zero=>
  intro p out Bc bs tk d acc hi EA hlo hout hs hT N7 hd hacc hch hfr Jf;refine AFJ (Ai ?_);rw[Aw (by omega)];rw[Bt (by omega),Ca] at EA;subst EA;exact Aq (AP1 (Ev hs0 hT (hd.A1.Ar _) (r:=some out) ⟨acc,rfl,hacc.A1⟩ λw hw=>hP w d tk hw hd hch))
 | succ j D7=>
  intro p out Bc bs tk d acc hi EA hlo hout hs hT N7 hd hacc hch hfr Jf;refine AFJ (Ai ?_);rw[Ap (by omega)];obtain⟨c,hc⟩:∃c,cs[p]?=some c:=⟨_,Ak (by omega)⟩;have hrc:(Bz cs)[p]?=some (ren c):=by grind[Bk]
  obtain⟨c1,c2,c3⟩:=hcs c (A5 hc);have hrl:((Ag (ren c)).map AV.pv).length=4:=by grind[Af]
  have hro:=DW (ren c)
  have Lp:Ah (bs.length+1) ((Ag (ren c)).map AV.pv)=true:=by
   obtain⟨k1,n1,i1,t1⟩:=ren c;rfl
  have ES:=(A7.BZ (ren c)).G6;refine BH (AP2 (BR ha (row:=Ag (ren c)) (by omega) (by grind[BG]) (Af _) (by omega) (Cd (Bq ?_))));have hdr:cs.drop p=c::cs.drop (p+1):=drop_cons hc;rw[hdr,Ca] at EA;have Uu:Hp (2 ^ 40) c=true:=by grind[Mr,GI]
  generalize (Ag (ren c)).map AV.pv=row at hrl hro Lp ES;refine CG (Az bs Z4) hrl rfl (by decide) (AI _) hro (.inl (AI _)) ?_;have e1:(bs++[Z4]).set bs.length row=bs++[row]:=by simp
  rw[e1];have hs1:BM ⟨bs++[row],tk⟩:=BM.app (s:=⟨bs,tk⟩) hs Lp;have gr:=Az bs row;have SD:=(D1 N7 row).trans hT;have lb:(bs++[row]).length=bs.length+1:=by simp
  generalize bs++[row]=b1 at hs1 gr SD lb;have gE:(s0.bs.set e [d,AB A4])[e]?=some [d,AB A4]:=by rw[CU he]
  have hfp:∀(l:List Ty) out B,B<+:(Ca (AR A4) (B5 (AR A4) ex v) l out B).2:=λl out B=>JT (λc B=>Mp gT v c B) l out B
  have fin:∀(r:Option (List Ty)) (B1:List Ty) (b2:List (List AV)) (J1:List (Nat×Nat)) (d2 a1 a2:AV),(match r with
     | none=>((none,B1):Fv)
     | some r=>bif AR A4 (out++r).length then(none,B1) else Ca (AR A4) (B5 (AR A4) ex v) (cs.drop (p+1)) (out++r) B1)=o->B0<+:B1->(∀l,r=some l->l.length<=A4+1)->Res (.tuple [a1,a2]) r ->
    BM ⟨b2,J1⟩->b2.take s0.bs.length=s0.bs.set e [d2,AB A4]->s0.bs.length<=b2.length->Dr 0 J1 25 d2 (AZ B1)->Dr 0 J1 25 acc (AZ (Bz out))->CY d0 d2 s0.ts J1->RS d2 acc ->
    lI R 0 0 0 (.ptr e 0) (AB v) acc a1 a2 a (AB cs.length) (AB p) ⟨b2,J1⟩ (QM rr s0.bs.length Post):=by
   intro r B1 b2 J1 d2 a1 a2 EA hB1 hrb hres hs2 Ia hn2 Sm J2 Ln Ks;have kE:b2[e]?=some [d2,AB A4]:=B6 Ia (by rw[CU he]);cases r with
   | none=>
    cases hres;simp only at EA;subst EA;refine AFK ⟨by decide,Ew (l:=[]) J2 rfl (by grind[Bk]) (.inl (.AA _)) λacc' Ms _ Uz=>?_⟩;exact nt (DJ (DJ (DJ (DJ (DJ (DJ (DJ (pk (BH (Ev hs0 Ia (Sm.A1.Ar _) (r:=none) rfl λw hw=>hP w d2 Ms hw (Uz.keep Sm Ks.symm) (Ln.side Uz hfr)))))))))))
   | some r=>
    obtain⟨a3,hae,ha3⟩:=hres;cases hae;have AWY:=hrb r rfl;refine AFK ⟨by decide,Ew J2 rfl (by grind[Bk]) ha3 λacc' Ms Lj Uz=>?_⟩;have er:Bz out++Bz r=Bz (out++r):=by simp[Bk]
    rw[er] at Lj;have hd3:=Uz.keep Sm Ks.symm;have Nu:=Ln.side Uz hfr;refine nt (Am (b:=false) (Am (b:=false) (Al (n:=(out++r).length) (by rw[Lj.A1.A9,AQ,Bk,CC]) (Am (b:=false) (Am (b:=false) (C1 (AP kE) (Am (b:=false) (AK (AP kE) (Am (b:=false) (AU (off:=1) kE rfl (Am (b:=false) (Gk (pk ?_)))))))))))));have eb:decide (((out++r).length:Int)>(A4:Nat))=AR A4 (out++r).length:=by grind
    rw[eb];simp only at EA;cases hb:AR A4 (out++r).length with
    | true=>
     rw[hb] at EA;simp only[AN] at EA;subst EA;exact BH (Ev hs0 Ia (Sm.A1.Ar _) (r:=none) rfl λw hw=>hP w d2 Ms hw hd3 Nu)
    | false=>
     rw[hb] at EA;simp only[AH] at EA;refine Aq (AP3 (Ba (by omega) (by omega) ?_));have fin:=D7 (p+1) (out++r) B1 b2 Ms d2 acc' (by omega) EA hB1 (by grind) hs2 Ia hn2 hd3 Lj Nu (hfr.PC Uz Ln.1) (Ks.symm.PC Uz Sm).symm
     grind
  have vF:=PD (R:=R) hn (Ac _) v c true (by omega) Uu ES;refine Ae gr hrl (FR ES (Ae gr hrl (AD vF ?_)));rintro _ rfl;refine nt ?_;cases ho:DY v true c with
  | true=>
   have eg:B5 (AR A4) ex v c Bc=(some [c],Bc):=by grind[B5]
   rw[eg] at EA;refine Aq (fin (some [c]) Bc b1 tk d (.AA [Ag (ren c)]) (BB true) EA hlo (λl hl=>by grind) ⟨_,rfl,.inl (by grind[Bz,AZ,Ao.AA])⟩ hs1 SD (by omega) hd hacc hch Jf)
  | false=>
   have eg:B5 (AR A4) ex v c Bc=CI (AR A4) ex v (BU (·==(v:Int)) c) c Bc:=by grind[B5]
   rw[eg] at EA;have hrb:=QV (A4:=A4) (ex:=ex) (v:=v) (BU (·==(v:Int)) c) c Bc;have hlen:=Ho (BD:=AR A4) gT v (BU (·==(v:Int)) c) c Bc;have gU:=ih (BU (·==(v:Int)) c) c c1 c2 ho (Ac _) c3 Bc hlo;rcases hg:CI (AR A4) ex v (BU (·==(v:Int)) c) c Bc with ⟨r,B1⟩
   rw[hg] at gU hlen hrb EA;simp only at gU hlen hrb;have VN:B1.length<=M:=by grind
   obtain⟨w2,s2',⟨d2,J1,q1,q2,q3,rfl⟩,q4⟩:=gU VN (.agg row) ES ⟨b1,tk⟩ hs1 (Dh (env R) 81 0 0 0) d rfl rfl (B6 SD gE) hd
   obtain⟨x1,x2,rfl⟩:∃x1 x2,w2=.tuple [x1,x2]:=by
    cases r with
    | none=>exact⟨_,_,q1⟩
    | some r=>exact⟨_,_,q1.choose_spec.1⟩
   refine BH (Ae gr hrl ⟨_,_,q4,CB rfl (CB rfl ?_)⟩);exact fin r B1 (b1.set e [d2,AB A4]) J1 d2 x1 x2 (by cases r <;> omega) (hlo.trans hlen) (λl hl=>hrb l hl) q1 (BM.set (s:=⟨b1,tk⟩) hs1 (by simp[Ah,Ar,q2.A1.Ar]) _) (by simp[*,EG]) (by grind) q2 (q3.keep hacc Jf) (hch.trans q3) (Jf.PC q3 hacc)
theorem ADH (hn:Tl R) {e A4 v M W S:Nat} {B0:List Ty} {q:Int->Bool} (hq:∀i,q i=true->0<=i/\i<2 ^ 40) (JW:A4<2 ^ 20) (hS:S<2 ^ 37) {ex:List Ty->Fv} (gT:∀B,B<+:(ex B).2) {cs:List Ty} (Bi:cs.length<=A4) {a:AV} (ha:BJ a (AZ (Bz cs)))
  (hcs:∀t∈cs,Eu q t=true/\pat t=true/\size t+BU (·==(v:Int)) t*W<=S) (ih:∀f,o6 R e A4 v M W S B0 q ex f)
  {B:List Ty} (hB:B0<+:B) (hM:(Ca (AR A4) (B5 (AR A4) ex v) cs [] B).2.length<=M) {s:AL} (hs:BM s):WX R e A4 81 [a,AB v] (Ca (AR A4) (B5 (AR A4) ex v) cs [] B) B s:=by
 intro L d hro Eb hE hd;have le:=(BL.1 hE).1;have same:s.bs.set e [d,AB A4]=s.bs:=by grind[List.set_getElem_self]
 refine m81 (by rfl) ?_;rw[hro,Eb];refine AP4 (Al (n:=cs.length) (by rw[ha.A9,AQ,Bk,CC]) ?_);exact ADG hn hq JW hS gT Bi ha hcs ih hs le hM (λw d' ts' h1 h2 h3=>⟨d',ts',h1,h2,h3,rfl⟩) cs.length 0 [] B s.bs s.ts d (.AA []) (by omega) rfl hB (AI _) hs (by grind) (Ac _) hd (.inl rfl) (CY.refl _ _) (DR.AA _ _) (RS.AA _ _)
end
def Dg (ls:List (List Ty)):List (List PV):=ls.map λl=>[.list (AZ (Bz l))]
theorem Hq (ls:List (List Ty)):(Dg ls).length=ls.length:=by simp[Dg]
theorem gW {ls:List (List Ty)}:∀r∈Dg ls,r.length=1:=by grind[Dg]
section
variable {R:RT}
theorem gY (rows:List (List PV)):AM (env R) 145 [.pv (.list rows)] λr=>r=BB (rows.length==0):=by
 refine AWb (by rfl) (AKl (Al (n:=rows.length) rfl (Ay ⟨_,rfl,?_⟩)));have e:(((rows.length:Nat):Int)==0)=(rows.length==0):=by grind
 rw[e]
theorem cJ {ls:List (List Ty)} {y:AV} (hy:BJ y (Dg ls)) (hl:ls.length<2 ^ 60) {n0 ro rt:Nat} {s:AL} {QR:QT} :
  ∀(j p:Nat),p+j=ls.length->(∀i:Int,decide (0<=i)=(ls.drop p).any List.isEmpty->QR (AB i) s)->Ym R n0 ro rt y (.func (.func 145) [] []) (AB ls.length) (AB p) s QR:=by
 intro j
 induction j with
 | zero=>
  intro p hi hP;refine wG (Ai ?_);rw[Aw (by omega)];rw[Bt (by omega)] at hP;exact Aq (AKm (hP (-1) (by simp)))
 | succ j D7=>
  intro p hi hP;refine wG (Ai ?_);rw[Ap (by omega)];obtain⟨l,ht⟩:∃l,ls[p]?=some l:=⟨_,Ak (by omega)⟩;rw[drop_cons ht] at hP;refine BH (AKn (BR hy (row:=[.list (AZ (Bz l))]) (by omega) (by simp[*,Dg]) rfl (by omega) (El (AD (gY _) ?_))));rintro _ rfl;have el:((AZ (Bz l)).length==0)=l.isEmpty:=by grind[AQ,Bk]
  rw[el];cases hg:l.isEmpty with
  | true=>exact BH (hP p (by simp[hg]))
  | false=>
   refine Aq (AKo (Ba (by omega) (by omega) ?_));simp only[OK,hg,Ge] at hP;have:=D7 (p+1) (by omega) hP;simpa using this
theorem We {ls:List (List Ty)} {y:AV} (hy:BJ y (Dg ls)) (hl:ls.length<2 ^ 60) {s:AL} (hs:BM s) (L:A3):∃i:Int,decide (0<=i)=ls.any List.isEmpty/\BA (env R) L 166 [y,.func (.func 145) [] []] s (AB i) s:=by
 have hlen:∀s,A9 s y=some ls.length:=λs=>by rw[hy.A9,Hq]
 cases hn:GO y with
 | true=>
  obtain⟨v,⟨i,rfl,h⟩,hc⟩:=AWc (R:=R) (t0:=y) (t1:=.func (.func 145) [] []) (Post:=λv=>∃i:Int,v=AB i/\decide (0<=i)=ls.any List.isEmpty) (by grind[Bo,GO]) (wJ (Al (hlen _) (cJ hy hl ls.length 0 (by omega) λi h=>⟨AB i,rfl,i,rfl,by grind⟩)))
  grind
 | false=>
  obtain⟨v,s',⟨i,rfl,rfl,h⟩,hc⟩:=AWd (R:=R) (L:=L) (s:=s) (t0:=y) (t1:=.func (.func 145) [] []) (Post:=λv s'=>∃i:Int,v=AB i/\s'=s/\decide (0<=i)=ls.any List.isEmpty) (by grind[Bo]) (wJ (Al (hlen _) (cJ hy hl ls.length 0 (by omega) λi h=>by
   have:=Iw (rr:=L.rr 166) hs (m:=[]) (p:=.sc (.int .i64 i)) (Post:=λv s'=>∃i:Int,v=AB i/\s'=s/\decide (0<=i)=ls.any List.isEmpty) ⟨i,rfl,rfl,by grind⟩
   simp_all)))
  grind
theorem o7 {ls:List (List Ty)} {y:AV} (hy:BJ y (Dg ls)) (hl:ls.length<2 ^ 60) {s:AL} (hs:BM s) (L:A3):BA (env R) L 144 [y,.func (.func 145) [] []] s (BB (ls.any List.isEmpty)) s:=by
 have h0:BM ⟨[],[]⟩:=λb hb=>by grind
 cases hn:GO y with
 | true=>
  obtain⟨i,h,hc⟩:=We (R:=R) hy hl h0 (Dh (env R) 144 0 0 0);obtain⟨v,rfl,hc⟩:=AWe (R:=R) (t0:=y) (t1:=.func (.func 145) [] []) (Post:=λv=>v=BB (ls.any List.isEmpty)) (by grind[Bo,GO]) (wK ⟨_,_,hc,Nq ⟨_,rfl,by rw[<-h]⟩⟩)
  grind
 | false=>
  obtain⟨i,h,hc⟩:=We (R:=R) hy hl hs (Dh (env R) 144 0 L.ro L.rt)
  obtain⟨v,s',⟨rfl,rfl⟩,hc⟩:=AWf (R:=R) (L:=L) (s:=s) (t0:=y) (t1:=.func (.func 145) [] []) (Post:=λv s'=>v=BB (ls.any List.isEmpty)/\s'=s) (by grind[Bo]) (wK ⟨_,_,hc,Nq (by
   have:=Iw (rr:=L.rr 144) hs (m:=[]) (p:=.sc (.bool (decide (i>=0)))) (Post:=λv s'=>v=BB (ls.any List.isEmpty)/\s'=s) ⟨by rw[<-h],rfl⟩
   simp_all)⟩)
  omega
end
theorem cK {E:Env} {f:FuncId} {fn:Func} {body:Code} {args:List AV} {L:A3} {s:AL} {Post:AV->AL->Prop} (hfn:E.P.funcs[f]?=some fn) (hb:fn.body=some body) (hk:E.kind f=.esc) (hc:E.clone f=true) (ht:E.told f=none) (hne:JD args=false) (hl:args.length<=fn.ntmps)
  (h:Wp E (Dh E f L.n0 L.ro L.rt) fn.ntmps fn.results.toList body [] (FT 0 args) s Post):∃v s',Post v s'/\BA E L f args s v s':=by
 obtain⟨r,s',n,h1,h2⟩:=Mt hb h;refine⟨r,s',h2,⟨n+1,λm hm=>?_⟩⟩;obtain⟨m,rfl⟩:∃m',m=m'+1:=⟨m-1,by omega⟩;simp only[Dl,hfn,hc,AN,OU,ht,hne,AH];unfold D5;have:=h1 m (by omega);unfold Dh at this;simp only[if_pos hl,hk];exact this
theorem wL {E:Env} {f:FuncId} {fn:Func} {args:List AV} (hfn:E.P.funcs[f]?=some fn) (hc:E.clone f=true) (ht:E.told f=none) (hne:JD args=true):AM E f args λv=>v=.AA []:=by
 refine⟨_,rfl,λL s=>⟨1,λm hm=>?_⟩⟩;obtain⟨m,rfl⟩:∃m',m=m'+1:=⟨m-1,by omega⟩
 grind[Dl,OU]
section
variable {R:RT}
theorem Yn {l:List Ty} (hl:l.length<2 ^ 38) {a:AV} (ha:BJ a (AZ l)) {L:A3} (Eb:L.rt=0) (s:AL):∃v s',(∃ts',s'=⟨s.bs,ts'⟩/\Dr 0 ts' 25 v (AZ l)/\CY (.AA []) v s.ts ts')/\BA (env R) L 57 [a] s v s':=by
 cases l with
 | nil=>
  have he:JD [a]=true:=by
   rcases ha with (rfl|rfl)|⟨t,rfl⟩ <;> rfl
  obtain⟨v,rfl,hc⟩:=wL (E:=env R) (f:=57) (args:=[a]) Tryz.func57 (by rfl) (by rfl) he;exact⟨_,s,⟨s.ts,rfl,.inl rfl,CY.refl _ _⟩,hc L s⟩
 | cons x l=>
  have he:JD [a]=false:=by
   rcases ha with (rfl|rfl)|⟨t,rfl⟩ <;> rfl
  have qy:∀K:AV->Prop,K (BB false)->wM s (some 1) (RQ a) (some 1) .eql a (.AA []) K:=by
   intro K hK;obtain⟨k1,n1,i1,t1⟩:=x;rcases ha with (rfl|rfl)|⟨t,rfl⟩ <;> exact⟨by rfl,hK⟩
  refine cK (fn:=Tryz.f57) (body:=b57) Tryz.func57 (by rfl) (by rfl) (by rfl) (by rfl) he (Cm (by rfl)) ?_
  show AFL R L.n0 L.ro L.rt a s _
  refine AP5 (qy _ (Aq (AP6 ?_)))
  have hb:∀K:AV->AL->Prop,K (.AA []) s->Ct false s 4 [(AB 0),(SS []),(AB 0),(.AA [])] 0 [] K:=by
   intro K hK;simpa[Ct,Fg,CR] using hK
  exact hb _ ⟨by decide,Ew (es:=[]) (.inl rfl) Eb (by grind) ha λa' ts' h1 h2=>⟨ts',rfl,by grind,h2⟩⟩
end
theorem AFM {a:AV} {rows:List (List PV)} (h:BJ a rows):Ls a=some (.list rows):=by
 rcases h with (rfl|rfl)|⟨t,rfl⟩ <;> rfl
theorem gZ {l:List Ty} {a:AV} (ha:BJ a (AZ l)) {s:AL} {K:AV->AL->Prop} (hK:K (.AA [[.list (AZ l)]]) s):Ct false s 1 [(.AA [])] 1 [(0,1,a)] K:=by
 simp[Ct,Fg,CR,ha.ok,AFM ha,ha.cells];omega
theorem lJ {L:A3} {s:AL} {a:AV} {os:List (List Ty)} {p:List Ty} {K:AV->AL->Prop} (ha:Dr 0 s.ts 23 a (Dg os)) (Eb:L.rt=0) (hl:os.length<2 ^ 38) (h:∀a' ts',Dr 0 ts' 23 a' (Dg (os++[p]))->CY a a' s.ts ts'->K a' ⟨s.bs,ts'⟩) :
  Cx false L s 23 1 24 a (.AA [[.list (AZ (Bz p))]]) K:=by
 have h1:=Hq os;have hm:∀r∈[[PV.list (AZ (Bz p))]],r.length=1:=by simp
 refine QS (m:=[[.list (AZ (Bz p))]]) ha Eb gW hm (by omega) (De (.inl (.AA _)) hm) (by simp) (by grind) (by grind) λa' ts' h3 h4=>h a' ts' ?_ h4
 grind[Dg]
theorem CY.T5 {r:List (List PV)} {v:AV} {ts ts':List (Nat×Nat)} (h:CY (.AA r) v ts ts'):DR v ts:=by
 intro t ht;rcases h.2.2 with h1|⟨u,h1,h2⟩
 .rw[h1] at ht
  cases ht
 grind
theorem DR.dis {v b:AV} {ts:List (Nat×Nat)} {lo k:Nat} {rows:List (List PV)} (h:DR v ts) (hb:Dr lo ts k b rows):RS v b:=by
 intro t ht hbt;have h1:=h t ht;have h2:=Dr.vp hb hbt;omega
section
variable {R:RT}
theorem wN {l pre:List Ty} {xa:AV} (T6:BJ xa (AZ (Bz l))) (hl:l.length<2 ^ 37) (hpre:pre.length<2 ^ 37) {n:Nat} {X:List (List AV)} {t0 t8 t17 t18 t19 t33 t34 t35:AV} {QR:QT} :
  ∀(j p:Nat) (out:List (List Ty)) (bs:List (List AV)) (tk:List (Nat×Nat)) (acc:AV),p+j=l.length->out.length+j<2 ^ 38->BM ⟨bs,tk⟩->bs.take n=X->n<=bs.length->Dr 0 tk 23 acc (Dg out) ->
   (∀bs' HP acc',BM ⟨bs',HP⟩->bs'.take n=X->n<=bs'.length->Dr 0 HP 23 acc' (Dg (out++(l.drop p).map λx=>pre++[x]))->CY acc acc' tk HP->Yo R 0 0 0 t0 t8 acc' t17 t18 t19 t33 t34 t35 ⟨bs',HP⟩ QR) ->
   Yp R 0 0 0 t0 t8 acc (.pv (.list (AZ (Bz pre)))) t17 t18 t19 t33 t34 t35 xa (AB l.length) (AB p) ⟨bs,tk⟩ QR:=by
 intro j
 induction j with
 | zero=>
  intro p out bs tk acc hi ho hs hT hn hacc hK;refine wP (Ai ?_);rw[Aw (by omega)];rw[Bt (by omega)] at hK;exact Aq (hK bs tk acc hs hT hn (by simpa using hacc) (CY.refl _ _))
 | succ j D7=>
  intro p out bs tk acc hi ho hs hT hn hacc hK;refine wP (Ai ?_);rw[Ap (by omega)];obtain⟨c,hc⟩:∃c,l[p]?=some c:=⟨_,Ak (by omega)⟩;have hrc:(Bz l)[p]?=some (ren c):=by grind[Bk]
  have hrl:((Ag (ren c)).map AV.pv).length=4:=by grind[Af]
  have hro:=DW (ren c)
  have Lp:Ah (bs.length+1) ((Ag (ren c)).map AV.pv)=true:=by
   obtain⟨k1,n1,i1,t1⟩:=ren c;rfl
  have ES:=(A7.BZ (ren c)).G6;have Le:=MK (ren c);refine BH (ADI (BR T6 (row:=Ag (ren c)) (by omega) (by grind[BG]) (Af _) (by omega) (Cd (Bq ?_))));rw[drop_cons hc] at hK;generalize (Ag (ren c)).map AV.pv=row at hrl hro Lp ES Le;refine CG (Az bs Z4) hrl rfl (by decide) (AI _) hro (.inl (AI _)) ?_;have e1:(bs++[Z4]).set bs.length row=bs++[row]:=by simp
  rw[e1];have hs1:BM ⟨bs++[row],tk⟩:=BM.app (s:=⟨bs,tk⟩) hs Lp;have gr:=Az bs row;have lp:(Bz pre).length=pre.length:=by grind[Bk]
  obtain⟨v,s',⟨NG,rfl,v1,v2⟩,v3⟩:=Yn (R:=R) (l:=Bz pre) (by omega) (a:=.pv (.list (AZ (Bz pre)))) (.inl (.list _)) (L:=Dh (env R) 120 0 0 0) rfl ⟨bs++[row],tk⟩;have hfv:=v2.T5;have AP7:=v2.keep hacc (λ_ h=>by cases h);refine⟨_,_,v3,Ae gr hrl (FR ES ⟨by decide,Iy v1 rfl (by omega) λv' J1 w1 w2=>?_⟩)⟩;have ep:Bz pre++[ren c]=Bz (pre++[c]):=by simp[Bk]
  rw[ep] at w1;have J2:=w2.keep AP7 (hfv.dis hacc);refine gZ w1.A1 ⟨by decide,lJ J2 rfl (by omega) λacc' Ms x1 x2=>?_⟩;refine⟨Ae gr hrl Le,ADJ (Ba (by omega) (by omega) ?_)⟩;have hch:CY acc acc' tk Ms:=(((CY.refl acc tk).side v2 (DR.AA _ _)).side w2 hfv).trans x2;have:=D7 (p+1) (out++[pre++[c]]) (bs++[row]) Ms acc' (by omega) (by grind) hs1 ((D1 hn row).trans hT) (by grind) x1 (λbs' HP Nv k1 k2 k3 k4 k5=>hK bs' HP Nv k1 k2 k3 (by grind) (hch.trans k5))
  grind
end
section
variable {R:RT}
theorem AKp {l:List Ty} {xa ya:AV} {outs:List (List Ty)} (T6:BJ xa (AZ (Bz l))) (Uw:BJ ya (Dg outs)) (hl:l.length<2 ^ 37) (hpre:∀pre∈outs,pre.length<2 ^ 37) (ZS:outs.length<2 ^ 37) {n:Nat} {X:List (List AV)} {t0 t17 t18 t19:AV} {QR:QT} :
  ∀(j p:Nat) (next:List (List Ty)) (bs:List (List AV)) (tk:List (Nat×Nat)) (acc:AV),p+j=outs.length->next.length+j*l.length<2 ^ 38->BM ⟨bs,tk⟩->bs.take n=X->n<=bs.length->Dr 0 tk 23 acc (Dg next) ->
   (∀bs' HP acc',BM ⟨bs',HP⟩->bs'.take n=X->n<=bs'.length->Dr 0 HP 23 acc' (Dg (next++(outs.drop p).flatMap λpre=>l.map λx=>pre++[x]))->CY acc acc' tk HP->Yq R 0 0 0 t0 acc' t17 t18 t19 ⟨bs',HP⟩ QR) ->
   Yr R 0 0 0 t0 xa acc t17 t18 t19 ya (AB outs.length) (AB p) ⟨bs,tk⟩ QR:=by
 intro j
 induction j with
 | zero=>
  intro p next bs tk acc hi ho hs hT hn hacc hK
  refine wQ (Ai ?_);rw[Aw (by omega)];rw[Bt (by omega)] at hK;exact Aq (AKq (hK bs tk acc hs hT hn (by simpa using hacc) (CY.refl _ _)))
 | succ j D7=>
  intro p next bs tk acc hi ho hs hT hn hacc hK
  refine wQ (Ai ?_);rw[Ap (by omega)];obtain⟨pre,hc⟩:∃c,outs[p]?=some c:=⟨_,Ak (by omega)⟩;rw[drop_cons hc] at hK;rw[K6] at ho;refine BH (AKr (BR Uw (row:=[.list (AZ (Bz pre))]) (by omega) (by grind[Dg]) rfl (by omega) (El (Al (n:=l.length) (by rw[T6.A9,AQ,Bk,CC]) ?_))));refine wN T6 hl (hpre pre (A5 hc)) l.length 0 next bs tk acc (by omega) (by omega) hs hT hn hacc λo8 tk1 AKs k1 k2 k3 k4 k5=>?_
  refine ADK (Ba (by omega) (by omega) ?_);rw[Jl] at k4;have:=D7 (p+1) (next++l.map λx=>pre++[x]) o8 tk1 AKs (by omega) (by grind) k1 k2 k3 k4 (λbs' HP Nv m1 m2 m3 m4 m5=>hK bs' HP Nv m1 m2 m3 (by grind) (k5.trans m5))
  grind
end
theorem AKt {a b:Nat} {K:AV->Prop} (hb:b≠0) (ha:a<2 ^ 62) (h:K (AB ((a / b:Nat):Int))):Cg .i64 .quo (AB a) (AB b) K:=by
 have e:(a:Int).tdiv b=((a / b:Nat):Int):=(Int.ofNat_tdiv a b).symm;have hl:=Nat.div_le_self a b;refine⟨⟨rfl,rfl⟩,by omega,?_⟩;rw[e];generalize a / b=c at hl h;exact B8 (by omega) (by omega) h
theorem cL (outs:List (List Ty)) (l:List Ty):(outs.flatMap λp=>l.map λx=>p++[x]).length=outs.length*l.length:=by
 induction outs with
 | nil=>simp
 | cons o os ih=>grind
def cM (v:AV) (r:Option (List (List Ty))):Prop:=match r with
 | none=>v=.tuple [.AA [],BB false]
 | some o=>∃a,v=.tuple [a,BB true]/\BJ a (Dg o)
section
variable {R:RT}
theorem wR {e A4:Nat} (JW:A4<2 ^ 20) {d:AV} {ls:List (List Ty)} {ya:AV} (Uw:BJ ya (Dg ls)) (SA:ls.length<2 ^ 36) (hls:∀l∈ls,l≠[]/\l.length<2 ^ 37) {n:Nat} {X:List (List AV)} (hX:X[e]?=some [d,AB A4]) {OC:List (Nat×Nat)} {r:Option (List (List Ty))} {QR:QT}
  (hK:∀v bs' HP,cM v r->BM ⟨bs',HP⟩->bs'.take n=X->CY (.AA []) (.AA []) OC HP->QR v ⟨bs',HP⟩) :
  ∀(j p:Nat) (outs:List (List Ty)) (bs:List (List AV)) (tk:List (Nat×Nat)) (acc:AV),p+j=ls.length->Dq (AR A4) (ls.drop p) outs=r->outs.length<=A4+1->(∀o∈outs,o.length<=p)->BM ⟨bs,tk⟩->bs.take n=X->n<=bs.length->BJ acc (Dg outs)->CY (.AA []) (.AA []) OC tk ->
   Ys R 0 0 0 (.ptr e 0) acc ya (AB ls.length) (AB p) ⟨bs,tk⟩ QR:=by
 intro j
 induction j with
 | zero=>
  intro p outs bs tk acc hi hc ho hp hs hT hn hacc hch;refine wS (Ai ?_);rw[Aw (by omega)];rw[Bt (by omega),Dq] at hc;subst hc;exact Aq (AKu (hK _ _ _ ⟨acc,rfl,hacc⟩ hs hT hch))
 | succ j D7=>
  intro p outs bs tk acc hi hc ho hp hs hT hn hacc hch;refine wS (Ai ?_);rw[Ap (by omega)];obtain⟨l,hl⟩:∃c,ls[p]?=some c:=⟨_,Ak (by omega)⟩;obtain⟨hne,hlen⟩:=hls l (A5 hl);have hpos:0<l.length:=List.length_pos_iff.2 hne;rw[drop_cons hl,Dq,cL] at hc;have gE:=B6 hT hX;have T6:BJ (.pv (.list (AZ (Bz l)))) (AZ (Bz l)):=.inl (.list _);refine BH (AKv (BR Uw (row:=[.list (AZ (Bz l))]) (by omega) (by grind[Dg]) rfl (by omega) (El (Al (n:=outs.length) (by rw[hacc.A9,Hq]) (C1 (AP gE) (AK (AP gE) (AU (off:=1) gE rfl (Al (n:=l.length) (by rw[T6.A9,AQ,Bk,CC]) (AKt (by omega) (by omega) (Gk ?_))))))))))
  have eb:decide ((outs.length:Int)>((A4 / l.length:Nat):Int))=AR A4 (outs.length*l.length):=by
   simp only[AR];rw[OJ];simp only[Dc,gt_iff_lt,Int.ofNat_lt]
   grind[Nat.div_lt_iff_lt_mul]
  rw[eb];cases hb:AR A4 (outs.length*l.length) with
  | true=>
   rw[hb] at hc;simp only[AN] at hc;subst hc;exact BH (hK _ _ _ rfl hs hT hch)
  | false=>
   rw[hb] at hc;simp only[AH] at hc;have Ng:outs.length*l.length<=A4:=by grind
   refine Aq (AKw (Al (n:=outs.length) (by rw[hacc.A9,Hq]) ?_));refine AKp T6 hacc hlen (λo hm=>by grind) (by omega) outs.length 0 [] bs tk (.AA []) (by omega) (by grind) hs hT hn (.inl rfl) λo8 tk1 AKs k1 k2 k3 k4 k5=>?_
   refine ADL (Ba (by omega) (by omega) ?_);rw[Jl,Ce] at k4;have:=D7 (p+1) (outs.flatMap λpre=>l.map λx=>pre++[x]) o8 tk1 AKs (by omega) hc (by grind[cL]) (by grind) k1 k2 k3 k4.A1 (hch.side k5 (DR.AA _ _))
   grind
end
theorem AFN {rr:Bool} {v:AV} {r:Option (List (List Ty))} {s0:AL} {bs:List (List AV)} {ts:List (Nat×Nat)} {Post:AV->AL->Prop} (h0:BM s0) (hT:bs.take s0.bs.length=s0.bs) (hr:cM v r) (hP:∀w,cM w r->Post w ⟨s0.bs,ts⟩):QM rr s0.bs.length Post v ⟨bs,ts⟩:=by
 have hok:((bs.take s0.bs.length).all (Ah s0.bs.length))=true:=by
  rw[C2];intro b hb;exact h0 b (by grind)
 cases r with
 | none=>
  cases hr;refine JU (ds:=[.AA [],BB false]) hok rfl ?_
  show Post _ ⟨bs.take _,ts⟩
  rw[hT];exact hP _ rfl
 | some l=>
  obtain⟨a,rfl,ha⟩:=hr;obtain⟨a',h1,h2⟩:=ha.close bs s0.bs.length ts.length;refine JU (ds:=[a',BB true]) hok (by grind[AX,Tel.close]) ?_
  show Post _ ⟨bs.take _,ts⟩
  rw[hT];exact hP _ ⟨a',rfl,h2⟩
section
variable {R:RT}
theorem ADM {e A4:Nat} (JW:A4<2 ^ 20) {d:AV} {ls:List (List Ty)} {ya:AV} (Uw:BJ ya (Dg ls)) (SA:ls.length<2 ^ 36) (hls:∀l∈ls,l.length<2 ^ 37) {s:AL} (hs:BM s) (hE:s.bs[e]?=some [d,AB A4]) {L:A3} (hro:L.ro=0) (Eb:L.rt=0) :
  ∃v s',(∃ts',cM v (bif ls.any List.isEmpty then some [] else Dq (AR A4) ls [[]])/\CY (.AA []) (.AA []) s.ts ts'/\s'=⟨s.bs,ts'⟩)/\BA (env R) L 120 [.ptr e 0,ya] s v s':=by
 refine AWi (by rfl) ?_;rw[hro,Eb];refine AKx ⟨_,_,o7 Uw (by omega) hs _,?_⟩;cases ha:ls.any List.isEmpty with
 | true=>exact BH (AFN hs (by simp) (r:=some []) ⟨.AA [],rfl,.inl (.AA _)⟩ λw hw=>⟨s.ts,hw,CY.refl _ _,rfl⟩)
 | false=>
  refine Aq (AKy (gZ (l:=[]) (.inl (.AA _)) (Al (n:=ls.length) (by rw[Uw.A9,Hq]) ?_)));refine wR (n:=s.bs.length) (X:=s.bs) (OC:=s.ts) (r:=Dq (AR A4) ls [[]]) JW Uw SA ?_ hE (λv bs' HP h1 h2 h3 h4=>AFN hs h3 h1 λw hw=>⟨HP,hw,h4,rfl⟩) ls.length 0 [[]] s.bs s.ts (.AA [[.list (AZ [])]]) (by omega) rfl (by simp) (by simp) hs (by simp) (Ac _) (.inl (.AA _)) (CY.refl _ _)
  grind
end
section
variable {R:RT}
theorem AKz {all:List (List Ty)} {ya:AV} (Uw:BJ ya (Dg all)) (hl:all.length<2 ^ 37) {t12:AV} {bs:List (List AV)} {OC:List (Nat×Nat)} {QR:QT}
  (hK:∀acc HP,Dr 0 HP 25 acc (AZ (Bz (all.map (.mk 3 [] 0))))->CY (.AA []) acc OC HP->wT R 0 0 0 t12 acc ⟨bs,HP⟩ QR) :
  ∀(j p:Nat) (tk:List (Nat×Nat)) (acc:AV),p+j=all.length->Dr 0 tk 25 acc (AZ (Bz ((all.take p).map (.mk 3 [] 0))))->CY (.AA []) acc OC tk ->
   cN R 0 0 0 t12 acc ya (AB all.length) (AB p) ⟨bs,tk⟩ QR:=by
 intro j
 induction j with
 | zero=>
  intro p tk acc hi hacc hch;refine wU (Ai ?_);rw[Aw (by omega)];rw[CL (by omega)] at hacc;exact Aq (hK acc tk hacc hch)
 | succ j D7=>
  intro p tk acc hi hacc hch;refine wU (Ai ?_);rw[Ap (by omega)];obtain⟨o,hc⟩:∃c,all[p]?=some c:=⟨_,Ak (by omega)⟩;have ht:BV (ren (.mk 3 [] 0 o)) (.agg [AB 3,SS [],AB 0,.pv (.list (AZ (Bz o)))]):=⟨_,rfl,.inl (.list _)⟩;refine BH (AP8 (BR Uw (row:=[.list (AZ (Bz o))]) (by omega) (by grind[Dg]) rfl (by omega) (El (IY (cs:=[AB 3,SS [],AB 0,.pv (.list (AZ (Bz o)))]) rfl (FR ht ⟨by decide,Iy hacc rfl (by grind[Bk]) λacc' HP h1 h2=>AP9 (Ba (by omega) (by omega) ?_)⟩)))));have er:Bz ((all.take p).map (.mk 3 [] 0))++[ren (.mk 3 [] 0 o)]=Bz ((all.take (p+1)).map (.mk 3 [] 0)):=by grind[List.take_add_one,Bk]
  rw[er] at h1;have:=D7 (p+1) HP acc' (by omega) h1 (hch.trans h2)
  grind
end
section
variable {R:RT}
theorem ADN {e A4 M:Nat} (JW:A4<2 ^ 20) {ex:Ty->List Ty->Fv} {B0:List Ty} (gT:∀t B,B<+:(ex t B).2) {ts:List Ty} {ya:AV} (Uw:BJ ya (AZ (Bz ts))) (hl:ts.length<2 ^ 37)
  (ih:∀t∈ts,∀B,B0<+:B->(ex t B).2.length<=M->∀x,BV (ren t) x->∀s,BM s->WX R e A4 44 [x] (ex t B) B s)
  {s0:AL} (he:e<s0.bs.length) {d0:AV} {o:Option (List (List Ty))×List Ty} (oz:o.2.length<=M) {QR:QT}
  (hN:o.1=none->∀bs tk d,bs.take s0.bs.length=s0.bs.set e [d,AB A4]->Dr 0 tk 25 d (AZ o.2)->CY d0 d s0.ts tk->QR (.tuple [.AA [],BB false]) ⟨bs,tk⟩)
  (hS:∀ls,o.1=some ls->∀bs tk d acc,BM ⟨bs,tk⟩->bs.take s0.bs.length=s0.bs.set e [d,AB A4]->s0.bs.length<=bs.length->Dr 0 tk 25 d (AZ o.2)->CY d0 d s0.ts tk->BJ acc (Dg ls)->wV R 0 0 0 (.ptr e 0) acc ⟨bs,tk⟩ QR) :
  ∀(j p:Nat) (out:List (List Ty)) (Bc:List Ty) (bs:List (List AV)) (tk:List (Nat×Nat)) (d acc:AV),p+j=ts.length->Er ex (ts.drop p) out Bc=o->B0<+:Bc->out.length<=p ->
   BM ⟨bs,tk⟩->bs.take s0.bs.length=s0.bs.set e [d,AB A4]->s0.bs.length<=bs.length ->
   Dr 0 tk 25 d (AZ Bc)->Dr 0 tk 23 acc (Dg out)->CY d0 d s0.ts tk->DR acc s0.ts->RS d acc ->
   lK R 0 0 0 (.ptr e 0) acc ya (AB ts.length) (AB p) ⟨bs,tk⟩ QR:=by
 intro j
 induction j with
 | zero=>
  intro p out Bc bs tk d acc hi hseq hB hop hs hT N7 hd hacc hch hfr Jf;refine AFO (Ai ?_);rw[Aw (by omega)];rw[Bt (by omega),Er] at hseq;subst hseq;exact Aq (hS out rfl bs tk d acc hs hT N7 hd hch hacc.A1)
 | succ j D7=>
  intro p out Bc bs tk d acc hi hseq hB hop hs hT N7 hd hacc hch hfr Jf;refine AFO (Ai ?_);rw[Ap (by omega)];obtain⟨c,hc⟩:∃c,ts[p]?=some c:=⟨_,Ak (by omega)⟩;have hrc:(Bz ts)[p]?=some (ren c):=by grind[Bk]
  have hrl:((Ag (ren c)).map AV.pv).length=4:=by grind[Af]
  have hro:=DW (ren c)
  have Lp:Ah (bs.length+1) ((Ag (ren c)).map AV.pv)=true:=by
   obtain⟨k1,n1,i1,t1⟩:=ren c;rfl
  have ES:=(A7.BZ (ren c)).G6;refine BH (AQA (BR Uw (row:=Ag (ren c)) (by omega) (by grind[BG]) (Af _) (by omega) (Cd (Bq ?_))));rw[drop_cons hc,Er] at hseq;generalize (Ag (ren c)).map AV.pv=row at hrl hro Lp ES;refine CG (Az bs Z4) hrl rfl (by decide) (AI _) hro (.inl (AI _)) ?_;have e1:(bs++[Z4]).set bs.length row=bs++[row]:=by simp
  rw[e1];have hs1:BM ⟨bs++[row],tk⟩:=BM.app (s:=⟨bs,tk⟩) hs Lp;have gr:=Az bs row;have SD:=(D1 N7 row).trans hT;have lb:(bs++[row]).length=bs.length+1:=by simp
  generalize bs++[row]=b1 at hs1 gr SD lb;have gE:(s0.bs.set e [d,AB A4])[e]?=some [d,AB A4]:=by rw[CU he]
  have hfp:∀(l:List Ty) out B,B<+:(Er ex l out B).2:=λl out B=>Tc gT l out B
  have gU:=ih c (A5 hc) Bc hB;have hpre:=gT c Bc;rcases hg:ex c Bc with ⟨r,B1⟩
  rw[hg] at hseq gU hpre;simp only at hseq gU hpre;have VN:B1.length<=M:=by grind
  obtain⟨w2,s2',⟨d2,J1,q1,q2,q3,rfl⟩,q4⟩:=gU VN (.agg row) ES ⟨b1,tk⟩ hs1 (Dh (env R) 88 0 0 0) d rfl rfl (B6 SD gE) hd;have Ia:(b1.set e [d2,AB A4]).take s0.bs.length=s0.bs.set e [d2,AB A4]:=by simp[*,EG]
  refine Ae gr hrl ⟨_,_,q4,?_⟩;cases r with
  | none=>
   cases q1;simp only at hseq;subst hseq;exact CB rfl (CB rfl (nt (BH (hN rfl _ J1 d2 Ia q2 (hch.trans q3)))))
  | some r=>
   obtain⟨a2,rfl,S9⟩:=q1;simp only at hseq;have J2:=q3.keep hacc Jf;have Ks:RS d2 acc:=Jf.PC q3 hacc;refine CB rfl (CB rfl (nt (Aq (AQB (gZ S9 ⟨by decide,lJ J2 rfl (by omega) λacc' Ms h3 h4=>AQC (Ba (by omega) (by omega) ?_)⟩)))));have Ln:=hch.trans q3;have hd3:=h4.keep q2 Ks.symm;have Nu:=Ln.side h4 hfr;have hs2:BM ⟨b1.set e [d2,AB A4],Ms⟩:=BM.set (s:=⟨b1,tk⟩) hs1 (by simp[Ah,Ar,q2.A1.Ar]) _;have:=D7 (p+1) (out++[r]) B1 (b1.set e [d2,AB A4]) Ms d2 acc' (by omega) hseq (hB.trans hpre) (by grind) hs2 Ia (by grind) hd3 h3 Nu (hfr.PC h4 Ln.1) (Ks.symm.PC h4 q2).symm
   grind
def Lo (A4:Nat) (ex:Ty->List Ty->Fv) (ts B:List Ty):Fv:=match Er ex ts [] B with
 | (none,B)=>(none,B)
 | (some ls,B)=>bif ls.any List.isEmpty then(some [],B) else match Dq (AR A4) ls [[]] with
  | none=>(none,B)
  | some all=>(some (all.map (.mk 3 [] 0)),B)
theorem Wf {A4:Nat}:∀(ls out r:List (List Ty)),Dq (AR A4) ls out=some r->r.length<=A4\/r=out
 | [],out,r,h=>by grind[Dq]
 | l::ls,out,r,h=>by
  rw[Dq] at h;cases hb:AR A4 (out.flatMap λp=>l.map λx=>p++[x]).length with
  | true=>grind
  | false=>
   rw[hb] at h;have hb':(out.flatMap λp=>l.map λx=>p++[x]).length<=A4:=by grind
   rcases Wf ls _ r h with h1|h1
   all_goals grind
end
theorem Wh {A4:Nat} {ex:Ty->List Ty->Fv}:∀(l:List Ty) (out:List (List Ty)) (B:List Ty) (r:List (List Ty)),(∀t∈l,∀B r,(ex t B).1=some r->r.length<=A4)->(Er ex l out B).1=some r->(∀o∈out,o.length<=A4)->(∀o∈r,o.length<=A4)/\r.length=out.length+l.length
 | [],out,B,r,_,h,ho=>by grind[Er]
 | t::l,out,B,r,hx,h,ho=>by
  have h1:=hx t (by simp) B;rw[Er] at h;rcases hr:ex t B with ⟨_|s,B1⟩
  .grind
  .rw[hr] at h h1
   have:=Wh l (out++[s]) B1 r (λa ha=>hx a (by grind)) h (by grind)
   grind
section
variable {R:RT}
theorem ADO {e A4 M:Nat} (JW:A4<2 ^ 20) {ex:Ty->List Ty->Fv} {B0:List Ty} (gT:∀t B,B<+:(ex t B).2) {ts:List Ty} (hxl:∀t∈ts,∀B r,(ex t B).1=some r->r.length<=A4) {ya:AV} (Uw:BJ ya (AZ (Bz ts))) (hl:ts.length<2 ^ 36)
  (ih:∀t∈ts,∀B,B0<+:B->(ex t B).2.length<=M->∀x,BV (ren t) x->∀s,BM s->WX R e A4 44 [x] (ex t B) B s)
  {B:List Ty} (hB:B0<+:B) (hM:(Lo A4 ex ts B).2.length<=M) {s:AL} (hs:BM s):WX R e A4 88 [ya] (Lo A4 ex ts B) B s:=by
 intro L d hro Eb hE hd;have le:=(BL.1 hE).1;have same:s.bs.set e [d,AB A4]=s.bs:=by grind[List.set_getElem_self]
 refine m88 (by rfl) ?_;rw[hro,Eb];refine AQD (Al (n:=ts.length) (by rw[Uw.A9,AQ,Bk,CC]) ?_);have AFP:=Wh (A4:=A4) ts [] B (ex:=ex);rcases ho:Er ex ts [] B with ⟨r,B1⟩
 rw[ho] at AFP;have qx:(Lo A4 ex ts B).2=B1:=by grind[Lo]
 rw[qx] at hM;refine ADN (M:=M) JW gT Uw (by omega) ih le (o:=(r,B1)) hM ?_ ?_ ts.length 0 [] B s.bs s.ts d (.AA []) (by omega) (by grind) hB (AI _) hs (by grind) (Ac _) hd (.inl rfl) (CY.refl _ _) (DR.AA _ _) (RS.AA _ _)
 .rintro h bs tk d' hT hd' hch
  simp only at h;subst h;have e1:Lo A4 ex ts B=(none,B1):=by rw[Lo,ho]
  rw[e1];exact Ev hs hT (hd'.A1.Ar _) (r:=none) rfl λw hw=>⟨d',tk,hw,hd',hch,rfl⟩
 .rintro ls h bs tk d' acc hs1 hT N7 hd' hch hacc
  simp only at h hd';subst h
  have e1:Lo A4 ex ts B=bif ls.any List.isEmpty then(some [],B1) else match Dq (AR A4) ls [[]] with
   | none=>(none,B1)
   | some all=>(some (all.map (.mk 3 [] 0)),B1):=by grind[Lo]
  obtain⟨dz,Pb⟩:=AFP ls hxl rfl (by simp);have gE:bs[e]?=some [d',AB A4]:=B6 hT (by rw[CU le]);simp only[CJ,CP] at Pb;obtain⟨v,s',⟨ts',r1,r2,rfl⟩,r3⟩:=ADM (R:=R) (L:=Dh (env R) 88 0 0 0) JW hacc (by omega) (λl hl=>by grind) hs1 gE rfl rfl;have Sm:=r2.keep hd' (λ_ h=>by cases h);have Ln:=hch.side r2 (DR.AA _ _);refine AQE ⟨_,_,r3,?_⟩
  have fin:∀(r:Option (List (List Ty))) ,cM v r->(r.map (List.map (Ty.mk 3 [] 0)),B1)=Lo A4 ex ts B->(∀all,r=some all->all.length<=A4+1) ->
    DF v 0 λa39=>DF v 1 λa40=>BO ⟨bs,ts'⟩ a39 λa42=>cN R 0 0 0 a40 (.AA []) a39 a42 (AB 0) ⟨bs,ts'⟩ (QM (L.rr 88) s.bs.length (λv s'=>∃d' ts',Res v (Lo A4 ex ts B).1/\Dr 0 ts' 25 d' (AZ (Lo A4 ex ts B).2)/\CY d d' s.ts ts'/\s'=⟨s.bs.set e [d',AB A4],ts'⟩)):=by
   intro r hr he hle;rw[<-he];cases r with
   | none=>
    cases hr;refine CB rfl (CB rfl (Al (n:=0) rfl (wU (Ai ?_))));rw[Aw (by omega)];exact Aq (AFQ (Ev hs hT (Sm.A1.Ar _) (r:=none) rfl λw hw=>⟨d',ts',hw,Sm,Ln,rfl⟩))
   | some all=>
    obtain⟨a,rfl,ha⟩:=hr;have hle':=hle all rfl;refine CB rfl (CB rfl (Al (n:=all.length) (by rw[ha.A9,Hq]) ?_));refine AKz ha (by omega) (OC:=ts') ?_ all.length 0 ts' (.AA []) (by omega) (.inl rfl) (CY.refl _ _);intro Nv M7 h5 h6;refine AFQ (Ev hs hT (Sm.A1.Ar _) (r:=some (all.map (.mk 3 [] 0))) ⟨Nv,rfl,h5.A1⟩ λw hw=>⟨d',M7,hw,h6.keep Sm (λ_ h=>by cases h),Ln.side h6 (DR.AA _ _),rfl⟩)
  refine fin _ r1 ?_ ?_
  .grind
  .intro all h
   cases hb:ls.any List.isEmpty with
   | true=>grind
   | false=>
    rw[hb] at h;simp only[AH] at h;rcases Wf ls [[]] all h with h1|h1
    all_goals grind
end
section
variable {R:RT}
theorem SE {e:Nat} {t6:AV} {s:AL} {QR:QT} (h:QR (.tuple [.AA [],BB false]) s):NN R 0 0 0 (.ptr e 0) t6 (BB false) s QR:=
 AFR (nt (DJ (DJ (DJ (DJ (DJ (DJ (DJ (pk (BH h))))))))))
theorem cO {e A4:Nat} {d a:AV} {l:List Ty} {s:AL} {QR:QT} (ha:BJ a (AZ (Bz l))) (kE:s.bs[e]?=some [d,AB A4]) (h:∀w,Res w (bif AR A4 l.length then none else some l)->QR w s):NN R 0 0 0 (.ptr e 0) a (BB true) s QR:=by
 refine AFR (nt (Am (b:=false) (Am (b:=false) (Al (n:=l.length) (by rw[ha.A9,AQ,Bk,CC]) (Am (b:=false) (Am (b:=false) (C1 (AP kE) (Am (b:=false) (AK (AP kE) (Am (b:=false) (AU (off:=1) kE rfl (Am (b:=false) (Gk (pk ?_))))))))))))));have eb:decide ((l.length:Int)>(A4:Nat))=AR A4 l.length:=by simp
 rw[eb];cases hb:AR A4 l.length with
 | true=>rw[hb] at h; exact BH (h _ rfl)
 | false=>rw[hb] at h; exact Aq (AQF (h _ ⟨a,rfl,ha⟩))
theorem ADP {e A4 M:Nat} {ex:Ty->List Ty->Fv} {B0:List Ty} (gT:∀t B,B<+:(ex t B).2) {ts:List Ty} (hxl:∀t∈ts,∀B r,(ex t B).1=some r->r.length<=A4) {ya:AV} (Uw:BJ ya (AZ (Bz ts))) (hl:ts.length*A4<2 ^ 38) (Pb:ts.length<2 ^ 38)
  (ih:∀t∈ts,∀B,B0<+:B->(ex t B).2.length<=M->∀x,BV (ren t) x->∀s,BM s->WX R e A4 44 [x] (ex t B) B s)
  {s0:AL} (he:e<s0.bs.length) {d0:AV} {o:(List Ty×Bool)×List Ty} (oz:o.2.length<=M) {QR:QT}
  (hK:∀bs tk d acc,BM ⟨bs,tk⟩->bs.take s0.bs.length=s0.bs.set e [d,AB A4]->Dr 0 tk 25 d (AZ o.2)->CY d0 d s0.ts tk->BJ acc (AZ (Bz o.1.1))->NN R 0 0 0 (.ptr e 0) acc (BB o.1.2) ⟨bs,tk⟩ QR) :
  ∀(j p:Nat) (out:List Ty) (ok:Bool) (Bc:List Ty) (bs:List (List AV)) (tk:List (Nat×Nat)) (d acc:AV),p+j=ts.length->G4 ex (ts.drop p) out ok Bc=o->B0<+:Bc->out.length+j*A4<=ts.length*A4 ->
   BM ⟨bs,tk⟩->bs.take s0.bs.length=s0.bs.set e [d,AB A4]->s0.bs.length<=bs.length ->
   Dr 0 tk 25 d (AZ Bc)->Dr 0 tk 25 acc (AZ (Bz out))->CY d0 d s0.ts tk->DR acc s0.ts->RS d acc ->
   lM R 0 0 0 (.ptr e 0) acc (BB ok) ya (AB ts.length) (AB p) ⟨bs,tk⟩ QR:=by
 intro j
 induction j with
 | zero=>
  intro p out ok Bc bs tk d acc hi hseq hB hop hs hT N7 hd hacc hch hfr Jf;refine AFS (Ai ?_);rw[Aw (by omega)];rw[Bt (by omega),G4] at hseq;subst hseq;exact Aq (hK bs tk d acc hs hT hd hch hacc.A1)
 | succ j D7=>
  intro p out ok Bc bs tk d acc hi hseq hB hop hs hT N7 hd hacc hch hfr Jf;refine AFS (Ai ?_);rw[Ap (by omega)];obtain⟨c,hc⟩:∃c,ts[p]?=some c:=⟨_,Ak (by omega)⟩;have hrc:(Bz ts)[p]?=some (ren c):=by grind[Bk]
  have hrl:((Ag (ren c)).map AV.pv).length=4:=by grind[Af]
  have hro:=DW (ren c)
  have Lp:Ah (bs.length+1) ((Ag (ren c)).map AV.pv)=true:=by
   obtain⟨k1,n1,i1,t1⟩:=ren c;rfl
  have ES:=(A7.BZ (ren c)).G6;rw[K6] at hop;refine BH (AQG (BR Uw (row:=Ag (ren c)) (by omega) (by grind[BG]) (Af _) (by omega) (Cd (Bq ?_))));rw[drop_cons hc,G4] at hseq;generalize (Ag (ren c)).map AV.pv=row at hrl hro Lp ES;refine CG (Az bs Z4) hrl rfl (by decide) (AI _) hro (.inl (AI _)) ?_;have e1:(bs++[Z4]).set bs.length row=bs++[row]:=by simp
  rw[e1];have hs1:BM ⟨bs++[row],tk⟩:=BM.app (s:=⟨bs,tk⟩) hs Lp;have gr:=Az bs row;have SD:=(D1 N7 row).trans hT;have lb:(bs++[row]).length=bs.length+1:=by simp
  generalize bs++[row]=b1 at hs1 gr SD lb;have gE:(s0.bs.set e [d,AB A4])[e]?=some [d,AB A4]:=by rw[CU he]
  have hfp:∀(l:List Ty) out ok B,B<+:(G4 ex l out ok B).2:=λl out ok B=>O4 gT l out ok B
  have gU:=ih c (A5 hc) Bc hB;have hxc:=hxl c (A5 hc) Bc;have hpre:=gT c Bc;rcases hg:ex c Bc with ⟨r,B1⟩
  rw[hg] at hseq gU hpre hxc;simp only at hseq gU hpre hxc;have VN:B1.length<=M:=by grind
  obtain⟨w2,s2',⟨d2,J1,q1,q2,q3,rfl⟩,q4⟩:=gU VN (.agg row) ES ⟨b1,tk⟩ hs1 (Dh (env R) 44 0 0 0) d rfl rfl (B6 SD gE) hd;have Ia:(b1.set e [d2,AB A4]).take s0.bs.length=s0.bs.set e [d2,AB A4]:=by simp[*,EG]
  have J2:=q3.keep hacc Jf;have Ks:RS d2 acc:=Jf.PC q3 hacc;have Ln:=hch.trans q3
  have pick:∀(b:Bool) (s:AL) (K:AV->AL->Prop),K (BB (ok&&b)) s->I1 (BB ok) true s (λK=>K (BB b) s) λa40 s1=>A8 (BB ok) a40 (BB false) λa41=>K a41 s1:=by
   intro b s K hK;cases ok with
   | true=>grind[Am,pk]
   | false=>grind[Bm,pk]
  refine Ae gr hrl ⟨_,_,q4,?_⟩
  have go:∀(a2:AV) (b:Bool) (AK1:List Ty) (r2:List Ty),AK1=out++r2->r2.length<=A4->BJ a2 (AZ (Bz r2))->G4 ex (ts.drop (p+1)) AK1 (ok&&b) B1=o ->
    DF (.tuple [a2,BB b]) 0 λa33=>DF (.tuple [a2,BB b]) 1 λa34=>(4=4/\4≠0)/\Cx false (Dh (env R) 44 0 0 0) ⟨b1.set e [d2,AB A4],J1⟩ 25 4 56 acc a33 λa37 ADQ=>
     I1 (BB ok) true ADQ (λK=>K a34 ADQ) λa40 Yk=>A8 (BB ok) a40 (BB false) λa41=>lN R 0 0 0 (.ptr e 0) a37 a41 ya (AB ts.length) (AB p) Yk QR:=by
   intro a2 b AK1 r2 qx P0 S9 hseq;subst qx;refine CB rfl (CB rfl ⟨by decide,Ew J2 rfl (by grind[Bk]) S9 λacc' Ms Lj Uz=>pick b _ (λa41 Yk=>lN R 0 0 0 (.ptr e 0) acc' a41 ya (AB ts.length) (AB p) Yk QR) (AQH (Ba (by omega) (by omega) ?_))⟩);have er:Bz out++Bz r2=Bz (out++r2):=by simp[Bk]
   rw[er] at Lj;have hd3:=Uz.keep q2 Ks.symm;have Nu:=Ln.side Uz hfr;have hs2:BM ⟨b1.set e [d2,AB A4],Ms⟩:=BM.set (s:=⟨b1,tk⟩) hs1 (by simp[Ah,Ar,q2.A1.Ar]) _;have:=D7 (p+1) (out++r2) (ok&&b) B1 (b1.set e [d2,AB A4]) Ms d2 acc' (by omega) hseq (hB.trans hpre) (by grind) hs2 Ia (by grind) hd3 Lj Nu (hfr.PC Uz Ln.1) (Ks.symm.PC Uz q2).symm
   grind
  cases r with
  | none=>
   cases q1;exact go (.AA []) false out [] (by simp) (by simp) (.inl (.AA _)) (by grind)
  | some r=>
   obtain⟨a2,rfl,S9⟩:=q1
   grind
end
end Go.Proofs.YtpgfpakdnijngaaGreatDoor
