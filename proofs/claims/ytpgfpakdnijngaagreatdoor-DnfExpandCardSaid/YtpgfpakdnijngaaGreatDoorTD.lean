/-
  A branch's body with its placeholders numbered: the whole term.
-/
import Derived.Test.YtpgfpakdnijngaaGreatDoorTC
import Derived.Test.YtpgfpakdnijngaaGreatDoorTB
import Derived.Test.YtpgfpakdnijngaaGreatDoorW1
set_option linter.all false
namespace Go.Proofs.YtpgfpakdnijngaaGreatDoor
open Go.Tel
attribute [local simp] CI Bs LP LQ AO CU FJ wO setCells CJ D6 DV Cv A0 alive CY F9 I4 nx A6 DC BO Gs Dt DT si qd okB sj sk sq sr su jh sw sx sy s7 s8 s9 tA tB tC tD tE okF tF tG tH tI tJ Xs tK SR SU SV SW tL tM tN tP tQ tR tS tT tU tV Fw tW qe tX tY tZ td th tj tq uA uB uC Cm g0 g1 xI xL xM xF xG xC lf Y4 Y5
mutual
theorem Rn (N:Nat):∀(t:Ty) (o:List Nat),(LA N t o).2.length<=o.length+size t
 | .mk k n i ts,o=>by
  have:=bH N ts o
  grind[LA,size]
theorem bH (N:Nat):∀(l:List Ty) (o:List Nat),(Gh N l o).2.length<=o.length+AZ l
 | [],_=>ML _ _
 | t::l,o=>by
  have h1:=Rn N t o;have h2:=bH N l (LA N t o).2
  grind[Gh,AZ]
end
section
variable {R:RT}
mutual
theorem bI (hn:Rj R) {P A F e N:Nat} {B:List Ty} (hN:B.length=N) (kR:N<=2 ^ 40):∀(t:Ty),size t<2 ^ 38->HM N t=true->∀(x:AV),A5 (ren t) x->∀(o:List Nat) (s:AM),BM s->Uq P A F e B s.bs->o.length+size t<2 ^ 40->vF R P A F N x o t s
 | .mk k n i ts,h,ht,x,hx,o,s,hs,hE,hb,L,c,hro,EU,hA,hc=>by
  have lA:=(BL.1 hA).1;have UT:=BP ts;have bJ:=KC hn kR ht hx;rw[HM] at ht;simp only[size] at h hb;refine m91 (by simp[Bi,F1]) ?_;rw[hro,EU];have same:s.bs.set A [c]=s.bs:=by grind[List.set_getElem_self]
  by_cases h7:k=7
  .subst h7
   simp only[C7,AN,AE,Jl,DU] at ht;obtain⟨hts,hi0,hiN⟩:=ht;subst hts;have er:ren (.mk 7 n i [])=.mk 2 (36::G0 i.toNat) 0 []:=rfl;rw[er] at hx;obtain⟨a,rfl,ha⟩:=hx;generalize (36::G0 i.toNat)=nm at bJ;have g:=Av (Ay s.bs [AA 2,SS nm,AA 0,a]) Z4;have gz:=Ay (s.bs++[[AA 2,SS nm,AA 0,a]]) Z4;have gA:=Av (Av hA [AA 2,SS nm,AA 0,a]) Z4;have gP:=Av (Av hE.hP [AA 2,SS nm,AA 0,a]) Z4;obtain⟨d,ds,he,hd⟩:=hE.he;have ge:=Av (Av he [AA 2,SS nm,AA 0,a]) Z4;have tkn:(s.bs++[[AA 2,SS nm,AA 0,a]]++[Z4]).take s.bs.length=s.bs.set A [c]:=by grind
   have el:(s.bs++[[AA 2,SS nm,AA 0,a]]).length=s.bs.length+1:=by simp
   refine AEz (Bw (cs:=[AA 2,SS nm,AA 0,a]) rfl (by simp[ha.ok]) (Bt ?_));simp only[el];rw[el] at gz;generalize aY:s.bs++[[AA 2,SS nm,AA 0,a]]++[Z4]=bs at g gz gA gP ge tkn;refine Ad g rfl (AD bJ ?_);rintro _ rfl;refine CE rfl (CE rfl (Ao (Ao (AU gP rfl (Ao (Cy (AP ge) (Ao (AK (AP ge) (Ao (AU ge rfl (Ao (Al (n:=N) (by rw[hd.A7,AR,hN]) (Ao (Ah (pk ?_)))))))))))))));rw[Ap (by omega)];refine A4 (AU gA rfl (AD (fZ (l:=fc o) (by grind) hc.Ax) ?_));rintro _ rfl;rw[ACs o hi0]
   have hcv:(LA N (.mk 7 n i []) o)=match o.findIdx? (·==i.toNat) with
     | some j=>(var j,o)
     | none=>(var o.length,o++[i.toNat]):=by grind[LA]
   rw[hcv]
   have fin:∀(j:Int) (c':AV) (ts':List (Nat×Nat)) (bs':List (List AV)) (Post:AV->AM->Prop),Ar s.bs.length c'=true->bs'.take s.bs.length=s.bs.set A [c']->bs'[s.bs.length+1]?=some Z4->(∀ds,BJ (ren (var j)) (.agg ds)->Post (.agg ds) ⟨s.bs.set A [c'],ts'⟩) ->
     kS R 0 0 0 (.ptr (s.bs.length+1) 0) (AA j) ⟨bs',ts'⟩ (QM (L.rr 91) s.bs.length Post):=by
    intro j c' ts' bs' Post hid hT hz hP;refine APw (IC (cs:=[AA 5,SS [],AA j,.AB []]) rfl (CL hz rfl rfl (by decide) (AI _) rfl (.inl (AI _)) (Ad (Bf hz) rfl ?_)));exact bF hs ((C6 (by omega)).trans hT) (by grind[Ab]) rfl (hP _ ⟨_,rfl,.inl (.AB _)⟩)
   cases hf:o.findIdx? (·==i.toNat) with
   | some j=>
    refine Ah ?_;rw[Aw (by simp)];exact Am (fin j c s.ts bs _ (hc.Ax.Ar _) tkn gz λds hds=>⟨c,s.ts,ds,hc,Ca.refl _ _,rfl,hds,rfl⟩)
   | none=>
    refine Ah ?_;rw[Ap (by simp)];refine A4 (AU gA rfl (Al (n:=o.length) (by rw[hc.Ax.A7,BV,Bx]) (AU gA rfl (Ou ⟨by decide,bE hc rfl (by grind) λc' ts' KQ hch=>?_⟩))));refine DD gA (by simp) KQ.Ax.cells (AI _) KQ.Ax.ok (.inl (AI _)) ?_;have hT:=EE (j:=A) (c:=[c']) tkn;rw[Hr] at hT;have hi:((i.toNat:Nat):Int)=i:=by omega
    refine⟨AU gA rfl (by rcases hc with rfl|⟨t,rfl,_⟩ <;> simp[Tel.Bg,K6]),Al (n:=o.length) (by rw[hc.Ax.A7,BV,Bx]) (by simp[Tel.Bg,Mm,FX]),?_⟩;refine fin o.length c' ts' _ _ (KQ.Ax.Ar _) hT (BR gz (by omega)) λds hds=>⟨c',ts',ds,?_,hch,rfl,hds,rfl⟩
    grind
  .have b7:(k==7)=false:=by grind
   have er:=HG k n i ts h7;rw[er] at hx;rw[b7] at ht bJ;simp only[AG,AE] at ht bJ;obtain⟨a,rfl,ha⟩:=hx;obtain⟨g0,g1,g2⟩:=IE (s:=s) (c:=[AA k,SS n,AA i,a]) (d:=[AA k,SS n,AA i,.AB []]);have gx:=Av (Ay s.bs [AA k,SS n,AA i,a]) Z4;have hcv:LA N (.mk k n i ts) o=(.mk k n i (Gh N ts o).1,(Gh N ts o).2):=by grind[LA]
   rw[hcv];refine AEz (Bw (cs:=[AA k,SS n,AA i,a]) rfl (by simp[ha.ok]) (Bt (Ad gx rfl (AD bJ ?_))));rintro _ rfl;refine CE rfl (CE rfl (Bm (Bm (Bm (Bm (Bm (Bm (Bm (pk (Am (APx (Ad gx rfl (Bt ?_)))))))))))));refine CL (old:=Z4) (Ay _ _) rfl rfl (by decide) (AI _) (by simp[ha.ok]) (.inl (AI _)) ?_;have e:((s.bs++[[AA k,SS n,AA i,a]]++[Z4]++[Z4]).set (s.bs++[[AA k,SS n,AA i,a]]++[Z4]).length [AA k,SS n,AA i,a])=(GG s [AA k,SS n,AA i,a] [AA k,SS n,AA i,a]).bs:=by grind[GG]
   have l1:(s.bs++[[AA k,SS n,AA i,a]]++[Z4]).length=s.bs.length+2:=by simp
   have l2:(s.bs++[[AA k,SS n,AA i,a]]).length=s.bs.length+1:=by simp
   simp only at e l1 l2 ⊢;rw[e];simp only[l1,l2];obtain⟨_,_,q2⟩:=IE (s:=s) (c:=[AA k,SS n,AA i,a]) (d:=[AA k,SS n,AA i,a]);refine AK (AP q2) (DD (off:=3) q2 (Aa 4) rfl (AI _) rfl (.inl (AI _)) ?_);have e2:(GG s [AA k,SS n,AA i,a] [AA k,SS n,AA i,a]).bs.set (s.bs.length+2) ([AA k,SS n,AA i,a].set 3 (.AB []))=(GG s [AA k,SS n,AA i,a] [AA k,SS n,AA i,.AB []]).bs:=by simp[*,GG]
   show A0 ⟨(GG s [AA k,SS n,AA i,a] [AA k,SS n,AA i,a]).bs.set (s.bs.length+2) ([AA k,SS n,AA i,a].set 3 (.AB [])),s.ts⟩ _ _ _
   rw[e2];refine AK (AP g0) (AU g0 rfl (Al (n:=ts.length) (by rw[ha.A7,AR,Bk,Bx]) ?_));have tkn:(GG s [AA k,SS n,AA i,a] [AA k,SS n,AA i,.AB []]).bs.take s.bs.length=s.bs.set A [c]:=by simp[*,GG]
   refine vG hN ha (by omega) h7 (o0:=o) (c0:=c) hs lA hE (λt hm o s hs hE hb=>V3 hn hN kR ts (by omega) ht.2.2 t hm o s hs hE hb) (λt _ o=>Rn N t o) (by omega) (λc' ts' ds h1 h2 h3=>⟨c',ts',ds,h1,h2,rfl,?_,rfl⟩) ts.length 0 o [] _ s.ts (.AB []) c (by omega) (by simp) (by simp) rfl (by simp)
    (Rm hs (by simp[Ab,Ar,ha.Ar]) (by rfl)) tkn g0 g1 g2 hc (.inl rfl) (Ca.refl _ _) (DL.AB _ _) (Q8.AB _ _)
   grind[HG]
theorem V3 (hn:Rj R) {P A F e N:Nat} {B:List Ty} (hN:B.length=N) (kR:N<=2 ^ 40):∀(ts:List Ty),AZ ts<2 ^ 38->IY N ts=true->∀t∈ts,∀(o:List Nat) (s:AM),BM s->Uq P A F e B s.bs->o.length+size t<2 ^ 40->vF R P A F N (.agg ((Af (ren t)).map .pv)) o t s
 | [],_,_,_,h=>by cases h
 | u::l,h,ht,t,hm=>by
  simp only[AZ] at h;simp only[IY,AE] at ht;rcases A1.1 hm with h' | h'
  .rw[h']
   exact bI hn hN kR u (by omega) ht.1 _ (A5.BZ _)
  .exact V3 hn hN kR l (by omega) ht.2 t h'
end
end
mutual
theorem fe {N:Nat}:∀(t:Ty) (o:List Nat),HM N t=true->(∀x∈o,x<N)->∀x∈(LA N t o).2,x<N
 | .mk k n i ts,o,h,ho=>by
  rw[HM] at h;rw[LA];cases h7:(k==7) with
  | true=>
   grind
  | false=>
   rw[h7] at h;simp only[AG,AE] at h;exact kT ts o h.2.2 ho
theorem kT {N:Nat}:∀(l:List Ty) (o:List Nat),IY N l=true->(∀x∈o,x<N)->∀x∈(Gh N l o).2,x<N
 | [],_,_,ho=>ho
 | t::l,o,h,ho=>by
  simp only[IY,AE] at h;exact kT l _ h.2 (fe t o h.1 ho)
end
mutual
theorem kU {N:Nat}:∀(t:Ty) (o:List Nat),HM N t=true->ren (LA N t o).1=(LA N t o).1
 | .mk k n i ts,o,h=>by
  rw[HM] at h;rw[LA];cases h7:(k==7) with
  | true=>
   rw[h7] at h;simp only[AN,AE,DU] at h;simp only[E6,h.2.2,decide_true,AN];split <;> rfl
  | false=>
   rw[h7] at h;simp only[AG,AE] at h;simp only[Ga,AG];rw[HG _ _ _ _ (by grind),bK ts o h.2.2]
theorem bK {N:Nat}:∀(l:List Ty) (o:List Nat),IY N l=true->B4 (Gh N l o).1=(Gh N l o).1
 | [],_,_=>rfl
 | t::l,o,h=>by
  simp only[IY,AE] at h;simp only[Gh,B4,kU t o h.1,bK l _ h.2]
end
theorem EX {l m:List (List AV)} {j n:Nat} {v:List AV} (hn:l.length=n) (h:m[j]?=some v):(l++m)[n+j]?=some v:=by grind
theorem YP {l m:List (List AV)} {j n:Nat} {v:List AV} (hn:l.length=n):(l++m).set (n+j) v=l++m.set j v:=by
 rw[<-hn,XD _ _ (by omega),Nat.add_sub_cancel_left]
theorem AKg {rr:Bool} {cs ds:List AV} {s0:AM} {bs:List (List AV)} {ts:List (Nat×Nat)} {Post:AV->AM->Prop} (h0:BM s0) (hT:bs.take s0.bs.length=s0.bs) (Be:AY bs s0.bs.length ts.length cs=some ds) (hP:Post (.agg ds) ⟨s0.bs,ts⟩):QM rr s0.bs.length Post (.agg cs) ⟨bs,ts⟩:=by
 refine YO (ds:=ds) ?_ Be ?_
 .rw[Cz]
  intro b hb;exact h0 b (by grind)
 grind
abbrev Z5:List AV:=.AB []::Z4
def CP (b:Br) (x:AV):Prop:=∃a y,x=.agg (a::y)/\BF a (AW b.bounds)/\BJ b.body (.agg y)
section
variable {R:RT}
theorem bL {e:Nat} {B:List Ty} (hB:∀t∈B,size t<2 ^ 38/\aW t=true) {o:List Nat} (ho:∀x∈o,x<B.length) (ZC:o.length<2 ^ 38) {s0:AM} (hs0:BM s0) {d:AV} {dr:List AV} (he:s0.bs[e]?=some (d::dr)) (hd:BF d (AW B)) {xs y:List AV} {t:Ty} (hy:BJ t (.agg y)) {c f:AV} (hc:BF c (AX (fc o)))
  {rr:Bool} {Post:AV->AM->Prop} (hP:∀v ts',CP ⟨o.map λx=>B.getD x Z9,t⟩ v->Ca (.AB []) (.AB []) s0.ts ts'->Post v ⟨s0.bs,ts'⟩) :
  ∀(j q:Nat) (tk:List (Nat×Nat)) (b:AV),q+j=o.length->Dg 0 tk 25 b (AW ((o.take q).map λx=>B.getD x Z9))->Ca (.AB []) (.AB []) s0.ts tk->DL b s0.ts ->
   bM R 0 0 0 (.ptr s0.bs.length 0) (.ptr (s0.bs.length+2) 0) (.ptr (s0.bs.length+5) 0) c (AA o.length) (AA q) ⟨s0.bs++[[.ptr e 0],xs,Z5,[c],[f],b::y],tk⟩ (QM rr s0.bs.length Post):=by
 have vH:y.length=4/\y.all A9=true:=by
  obtain⟨k,n,i,ts⟩:=t;obtain⟨a,hy,ha⟩:=hy;cases hy;exact⟨rfl,by simp[ha.ok]⟩
 intro j
 induction j with
 | zero=>
  intro q tk b hi hb hC hF;refine AE0 (Ah ?_);rw[Aw (by omega)];rw[CA (by omega)] at hb;have g5:(s0.bs++[[.ptr e 0],xs,Z5,[c],[f],b::y])[s0.bs.length+5]?=some (b::y):=EX rfl rfl;have g2:(s0.bs++[[.ptr e 0],xs,Z5,[c],[f],b::y])[s0.bs.length+2]?=some Z5:=EX rfl rfl;refine Am (APy (Ad g5 (by grind) (CL g2 (by grind) rfl (by decide) (AI _) (by simp only[G5,hb.Ax.ok,vH.2,Kr]) (.inl (AI _)) (Ad (Bf g2) (by grind) ?_))));obtain⟨b',c1,c2⟩:=hb.Ax.close ((s0.bs++[[.ptr e 0],xs,Z5,[c],[f],b::y]).set (s0.bs.length+2) (b::y)) s0.bs.length tk.length;obtain⟨ds,c3,c4⟩:=hy.I0 ((s0.bs++[[.ptr e 0],xs,Z5,[c],[f],b::y]).set (s0.bs.length+2) (b::y)) s0.bs.length tk.length;refine AKg (ds:=b'::ds) hs0 ?_ (by simp_all) (hP _ tk ⟨b',ds,rfl,c2,c4⟩ hC);simp
 | succ j D2=>
  intro q tk b hi hb hC hF;refine AE0 (Ah ?_);rw[Ap (by omega)];obtain⟨u,hu⟩:∃u,o[q]?=some u:=⟨_,Ak (by omega)⟩;have huB:=ho u (A2 hu);have hBu:B[u]?=some (B.getD u Z9):=by grind
  have hm:=hB _ (A2 hBu);have g0:(s0.bs++[[.ptr e 0],xs,Z5,[c],[f],b::y])[s0.bs.length]?=some [.ptr e 0]:=EX (j:=0) rfl rfl;have g5:(s0.bs++[[.ptr e 0],xs,Z5,[c],[f],b::y])[s0.bs.length+5]?=some (b::y):=EX rfl rfl;have ge:(s0.bs++[[.ptr e 0],xs,Z5,[c],[f],b::y])[e]?=some (d::dr):=by grind
  refine A4 (APz (BQ hc (row:=[.sc (.int .i64 u)]) (by omega) (by simp[*,AX]) rfl (by omega) (Ej (AK (AP g5) (AU g5 rfl (AU g0 rfl (Cy (AP ge) (AK (AP ge) (AU ge rfl (BQ hd (row:=Af (B.getD u Z9)) (by omega) (by grind[BE]) (Ac _) (by omega) (Cg (AD (bC hm.1 hm.2 (A5.BZ _)) ?_))))))))))));intro r hr;refine FO hr.G1 ⟨by decide,Iz hb rfl (by grind) λb' HN hb' hch=>?_⟩;have e1:((o.take q).map λx=>B.getD x Z9)++[B.getD u Z9]=(o.take (q+1)).map λx=>B.getD x Z9:=by grind[List.take_add_one]
  rw[e1] at hb';refine AK (AP g5) (DD g5 (by simp) hb'.Ax.cells (AI _) hb'.Ax.ok (.inl (AI _)) ?_);have e2:(s0.bs++[[.ptr e 0],xs,Z5,[c],[f],b::y]).set (s0.bs.length+5) (b'::y)=s0.bs++[[.ptr e 0],xs,Z5,[c],[f],b'::y]:=YP rfl;refine⟨AK (AP g5) (EO _ _),AU g5 rfl (HF hb),AP0 (BW (by omega) (by omega) ?_)⟩
  show bM R _ _ _ _ _ _ _ _ _ ⟨(s0.bs++[[.ptr e 0],xs,Z5,[c],[f],b::y]).set (s0.bs.length+5) (b'::y),HN⟩ _
  rw[e2];have:=D2 (q+1) HN b' (by omega) hb' (hC.side hch hF) (hF.Ow hch hC.1)
  grind
theorem bN (hn:Rj R) {e:Nat} {B:List Ty} (kR:B.length<=2 ^ 40) (hB:∀t∈B,size t<2 ^ 38/\aW t=true) {p:Ty} (hp:size p<2 ^ 38) (ht:HM B.length p=true) {x:AV} (hx:A5 (ren p) x) {s:AM} (hs:BM s) {d:AV} {dr:List AV} (he:s.bs[e]?=some (d::dr)) (hd:BF d (AW B)) {L:A8} (hro:L.ro=0) (EU:L.rt=0) :
  ∃v s',(∃ts',CP (Jf B p) v/\Ca (.AB []) (.AB []) s.ts ts'/\s'=⟨s.bs,ts'⟩)/\BD (env R) L 45 [.ptr e 0,x] s v s':=by
 refine m45 (by rfl) ?_;rw[hro,EU];have hel:=(BL.1 he).1;have hxx:=hx
 obtain⟨k,n,i,ts,hr⟩:∃k n i ts,ren p=.mk k n i ts:=by
  obtain⟨k,n,i,ts⟩:=ren p;simp
 rw[hr] at hx;obtain⟨a,rfl,ha⟩:=hx;have ZC:=Rn B.length p [];refine AP1 (Bw (cs:=[.ptr e 0]) rfl rfl (Bw (cs:=[AA k,SS n,AA i,a]) rfl (by simp[ha.ok]) (Bt (Bt (Bt ?_)))));simp only[Di,Dh,Cb,Bo,CO,B8,CQ,Nat.reduceAdd];have g4:(s.bs++[[.ptr e 0],[AA k,SS n,AA i,a],Z5,[.AB []],[.pv (.sc .nilFunc)]])[s.bs.length+4]?=some [.pv (.sc .nilFunc)]:=EX rfl rfl;refine DD g4 (by decide) rfl (AI _) rfl (.inl (AI _)) ?_;have e4:∀c,(s.bs++[[.ptr e 0],[AA k,SS n,AA i,a],Z5,[.AB []],[.pv (.sc .nilFunc)]]).set (s.bs.length+4) c=s.bs++[[.ptr e 0],[AA k,SS n,AA i,a],Z5,[.AB []],c]:=λ_=>YP rfl
 simp only[e4,List.set_cons_zero];generalize aY:s.bs++[[.ptr e 0],[AA k,SS n,AA i,a],Z5,[.AB []],[bG s.bs.length (s.bs.length+3) (s.bs.length+4)]]=bs;have Rb:bs.length=s.bs.length+5:=by grind
 have k0:bs[s.bs.length]?=some [.ptr e 0]:=by grind
 have k1:bs[s.bs.length+1]?=some [AA k,SS n,AA i,a]:=by rw[<-aY]; simp
 have k3:bs[s.bs.length+3]?=some [.AB []]:=by rw[<-aY]; simp
 have k4:bs[s.bs.length+4]?=some [bG s.bs.length (s.bs.length+3) (s.bs.length+4)]:=by grind
 have ke:bs[e]?=some (d::dr):=by grind
 have hok:BM ⟨bs,s.ts⟩:=by
  intro b hb;rw[<-aY] at hb;simp only[CG,A1,Ed,Ee] at hb
  show Ab bs.length b=true
  rw[Rb];rcases hb with hb|rfl|rfl|rfl|rfl|rfl
  .exact Bn (by omega) b (hs b hb)
  .simp[Ab,Ar]; omega
  .simp[Ab,Ar,ha.Ar]
  all_goals simp[*,Ab,Ar]
 refine AU k4 rfl (Ad k1 rfl ?_);obtain⟨v,s',⟨c',ts',ds,r1,r2,rfl,r4,rfl⟩,r6⟩:=bI hn (e:=e) (P:=s.bs.length) (A:=s.bs.length+3) (F:=s.bs.length+4) (N:=B.length) rfl kR p hp ht _ hxx [] ⟨bs,s.ts⟩ hok ⟨k0,k4,⟨d,dr,ke,hd⟩,by omega,by omega,by omega⟩ (by grind) (Cv (env R) 45 0 0 0) (.AB []) rfl rfl k3 (.inl rfl);rw[kU p [] ht] at r4
 have hds:ds.length=4/\ds.all A9=true:=by
  generalize (LA B.length p []).1=t at r4;obtain⟨k,n,i,ts⟩:=t;obtain⟨a,hy,ha⟩:=r4;cases hy;exact⟨rfl,by simp[ha.ok]⟩
 have AWq:∀f,(s.bs++[[.ptr e 0],[AA k,SS n,AA i,a],Z5,[c'],[f],Z5]).set (s.bs.length+5) (.AB []::ds)=s.bs++[[.ptr e 0],[AA k,SS n,AA i,a],Z5,[c'],[f],.AB []::ds]:=λ_=>YP rfl
 refine⟨_,_,r6,IC (cs:=.AB []::ds) ?_ ?_⟩
 .simp only[FJ,cellsOf,hds.1,hds.2,CO,B8,and_self,Nat.reduceAdd,Aa,GZ]
  match ds,hds.1 with
  | [d1,d2,d3,d4],_=>rfl
 .subst aY
  have e3:∀c,(s.bs++[[.ptr e 0],[AA k,SS n,AA i,a],Z5,[.AB []],[bG s.bs.length (s.bs.length+3) (s.bs.length+4)]]).set (s.bs.length+3) c=s.bs++[[.ptr e 0],[AA k,SS n,AA i,a],Z5,c,[bG s.bs.length (s.bs.length+3) (s.bs.length+4)]]:=λ_=>YP rfl
  simp only[e3];refine Bt ?_;simp only[Di,Dh,Cb,Bo,CO,B8,CQ,Nat.reduceAdd];have g5:(s.bs++[[.ptr e 0],[AA k,SS n,AA i,a],Z5,[c'],[bG s.bs.length (s.bs.length+3) (s.bs.length+4)],Z5])[s.bs.length+5]?=some Z5:=EX rfl rfl;refine CL g5 (by grind) rfl (by decide) (AI _) (by simp[*]) (.inl (AI _)) ?_;simp only[AWq];have g3:(s.bs++[[.ptr e 0],[AA k,SS n,AA i,a],Z5,[c'],[bG s.bs.length (s.bs.length+3) (s.bs.length+4)],.AB []::ds])[s.bs.length+3]?=some [c']:=EX rfl rfl;refine AU g3 rfl (Al (n:=(LA B.length p []).2.length) (by rw[r1.Ax.A7,BV,Bx]) ?_);simp only[B8] at ZC;exact bL hB (fe p [] ht (by simp)) (by omega) hs he hd r4 r1.Ax (λv ts' h1 h2=>⟨ts',h1,h2,rfl⟩) (LA B.length p []).2.length 0 ts' (.AB []) (by omega) (.inl rfl) ⟨r2.1,r2.2.1,.inl rfl⟩ (DL.AB _ _)
end
mutual
def fh (m:Int->Bool) (b:Ty):Ty->Int->Ty
 | .mk c n i ts,k=>bif c==7 then(bif m i&&k==0 then b else .mk c n i ts) else bif c==3 then .mk c n i (P0 m b ts k) else .mk c n i ts
def P0 (m:Int->Bool) (b:Ty):List Ty->Int->List Ty
 | [],_=>[]
 | t::l,k=>fh m b t k::P0 m b l (k-BT m t)
end
mutual
theorem kV (m:Int->Bool) (b:Ty):∀(t:Ty) (k:Int),k<0\/(BT m t:Int)<=k->fh m b t k=t
 | .mk c n i ts,k,h=>by
  rw[BT] at h;rw[fh];cases h7:c==7 with
  | true=>
   grind
  | false=>
   cases h3:c==3 with
   | true=>
    rw[h7,h3] at h;simp only[AN,AG] at h ⊢;rw[TS m b ts k h]
   | false=>rfl
theorem TS (m:Int->Bool) (b:Ty):∀(l:List Ty) (k:Int),k<0\/(CX m l:Int)<=k->P0 m b l k=l
 | [],_,_=>rfl
 | t::l,k,h=>by
  rw[CX] at h;rw[P0,kV m b t k (by omega),TS m b l (k-BT m t) (by omega)]
end
mutual
theorem vI (m:Int->Bool) (b:Ty):∀(t:Ty) (k:Nat),k<BT m t->fh m b t k=KA m b t k
 | .mk c n i ts,k,h=>by
  rw[BT] at h;rw[fh,KA];cases h7:c==7 with
  | true=>
   grind
  | false=>
   cases hc:c==3 with
   | true=>
    rw[h7,hc] at h;simp only[AN,AG] at h ⊢;rw[kW m b ts k h]
   | false=>rfl
theorem kW (m:Int->Bool) (b:Ty):∀(l:List Ty) (k:Nat),k<CX m l->P0 m b l k=Jj m b l k
 | [],_,h=>by rfl
 | t::l,k,h=>by
  rw[CX] at h;rw[P0,Jj]
  by_cases hk:k<BT m t
  .rw[Ap hk,AN,vI m b t k hk,TS m b l _ (by omega)]
  .have:(k:Int)-(BT m t:Nat)=((k-BT m t:Nat):Int):=by omega
   rw[Aw hk,AG,kV m b t k (by omega),this,kW m b l (k-BT m t) (by omega)]
end
section
variable {R:RT}
abbrev vJ (V:Nat):AV:=.func (.func 137) [] [.ptr V 0]
theorem vK {V:Nat} {v:Nat} {i:Int} {s:AM} (hs:BM s) (hV:s.bs[V]?=some [AA v]) (L:A8):BD (env R) L 137 [AA i,.ptr V 0] s (BB (i==(v:Int))) s:=by
 obtain⟨w,s',⟨rfl,rfl⟩,hc⟩:=AWr (R:=R) (L:=L) (s:=s) (t0:=AA i) (t1:=.ptr V 0) (Post:=λw s'=>w=BB (i==(v:Int))/\s'=s) (by rfl) (AKh (AU hV rfl (Au (by
  have:=Iy (rr:=L.rr 137) hs (m:=[]) (p:=.sc (.bool (i==(v:Int)))) (Post:=λw s'=>w=BB (i==(v:Int))/\s'=s) ⟨rfl,rfl⟩
  simp_all))))
 omega
def AKi (R:RT) (C V v:Nat) (b:Ty) (y:AV) (x:AV) (t:Ty) (k:Int) (s:AM):Prop:=∀(L:A8),L.ro=0->L.rt=0->s.bs[C]?=some [AA k]->s.bs[V]?=some [AA v] ->
 ∃w s',(∃ts' ds,w=.agg ds/\BJ (ren (fh (·==(v:Int)) b t k)) (.agg ds)/\Ca (.AB []) (.AB []) s.ts ts'/\s'=⟨s.bs.set C [AA (k-BT (·==(v:Int)) t)],ts'⟩)/\BD (env R) L 59 [x,.ptr C 0,vJ V,y] s w s'
theorem ACt {C V v:Nat} (hCV:C≠V) {b:Ty} {yc:List AV} {ts:List Ty} {a:AV} (ha:BF a (AW (B4 ts))) (hl:AZ ts<2 ^ 38) {k i k0:Int} {n:List UInt8} (hk7:k≠7) (US:-(2 ^ 40)-2 ^ 38<=k0-AZ ts) (hk2:k0<2 ^ 40) {s0:AM} (hs0:BM s0) (hC:C<s0.bs.length) (hV:s0.bs[V]?=some [AA v]) (hyl:yc.length=4)
  (ih:∀t∈ts,∀(k:Int) (s:AM),BM s->-(2 ^ 40)-2 ^ 38<=k-size t->k<2 ^ 40->AKi R C V v b (.agg yc) (.agg ((Af (ren t)).map .pv)) t k s)
  {rr:Bool} {Post:AV->AM->Prop}
  (hP:∀ts' ds,Ca (.AB []) (.AB []) s0.ts ts'->BJ (.mk k n i (B4 (P0 (·==(v:Int)) b ts k0))) (.agg ds)->Post (.agg ds) ⟨s0.bs.set C [AA (k0-CX (·==(v:Int)) ts)],ts'⟩) :
  ∀(j q:Nat) (kc:Int) (done:List Ty) (bs:List (List AV)) (tk:List (Nat×Nat)) (acc:AV),q+j=ts.length->done++P0 (·==(v:Int)) b (ts.drop q) kc=P0 (·==(v:Int)) b ts k0->done.length=q->kc-CX (·==(v:Int)) (ts.drop q)=k0-CX (·==(v:Int)) ts->k0-AZ ts<=kc-AZ (ts.drop q)->kc<2 ^ 40 ->
   BM ⟨bs,tk⟩->bs.take s0.bs.length=s0.bs.set C [AA kc]->bs[s0.bs.length+1]?=some yc->bs[s0.bs.length+2]?=some Z4->bs[s0.bs.length+3]?=some [AA k,SS n,AA i,acc] ->
   Dg 0 tk 25 acc (AW (B4 done))->Ca (.AB []) (.AB []) s0.ts tk->DL acc s0.ts ->
   kX R 0 0 0 (.ptr C 0) (vJ V) (.ptr (s0.bs.length+1) 0) (.ptr (s0.bs.length+2) 0) (.ptr (s0.bs.length+3) 0) a (AA ts.length) (AA q) ⟨bs,tk⟩ (QM rr s0.bs.length Post):=by
 have UT:=BP ts;intro j
 induction j with
 | zero=>
  intro q kc done bs tk acc hi hd hdl hk hks Lb hs hT h1 h2 h3 hb hch hfr;refine AE1 (Ah ?_);rw[Aw (by omega)];rw[Bu (by omega),P0,Gd] at hd;rw[Bu (by omega),CX] at hk;rw[hd] at hb;refine Am (AP2 (Ad h3 rfl (CL h2 rfl rfl (by decide) (AI _) (by simp[hb.Ax.ok]) (.inl (AI _)) (Ad (Bf h2) rfl ?_))));obtain⟨ds,c1,c2⟩:=BJ.I0 (v:=.mk k n i (B4 (P0 (·==(v:Int)) b ts k0))) (cs:=[AA k,SS n,AA i,acc]) ⟨acc,rfl,hb.Ax⟩ (bs.set (s0.bs.length+2) [AA k,SS n,AA i,acc]) s0.bs.length tk.length;have hkc:kc=k0-CX (·==(v:Int)) ts:=by omega
  rw[hkc] at hT;exact bF hs0 ((C6 (by omega)).trans hT) rfl c1 (hP tk ds hch c2)
 | succ j D2=>
  intro q kc done bs tk acc hi hd hdl hk hks Lb hs hT h1 h2 h3 hb hch hfr;refine AE1 (Ah ?_);rw[Ap (by omega)];obtain⟨t,ht⟩:∃t,ts[q]?=some t:=⟨_,Ak (by omega)⟩;have EU:(B4 ts)[q]?=some (ren t):=by simp[*,Bk]
  have V2:=A2 ht;have hrl:((Af (ren t)).map AV.pv).length=4:=by grind[Ac]
  have hro:=DK (ren t)
  have La:Ab (bs.length+1) ((Af (ren t)).map AV.pv)=true:=by
   obtain⟨k1,n1,i1,t1⟩:=ren t;rfl
  refine A4 (AP3 (BQ ha (row:=Af (ren t)) (by omega) (by simp[*,BE]) (Ac _) (by omega) (Cg (Bt ?_))));have oM:=ih t V2;have hdr:ts.drop q=t::ts.drop (q+1):=drop_cons ht;rw[hdr,P0] at hd;rw[hdr,CX] at hk;rw[hdr,AZ] at hks;have hcs:=Oh (·==(v:Int)) t;generalize (Af (ren t)).map AV.pv=row at hrl hro La oM;refine CL (Ay bs Z4) hrl rfl (by decide) (AI _) hro (.inl (AI _)) ?_;have e:(bs++[Z4]).set bs.length row=bs++[row]:=by simp
  rw[e];have l3:=(BL.1 h3).1;have ND:s0.bs.length<=bs.length:=by omega
  have fY:=(Dy ND row).trans hT;have hs':BM ⟨bs++[row],tk⟩:=BM.app (s:=⟨bs,tk⟩) hs La;have gC:(s0.bs.set C [AA kc])[C]?=some [AA kc]:=by rw[CS hC]
  have gV:(s0.bs.set C [AA kc])[V]?=some [AA v]:=by grind
  have lV:=(BL.1 hV).1;obtain⟨w,s',⟨ts',ds,rfl,r4,r2,rfl⟩,r6⟩:=oM kc ⟨bs++[row],tk⟩ hs' (by omega) Lb (Cv (env R) 59 0 0 0) rfl rfl (B5 fY gC) (B5 fY gV);have g1:=Av h1 row;have g2:=Av h2 row;have g3:=Av h3 row;have g3':((bs++[row]).set C [AA (kc-BT (·==(v:Int)) t)])[s0.bs.length+3]?=some [AA k,SS n,AA i,acc]:=BR g3 (by omega);refine AK (AP g3) (AU g3 rfl (Ad (Ay bs row) hrl (Ad g1 hyl ⟨_,_,r6,FO r4 ⟨by decide,Iz (r2.keep hb (λ_ h=>by cases h)) rfl ?_ ?_⟩⟩)))
  .grind[Bk]
  .intro b' HN hb' KQ
   have er:B4 done++[ren (fh (·==(v:Int)) b t kc)]=B4 (done++[fh (·==(v:Int)) b t kc]):=by simp[Bk]
   rw[er] at hb';refine AK (AP g3') (DD g3' (by simp) hb'.Ax.cells (AI _) hb'.Ax.ok (.inl (AI _)) ?_);refine⟨AK (AP g3') (EO _ _),AU g3' rfl (HF hb),AP4 (BW (by omega) (by omega) ?_)⟩;have oO:(((bs++[row]).set C [AA (kc-BT (·==(v:Int)) t)]).set (s0.bs.length+3) [AA k,SS n,AA i,b']).take s0.bs.length=s0.bs.set C [AA (kc-BT (·==(v:Int)) t)]:=by simp[*,C6,EE]
   have hs2:BM ⟨(bs++[row]).set C [AA (kc-BT (·==(v:Int)) t)],ts'⟩:=BM.set (s:=⟨bs++[row],tk⟩) hs' rfl _
   have fin:=D2 (q+1) (kc-BT (·==(v:Int)) t) (done++[fh (·==(v:Int)) b t kc]) _ HN b' (by omega) (by simp[*]) (by simp[*]) (by omega) (by omega) (by omega)
    (BM.set (s:=⟨(bs++[row]).set C [AA (kc-BT (·==(v:Int)) t)],ts'⟩) hs2 (by simp[Ab,Ar,hb'.Ax.Ar]) _) oO (BR (BR g1 (by omega)) (by omega)) (BR (BR g2 (by omega)) (by omega)) (Bf g3')
    hb' ((hch.trans r2).side KQ hfr) (hfr.Ow KQ (Bq hch.1 r2.1))
   assumption
end
theorem A5.agg {t:Ty} {x:AV} (h:A5 t x):∃cs,x=.agg cs:=by
 obtain⟨k,n,i,ts⟩:=t;obtain⟨a,rfl,_⟩:=h;simp
theorem AL.open {E:Env} {f:FuncId} {args args':List AV} {Post:AV->Prop} (hk:E.kind f=.rd) (hc:E.clone f=false) (hl:args.length=args'.length) (h1:AY [] 0 0 args=some args') (h2:AY [] 0 0 args'=some args') (h:AL E f args' Post):AL E f args Post:=by
 obtain⟨v,hp,hv⟩:=h;refine⟨v,hp,λL s=>?_⟩;obtain⟨n,hn⟩:=hv L s;refine⟨n,λm hm=>?_⟩;rw[<-hn m hm];cases m with
 | zero=>rfl
 | succ m=>
  grind[Dz,D5]
theorem A5.Hv {t:Ty} {x:AV} (h:A5 t x) (bs:List (List AV)) (n m:Nat):close bs n m x=some x:=by
 obtain⟨k,c,i,ts⟩:=t;obtain⟨a,rfl,ha⟩:=h;simp[ha.close]
section
variable {R:RT}
theorem TT (hn:Rj R) {N:Nat} (hN:N<=2 ^ 40) {k i:Int} {n:List UInt8} {ts:List Ty} (ht:HM N (.mk k n i ts)=true) {x:AV} (hx:BJ (ren (.mk k n i ts)) x) :
  AL (env R) 92 [x] λr=>r=bif k==7 then .tuple [AA i,BB true] else .tuple [AA 0,BB false]:=by
 obtain⟨x',h1,h2⟩:=hx.closed [] 0;exact AL.open (args':=[x']) (by rfl) (by rfl) rfl (by simp[*]) (by simp[AY,h2.Hv]) (KC hn hN ht h2)
theorem Ox (hn:Rj R) {N:Nat} (hN:N<=2 ^ 40) (v:Nat) (t:Ty) (inv:Bool) (hs:size t<2 ^ 60) (ht:HM N t=true) {x:AV} (hx:BJ (ren t) x):AL (env R) 62 [x,AA v,BB inv] λr=>r=BB (DW v inv t):=by
 obtain⟨x',h1,h2⟩:=hx.closed [] 0;exact AL.open (args':=[x',AA v,BB inv]) (by rfl) (by rfl) rfl (by simp[*]) (by simp[AY,h2.Hv,Tel.close]) (Qp hn hN v t inv hs ht x' h2)
theorem TU {rr:Bool} {C:Nat} {c:List AV} {t:Ty} {cs:List AV} {s0:AM} {bs:List (List AV)} {ts:List (Nat×Nat)} {Post:AV->AM->Prop} (h0:BM s0) (hT:bs.take s0.bs.length=s0.bs.set C c) (hc:Ab s0.bs.length c=true) (ht:BJ t (.agg cs)) (hP:∀ds,BJ t (.agg ds)->Post (.agg ds) ⟨s0.bs.set C c,ts⟩):QM rr s0.bs.length Post (.agg cs) ⟨bs,ts⟩:=by
 obtain⟨ds,c1,c2⟩:=ht.I0 bs s0.bs.length ts.length
 grind[bF]
mutual
theorem kY (hn:Rj R) {N:Nat} (kR:N<=2 ^ 40) {C V v:Nat} (hCV:C≠V) {b:Ty} {y:AV} (hy:A5 (ren b) y):∀(t:Ty),size t<2 ^ 38->HM N t=true->∀(x:AV),BJ (ren t) x->∀(k:Int) (s:AM),BM s->-(2 ^ 40)-2 ^ 38<=k-size t->k<2 ^ 40->AKi R C V v b y x t k s
 | .mk k n i ts,h,ht,x,hx,kc,s,hs,US,hk2,L,hro,EU,hC,hV=>by
  have lC:=(BL.1 hC).1;have UT:=BP ts;have bJ:=TT hn kR ht hx;rw[HM] at ht;simp only[size] at h US;obtain⟨yc,rfl⟩:=hy.agg;have hy':=hy;obtain⟨vH,hyo,hyi,_⟩:=hy'.cells;refine m59 (by simp[Bi,F1]) ?_;rw[hro,EU];have same:s.bs.set C [AA kc]=s.bs:=by grind[List.set_getElem_self]
  have start:∀(k' i':Int) (nm:List UInt8) (a:AV) (rows:List (List PV)) (Post:AV->AM->Prop),BF a rows->AL (env R) 92 [.agg [AA k',SS nm,AA i',a]] (λr=>r=bif k==7 then .tuple [AA i,BB true] else .tuple [AA 0,BB false]) ->
    (∀bs,bs.take s.bs.length=s.bs.set C [AA kc]->BM ⟨bs,s.ts⟩->bs.length=s.bs.length+3->bs[s.bs.length]?=some [AA k',SS nm,AA i',a]->bs[s.bs.length+1]?=some yc->bs[s.bs.length+2]?=some Z4 ->
     AO (BB (k==7)) (
      E3 (env R) (Cv (env R) 59 0 0 0) (vJ V) [AA (bif k==7 then i else 0)] ⟨bs,s.ts⟩ λa22 YQ=>
      AO a22 (
      DT YQ (.ptr C 0) λa24=>
      D6 (env R) YQ none a24 λa25=>
      CY .i64 .sub a25 (AA 1) λa26=>
      DT YQ (.ptr C 0) λa27=>
      CJ (Cv (env R) 59 0 0 0) YQ 1 a27 a26 λTQ=>
      DT TQ (.ptr C 0) λa29=>
      D6 (env R) TQ none a29 λa30=>
      CY .i64 .eql a30 (AA (-1)) λa31=>
      AO a31 (
      D6 (env R) TQ (some 4) (.ptr (s.bs.length+1) 0) λa32=>
      CJ (Cv (env R) 59 0 0 0) TQ 4 (.ptr (s.bs.length+2) 0) a32 λoN=>
      D6 (env R) oN (some 4) (.ptr (s.bs.length+2) 0) λr=>
      QM (L.rr 59) s.bs.length Post r oN) (
      V4 R 0 0 0 (.ptr s.bs.length 0) (.ptr (s.bs.length+2) 0) TQ (QM (L.rr 59) s.bs.length Post))) (
      V4 R 0 0 0 (.ptr s.bs.length 0) (.ptr (s.bs.length+2) 0) YQ (QM (L.rr 59) s.bs.length Post))) (
      vL R 0 0 0 (.ptr C 0) (vJ V) (.ptr s.bs.length 0) (.ptr (s.bs.length+1) 0) (.ptr (s.bs.length+2) 0) ⟨bs,s.ts⟩ (QM (L.rr 59) s.bs.length Post))) ->
    vM R 0 0 0 (.agg [AA k',SS nm,AA i',a]) (.ptr C 0) (vJ V) (.agg yc) s (QM (L.rr 59) s.bs.length Post):=by
   intro k' i' nm a rows Post ha hv hh;refine AP6 (Bw (cs:=[AA k',SS nm,AA i',a]) rfl (by simp[ha.ok]) (Bw (cs:=yc) rfl hyo (Bt ?_)));simp only[Di,Dh,Cb,Bo,CO,B8,CQ,Nat.reduceAdd];have g0:(s.bs++[[AA k',SS nm,AA i',a],yc,Z4])[s.bs.length]?=some [AA k',SS nm,AA i',a]:=EX (j:=0) rfl rfl;refine Ad g0 rfl (AD hv ?_);rintro _ rfl
   have:=hh (s.bs++[[AA k',SS nm,AA i',a],yc,Z4]) (by grind) (by
    intro d hd;simp only[CG,A1,Ed,Ee] at hd
    show Ab (s.bs++_).length d=true
    rcases hd with hd|rfl|rfl|rfl
    .exact Bn (by simp) d (hs d hd)
    .simp[Ab,Ar,ha.Ar]
    .grind[Bn]
    rfl) (by simp) g0 (EX rfl rfl) (EX rfl rfl)
   cases hb7:k==7 with
   | true=>rw[hb7] at this; assumption
   | false=>simp_all
  have back:∀(k' i':Int) (nm:List UInt8) (a:AV) (u:List Ty) (kd:Int) (bs:List (List AV)) (Post:AV->AM->Prop),BF a (AW u)->bs.take s.bs.length=s.bs.set C [AA kd]->bs[s.bs.length]?=some [AA k',SS nm,AA i',a]->bs[s.bs.length+2]?=some Z4 ->
    (∀ds,BJ (.mk k' nm i' u) (.agg ds)->Post (.agg ds) ⟨s.bs.set C [AA kd],s.ts⟩)->V4 R 0 0 0 (.ptr s.bs.length 0) (.ptr (s.bs.length+2) 0) ⟨bs,s.ts⟩ (QM (L.rr 59) s.bs.length Post):=by
   intro k' i' nm a u kd bs Post ha hT g0 g2 hP;refine AP7 (Ad g0 rfl (CL g2 rfl rfl (by decide) (AI _) (by simp[ha.ok]) (.inl (AI _)) (Ad (Bf g2) rfl ?_)));exact TU hs ((C6 (by omega)).trans hT) rfl (t:=.mk k' nm i' u) ⟨a,rfl,ha⟩ hP
  by_cases h7:k=7
  .subst h7
   simp only[C7,AN,AE,Jl,DU] at ht;obtain⟨hts,hi0,hiN⟩:=ht;subst hts;have er:ren (.mk 7 n i [])=.mk 2 (36::G0 i.toNat) 0 []:=rfl;rw[er] at hx;obtain⟨a,rfl,ha⟩:=hx;have vN:fh (·==(v:Int)) b (.mk 7 n i []) kc=bif (i==(v:Int))&&kc==0 then b else .mk 7 n i []:=by rfl
   have vO:BT (·==(v:Int)) (.mk 7 n i [])=bif i==(v:Int) then 1 else 0:=by rfl
   rw[vN,vO];refine start 2 0 (36::G0 i.toNat) a _ _ ha bJ λbs hT hok hl g0 g1 g2=>?_
   have gV:bs[V]?=some [AA v]:=B5 hT (by grind);have gC:bs[C]?=some [AA kc]:=B5 hT (by grind);refine A4 ⟨_,_,vK (i:=i) hok gV _,?_⟩;cases hiv:i==(v:Int) with
   | false=>
    grind[Am,Ca.refl]
   | true=>
    simp only[E6,AN];refine A4 (Cy (AP gC) (AU gC rfl (JV (by omega) (by omega) (Cy (AP gC) (DD gC (by simp) rfl (AI _) rfl (.inl (AI _)) ?_)))));have gC':(bs.set C [AA (kc-1)])[C]?=some [AA (kc-1)]:=by rw[CS (by omega)]
    have fY:(bs.set C [AA (kc-1)]).take s.bs.length=s.bs.set C [AA (kc-1)]:=by simp[*,EE]
    refine Cy (AP gC') (AU gC' rfl (Au ?_));have e0:(kc-1==-1)=(kc==0):=by grind
    rw[e0];cases qY:kc==0 with
    | true=>
     simp only[AN];refine A4 (Ad (BR g1 (by omega)) vH (CL (BR g2 (by omega)) vH rfl (by decide) (AI _) hyo (.inl (AI _)) (Ad (Bf (BR g2 (by omega))) vH ?_)));refine TU hs ((C6 (by omega)).trans fY) rfl hy'.G1 λds hds=>⟨s.ts,ds,rfl,hds,Ca.refl _ _,rfl⟩
    | false=>
     simp only[AG];refine Am (back 2 0 _ a [] (kc-1) _ _ ha fY (BR g0 (by omega)) (BR g2 (by omega)) λds hds=>⟨s.ts,ds,rfl,by grind,Ca.refl _ _,rfl⟩)
  .have b7:(k==7)=false:=by grind
   have er:=HG k n i ts h7;rw[er] at hx;rw[b7] at ht;simp only[AG,AE] at ht;obtain⟨a,rfl,ha⟩:=hx;refine start k i n a _ _ ha bJ λbs hT hok hl g0 g1 g2=>?_
   rw[b7];refine Am (AP9 (AK (AP g0) (AU g0 rfl (FE ?_))));cases h3:k==3 with
   | false=>
    have hne:(k != 3)=true:=by grind
    rw[hne];have vN:fh (·==(v:Int)) b (.mk k n i ts) kc=.mk k n i ts:=by grind[fh]
    have vO:BT (·==(v:Int)) (.mk k n i ts)=0:=by grind[BT]
    rw[vN,vO];have:=back k i n a (B4 ts) kc bs (λw s'=>∃ts' ds,w=.agg ds/\BJ (ren (.mk k n i ts)) (.agg ds)/\Ca (.AB []) (.AB []) s.ts ts'/\s'=⟨s.bs.set C [AA (kc-(0:Nat))],ts'⟩) ha hT g0 g2 λds hds=>⟨s.ts,ds,rfl,by grind,Ca.refl _ _,by simp⟩
    exact A4 (Ad g0 rfl (CL g2 rfl rfl (by decide) (AI _) (by simp[ha.ok]) (.inl (AI _)) (Ad (Bf g2) rfl (TU hs ((C6 (by omega)).trans hT) rfl (t:=.mk k n i (B4 ts)) ⟨a,rfl,ha⟩ λds hds=>⟨s.ts,ds,rfl,by grind,Ca.refl _ _,by simp⟩))))
   | true=>
    have hne:(k != 3)=false:=by grind
    rw[hne];have vN:fh (·==(v:Int)) b (.mk k n i ts) kc=.mk k n i (P0 (·==(v:Int)) b ts kc):=by grind[fh]
    have vO:BT (·==(v:Int)) (.mk k n i ts)=CX (·==(v:Int)) ts:=by grind[BT]
    rw[vN,vO,HG k n i _ h7];refine Am (AQA (Ad g0 rfl (Bt ?_)));simp only[hl];have gl:(bs++[Z4])[s.bs.length+3]?=some Z4:=by grind
    refine CL gl rfl rfl (by decide) (AI _) (by simp[ha.ok]) (.inl (AI _)) ?_;have gl2:((bs++[Z4]).set (s.bs.length+3) [AA k,SS n,AA i,a])[s.bs.length+3]?=some [AA k,SS n,AA i,a]:=Bf gl;refine AK (AP gl2) (DD (off:=3) gl2 (Aa 4) rfl (AI _) rfl (.inl (AI _)) ?_);have eb:((bs++[Z4]).set (s.bs.length+3) [AA k,SS n,AA i,a]).set (s.bs.length+3) ([AA k,SS n,AA i,a].set 3 (.AB []))=bs++[[AA k,SS n,AA i,.AB []]]:=by grind
    show A0 ⟨((bs++[Z4]).set (s.bs.length+3) [AA k,SS n,AA i,a]).set (s.bs.length+3) ([AA k,SS n,AA i,a].set 3 (.AB [])),s.ts⟩ _ _ _
    rw[eb];have q0:=Av g0 [AA k,SS n,AA i,.AB []];refine AK (AP q0) (AU q0 rfl (Al (n:=ts.length) (by rw[ha.A7,AR,Bk,Bx]) ?_))
    exact ACt (C:=C) (V:=V) hCV (yc:=yc) ha (by omega) h7 (k0:=kc) (by omega) hk2 hs lC hV vH (λt hm k s hs h1 h2=>bO hn kR hCV hy' ts (by omega) ht.2.2 t hm k s hs h1 h2) (λts' ds h1 h2=>⟨ts',ds,rfl,h2,h1,rfl⟩) ts.length 0 kc [] _ s.ts (.AB []) (by omega) (by simp) rfl (by simp) (by simp) hk2
     (BM.app (s:=⟨bs,s.ts⟩) hok (by rfl)) ((Dy (by omega) _).trans hT) (Av g1 _) (Av g2 _) (by grind) (.inl rfl) (Ca.refl _ _) (DL.AB _ _)
theorem bO (hn:Rj R) {N:Nat} (kR:N<=2 ^ 40) {C V v:Nat} (hCV:C≠V) {b:Ty} {y:AV} (hy:A5 (ren b) y):∀(ts:List Ty),AZ ts<2 ^ 38->IY N ts=true->∀t∈ts,∀(k:Int) (s:AM),BM s->-(2 ^ 40)-2 ^ 38<=k-size t->k<2 ^ 40->AKi R C V v b y (.agg ((Af (ren t)).map .pv)) t k s
 | [],_,_,_,h=>by cases h
 | u::l,h,ht,t,hm=>by
  simp only[AZ] at h;simp only[IY,AE] at ht;rcases A1.1 hm with h' | h'
  .rw[h']
   exact kY hn kR hCV hy u (by omega) ht.1 _ (A5.BZ _).G1
  .exact bO hn kR hCV hy l (by omega) ht.2 t h'
end
end
def Res (v:AV) (r:Option (List Ty)):Prop:=match r with
 | none=>v=.tuple [.AB [],BB false]
 | some l=>∃a,v=.tuple [a,BB true]/\BF a (AW (B4 l))
abbrev AQ (Az:Nat):Nat->Bool:=λn=>decide (Az<n)
theorem Ev {rr:Bool} {e Az:Nat} {v d':AV} {r:Option (List Ty)} {s0:AM} {bs:List (List AV)} {ts:List (Nat×Nat)} {Post:AV->AM->Prop} (h0:BM s0) (hT:bs.take s0.bs.length=s0.bs.set e [d',AA Az]) (hd:Ar s0.bs.length d'=true) (hr:Res v r) (hP:∀w,Res w r->Post w ⟨s0.bs.set e [d',AA Az],ts⟩):QM rr s0.bs.length Post v ⟨bs,ts⟩:=by
 have hok:((bs.take s0.bs.length).all (Ab s0.bs.length))=true:=by
  have:=BM.set h0 (c:=[d',AA Az]) (by grind[Ab,Ar]) ts (j:=e);rw[Cz];intro b hb;have:=this b (by grind)
  grind
 cases r with
 | none=>
  cases hr;refine JW (ds:=[.AB [],BB false]) hok rfl ?_
  show Post _ ⟨bs.take _,ts⟩
  rw[hT];exact hP _ rfl
 | some l=>
  obtain⟨a,rfl,ha⟩:=hr;obtain⟨a',h1,h2⟩:=ha.close bs s0.bs.length ts.length;refine JW (ds:=[a',BB true]) hok (by simp[*]) ?_
  show Post _ ⟨bs.take _,ts⟩
  rw[hT];exact hP _ ⟨a',rfl,h2⟩
theorem BJ.cells {t:Ty} {y:List AV} (h:BJ t (.agg y)):y.length=4/\y.all A9=true/\∀n,Ab n y=true:=by
 obtain⟨k,n,i,ts⟩:=t;obtain⟨a,hy,ha⟩:=h;cases hy;exact⟨rfl,by simp[ha.ok],λn=>by simp[Ab,Ar,ha.Ar]⟩
theorem BJ.agg {t:Ty} {x:AV} (h:BJ t x):∃cs,x=.agg cs:=by
 obtain⟨k,n,i,ts⟩:=t;obtain⟨a,rfl,_⟩:=h;simp
mutual
theorem Md (N:Nat):∀t:Ty,HM N t=Eu (λi=>decide (0<=i)&&decide (i<N)) t
 | .mk k n i ts=>by rw[HM,Eu,bP N ts]
theorem bP (N:Nat):∀l:List Ty,IY N l=D1 (λi=>decide (0<=i)&&decide (i<N)) l
 | []=>rfl
 | t::l=>by rw[IY,D1,Md N t,bP N l]
end
theorem Ew {L:A8} {s:AM} {a y:AV} {es l:List Ty} {K:AV->AM->Prop} (ha:Dg 0 s.ts 25 a (AW es)) (EU:L.rt=0) (hl:es.length+l.length<2 ^ 39) (hy:BF y (AW l)) (h:∀a' ts',Dg 0 ts' 25 a' (AW (es++l))->Ca a a' s.ts ts'->K a' ⟨s.bs,ts'⟩) :
  Ct false L s 25 4 56 a y K:=by
 have h1:=AR es;have h2:=AR l;refine Pz (m:=AW l) ha EU (λr hr=>Gt hr) (λr hr=>Gt hr) (by omega) (Db hy λr hr=>Gt hr) ?_ (by omega) (by omega) λa' ts' h3 h4=>h a' ts' (by grind[FF]) h4
 grind[H7,DK]
theorem bQ {α:Type} {Az:Nat} {g:α->List Ty->Fm}:∀(l:List α) (out B r:List Ty),out.length<=Az->(CZ (AQ Az) g l out B).1=some r->r.length<=Az
 | [],out,B,r,ho,h=>by grind[CZ]
 | a::l,out,B,r,ho,h=>by
  rw[CZ] at h;rcases hr:g a B with ⟨_|s,B1⟩
  .grind
  .rw[hr] at h
   simp only at h;cases hb:AQ Az (out++s).length with
   | true=>grind
   | false=>
    rw[hb] at h;exact bQ l (out++s) B1 r (by grind) h
theorem P1 {Az:Nat} {ex:List Ty->Fm} {v:Nat}:∀(f:Nat) (t:Ty) (B r:List Ty),(CN (AQ Az) ex v f t B).1=some r->r.length<=Az+1
 | 0,t,B,r,h=>by grind[CN]
 | f+1,t,B,r,h=>by
  rw[CN] at h;cases ho:DW v false t with
  | false=>grind
  | true=>
   rw[ho] at h;simp only[AN] at h;rcases he:ex B with ⟨_|cs,B1⟩
   .grind
   .rw[he] at h
    have:=bQ cs [] B1 r (by simp) h;omega
section
variable {R:RT}
def Ur (R:RT) (e Az f:Nat) (args:List AV) (o:Fm) (B:List Ty) (s:AM):Prop:=∀(L:A8) (d:AV),L.ro=0->L.rt=0->s.bs[e]?=some [d,AA Az]->Dg 0 s.ts 25 d (AW B) ->
 ∃v s',(∃d' ts',Res v o.1/\Dg 0 ts' 25 d' (AW o.2)/\Ca d d' s.ts ts'/\s'=⟨s.bs.set e [d',AA Az],ts'⟩)/\BD (env R) L f (.ptr e 0::args) s v s'
end
mutual
theorem Gu:∀t:Ty,(Ai t).length<=size t
 | .mk k n i ts=>by
  have:=NY ts
  grind[Ai,size]
theorem NY:∀l:List Ty,(Bp l).length<=AZ l
 | []=>by simp[Bp]
 | t::l=>by
  have:=Gu t;have:=NY l
  grind[Bp,AZ]
end
mutual
theorem bR (N:Nat):∀(t:Ty) (o:List Nat),size (LA N t o).1<=size t
 | .mk k n i ts,o=>by
  have:=V5 N ts o
  grind[LA,size,AZ]
theorem V5 (N:Nat):∀(l:List Ty) (o:List Nat),AZ (Gh N l o).1<=AZ l
 | [],_=>by grind[Gh]
 | t::l,o=>by
  have h1:=bR N t o;have h2:=V5 N l (LA N t o).2
  grind[Gh,AZ]
end
theorem vQ (B:List Ty) (p:Ty):size (Jf B p).body<=size p/\(Jf B p).bounds.length<=size p:=by grind[bR,Rn,Jf]
def Qr (b:Br):Bool:=decide (b.bounds.length<=6)&&decide ((Ai b.body).length<=3)
def Dp (o:List Br×Int):Bool:=o.2==0&&decide (o.1.length<=4)
def xP:Nat->Ty->List Br×Int
 | 0,_=>([],2)
 | f+1,t=>bif !(verdict t==0)||!(Co 0 t) then([],2) else match A3 (AQ 32) (depth t) t [] with
  | (none,_)=>([],4)
  | (some ps,B)=>bif (ps.map (Jf B)).all Qr&&(((ps.map (Jf B)).flatMap Br.bounds).all λb=>Dp (xP f b)) then(ps.map (Jf B),0) else([],4)
def xR:Nat->Ty->List Br×Int
 | 0,_=>([],2)
 | f+1,t=>bif !(verdict t==0)||!(Co 0 t) then([],2) else match DM (AQ 32) (depth t) t with
  | none=>([],4)
  | some l=>bif (l.map FN).all λb=>Qr b&&b.bounds.all λb=>Dp (xR f b) then(l.map FN,0) else([],4)
theorem Hh {t:Ty} (h:verdict t=0):valid t=true/\size t<=200/\depth t<=12:=by grind[verdict]
mutual
def EJ (P:Ty->Prop):Ty->Prop
 | .mk k _ _ ts=>(k=6->∀b body,ts=[b,body]->P b)/\(k=3\/k=4\/k=6->L8 P ts)
def L8 (P:Ty->Prop):List Ty->Prop
 | []=>True
 | t::l=>EJ P t/\L8 P l
end
theorem V6 {P:Ty->Prop}:∀{l:List Ty} {t:Ty},L8 P l->t∈l->EJ P t
 | a::l,t,h,ht=>by
  rw[L8] at h;rcases A1.1 ht with rfl|ht
  .grind
  .exact V6 h.2 ht
mutual
theorem V7 {P Q:Ty->Prop} (h:∀b,P b->Q b):∀t:Ty,EJ P t->EJ Q t
 | .mk k n i ts,ht=>by
  rw[EJ] at ht ⊢;exact⟨λh6 b body e=>h b (ht.1 h6 b body e),λhk=>TV h ts (ht.2 hk)⟩
theorem TV {P Q:Ty->Prop} (h:∀b,P b->Q b):∀l:List Ty,L8 P l->L8 Q l
 | [],_=>trivial
 | t::l,hl=>by
  rw[L8] at hl ⊢;exact⟨V7 h t hl.1,TV h l hl.2⟩
end
def Gq (P:Ty->Prop) (ex:List Ty->Fm):Prop:=∀B,(∀b∈B,P b)->∀b∈(ex B).2,P b
section
variable {BA:Nat->Bool} {P:Ty->Prop}
theorem P3 {α:Type} {g:α->List Ty->Fm} (hg:∀a,Gq P (g a)):∀(l:List α) (out:List Ty),Gq P (CZ BA g l out)
 | [],out,B,h=>h
 | a::l,out,B,h=>by
  have h1:=hg a B h;rw[CZ];rcases hr:g a B with ⟨_|r,B1⟩
  .grind
  .rw[hr] at h1
   simp only;cases BA (out++r).length with
   | true=>grind
   | false=>exact P3 hg l _ B1 h1
theorem TW {ex:List Ty->Fm} (hx:Gq P ex) (v:Nat):∀(f:Nat) (t:Ty),Gq P (CN BA ex v f t)
 | 0,_,B,h=>h
 | f+1,t,B,h=>by
  have h1:=hx B h;rw[CN];cases DW v false t with
  | false=>exact h
  | true=>
   simp only[AN];rcases hr:ex B with ⟨_|r,B1⟩
   .grind
   .rw[hr] at h1
    exact P3 (λc=>TW hx v f _) r [] B1 h1
theorem fk {ex:List Ty->Fm} (hx:Gq P ex) (v:Nat) (t:Ty):Gq P (Bv BA ex v t):=by
 intro B h;rw[Bv];cases DW v true t with
 | true=>exact h
 | false=>exact TW hx v _ t B h
theorem P4 {ex:Ty->List Ty->Fm}:∀(l out:List Ty) (ok:Bool),(∀t∈l,Gq P (ex t))->∀B,(∀b∈B,P b)->∀b∈(Gz ex l out ok B).2,P b
 | [],_,_,_,_,h=>h
 | t::l,out,ok,hx,B,h=>by
  have h1:=hx t (by simp) B h;rw[Gz];rcases hr:ex t B with ⟨_|r,B1⟩
  .rw[hr] at h1
   exact P4 l out false (λa ha=>hx a (by grind)) B1 h1
  .rw[hr] at h1
   exact P4 l _ ok (λa ha=>hx a (by grind)) B1 h1
theorem V8 {ex:Ty->List Ty->Fm}:∀(l:List Ty) (out:List (List Ty)),(∀t∈l,Gq P (ex t))->∀B,(∀b∈B,P b)->∀b∈(Er ex l out B).2,P b
 | [],_,_,_,h=>h
 | t::l,out,hx,B,h=>by
  have h1:=hx t (by simp) B h;rw[Er];rcases hr:ex t B with ⟨_|r,B1⟩
  .grind
  .rw[hr] at h1
   exact V8 l _ (λa ha=>hx a (by grind)) B1 h1
theorem V9:∀(f:Nat) (t:Ty) (σ:List Nat),valid t=true->Co σ.length t=true->EJ P t->Gq P (A3 BA f (inst σ 0 t))
 | 0,_,_,_,_,_=>λB h=>h
 | f+1,.mk k n i ts,σ,hv,hc,ha=>by
  intro B h;have ih:=λt σ=>V9 f t σ
  have PX:=hv;simp only[valid,AE] at hv;rw[EJ] at ha
  have mem:∀(hk:k≠6) (bS:k≠5),(k=3\/k=4\/k=6)->∀t∈ts.map (inst σ 0),Gq P (A3 BA f t):=by
   intro hk bS Lb t ht;obtain⟨t0,ZG,rfl⟩:=C0.1 ht;exact ih t0 σ (Ce hv.2 ZG) (He hk (D8 hc bS) ZG) (V6 (ha.2 Lb) ZG)
  rcases Dq σ 0 PX with ⟨rfl,rfl,rfl,_,_,⟨v,h2,h3⟩|h3⟩|⟨b5,h3⟩
  .grind[A3]
  .grind[A3]
  .rw[h3,A3]
   cases qY:k==0||k==2||k==7 with
   | true=>exact h
   | false=>
    simp only[AG];cases h4:k==4 with
    | true=>
     have:k=4:=by grind
     subst this;simp only[AN];rw[Et (k:=4) (by decide)];have:=P4 (ts.map (inst σ 0)) [] true (mem (by decide) (by decide) (by simp)) B h;omega
    | false=>
     simp only[AG];cases Lb:k==3 with
     | true=>
      have:k=3:=by grind
      subst this;simp only[AN];rw[Et (k:=3) (by decide)];have:=V8 (ts.map (inst σ 0)) [] (mem (by decide) (by decide) (by simp)) B h;generalize Er (A3 BA f) (ts.map (inst σ 0)) [] B=o at this ⊢;rcases o with ⟨_|ls,B1⟩
      .omega
      .simp only
       cases ls.any List.isEmpty with
       | true=>grind
       | false=>
        grind
     | false=>
      simp only[AG];cases fL:k==6 with
      | false=>exact h
      | true=>
       have:k=6:=by grind
       subst this;rcases M4 hv.1 with h' | h' | h' | h' | h' | h' | ⟨_,rfl,rfl,b,body,rfl,hcb⟩
       iterate 6 exact absurd h' (by simp)
       have hPb:=ha.1 rfl b body rfl;have Q1:=ha.2 (by simp);rw[L8,L8] at Q1;simp only[BS,AE] at hv;obtain⟨_,Nu,Us,_⟩:=hv;have eb:inst σ (0+Ea 6 0) b=b:=Iv σ b 0 Nu hcb
       have hcy:Co (1+σ.length) body=true:=by
        have:=D8 hc (by decide);simp only[D7,AE] at this;have h2:=this.2.1;rw[MQ];exact h2
       have Q6:sub B.length 0 (inst σ 1 body)=inst (B.length::σ) 0 body:=JR B.length σ body 0 Us (by omega)
       have hkb:Gq P (A3 BA f b):=by
        have:=ih b [] Nu hcb Q1.1
        grind[EP]
       have hky:=ih body (B.length::σ) Us (by grind) Q1.2.1;simp only[AN,Da,eb,dU];have e1:inst σ (0+Ea 6 (0+1)) body=inst σ 1 body:=rfl;rw[e1,Q6];have h1:=hky (B++[b]) (by grind);generalize A3 BA f (inst (B.length::σ) 0 body) (B++[b])=o at h1 ⊢;rcases o with ⟨_|l,B1⟩
       .omega
       .simp only at h1 ⊢
        have h2:=P3 (BA:=BA) (g:=Bv BA (A3 BA f b) B.length) (λa=>fk hkb B.length a) l [] B1 h1
        grind
end
section
variable {R:RT}
theorem ACu (hn:Rj R) {e Az v M S f:Nat} {B0:List Ty} {q:Int->Bool} (hq:∀i,q i=true->0<=i/\i<2 ^ 40) (JX:Az<2 ^ 20) (hS:S<2 ^ 37) {ex:List Ty->Fm} (fq:∀B,B<+:(ex B).2)
  {t:Ty} (htq:Eu q t=true) (S0:0<BT (·==(v:Int)) t) (htS:size t<=S) {xc:List AV} (hx:BJ (ren t) (.agg xc)) {cs:List Ty} (Be:cs.length<=Az) {a:AV} (ha:BF a (AW (B4 cs)))
  (ih:∀c∈cs,∀(B:List Ty),B0<+:B->(CN (AQ Az) ex v f (KA (·==(v:Int)) c t 0) B).2.length<=M->∀x,BJ (ren (KA (·==(v:Int)) c t 0)) x->∀s,BM s->Ur R e Az 114 [x,AA v] (CN (AQ Az) ex v f (KA (·==(v:Int)) c t 0) B) B s)
  {s0:AM} (hs0:BM s0) (he:e<s0.bs.length) {d0:AV} {o:Fm} (oQ:o.2.length<=M) {rr:Bool} {Post:AV->AM->Prop}
  (hP:∀w d' ts',Res w o.1->Dg 0 ts' 25 d' (AW o.2)->Ca d0 d' s0.ts ts'->Post w ⟨s0.bs.set e [d',AA Az],ts'⟩) :
  ∀(j p:Nat) (out Bc:List Ty) (bs:List (List AV)) (tk:List (Nat×Nat)) (d acc:AV),p+j=cs.length->CZ (AQ Az) (λc B=>CN (AQ Az) ex v f (KA (·==(v:Int)) c t 0) B) (cs.drop p) out Bc=o->B0<+:Bc->out.length<=Az ->
   BM ⟨bs,tk⟩->bs.take s0.bs.length=s0.bs.set e [d,AA Az]->bs[s0.bs.length]?=some xc->bs[s0.bs.length+1]?=some [AA v] ->
   Dg 0 tk 25 d (AW Bc)->Dg 0 tk 25 acc (AW (B4 out))->Ca d0 d s0.ts tk->DL acc s0.ts->Q8 d acc ->
   YR R 0 0 0 (.ptr e 0) (.ptr s0.bs.length 0) (.ptr (s0.bs.length+1) 0) acc a (AA cs.length) (AA p) ⟨bs,tk⟩ (QM rr s0.bs.length Post):=by
 obtain⟨hx4,hxo,hxi⟩:=hx.cells;intro j
 induction j with
 | zero=>
  intro p out Bc bs tk d acc hi D9 hlo hout hs hT h0 h1 hd hacc hch hfr Ji;refine vR (Ah ?_);rw[Aw (by omega)];rw[Bu (by omega),CZ] at D9;subst D9;exact Am (AKj (Ev hs0 hT (hd.Ax.Ar _) (r:=some out) ⟨acc,rfl,hacc.Ax⟩ λw hw=>hP w d tk hw hd hch))
 | succ j D2=>
  intro p out Bc bs tk d acc hi D9 hlo hout hs hT h0 h1 hd hacc hch hfr Ji;refine vR (Ah ?_);rw[Ap (by omega)];obtain⟨c,hc⟩:∃c,cs[p]?=some c:=⟨_,Ak (by omega)⟩;have hrc:(B4 cs)[p]?=some (ren c):=by grind[Bk]
  have Nr:=A2 hc;have hrl:((Af (ren c)).map AV.pv).length=4:=by grind[Ac]
  have hro:=DK (ren c)
  have La:Ab (bs.length+1) ((Af (ren c)).map AV.pv)=true:=by
   obtain⟨k1,n1,i1,t1⟩:=ren c;rfl
  have EA:=A5.BZ (ren c);refine A4 (AKk (BQ ha (row:=Af (ren c)) (by omega) (by grind[BE]) (Ac _) (by omega) (Cg (Bt ?_))));have hdr:cs.drop p=c::cs.drop (p+1):=drop_cons hc;rw[hdr,CZ] at D9;generalize (Af (ren c)).map AV.pv=row at hrl hro La EA;refine CL (Ay bs Z4) hrl rfl (by decide) (AI _) hro (.inl (AI _)) ?_;have e1:(bs++[Z4]).set bs.length row=bs++[row]:=by simp
  rw[e1];have l1:=(BL.1 h1).1;have ND:s0.bs.length<=bs.length:=by omega
  refine Bt ?_;have ebl:(bs++[row]).length=bs.length+1:=by simp
  have gC:(bs++[row]++[[AA 0]])[bs.length+1]?=some [AA 0]:=by simp
  simp only[ebl];refine DD gC (by decide) rfl (AI _) rfl (.inl (AI _)) ?_;have e2:(bs++[row]++[[AA 0]]).set (bs.length+1) ([AA 0].set 0 (AA 0))=bs++[row]++[[AA 0]]:=by simp
  show D6 _ ⟨(bs++[row]++[[AA 0]]).set (bs.length+1) ([AA 0].set 0 (AA 0)),tk⟩ _ _ _
  rw[e2];have hs1:BM ⟨bs++[row],tk⟩:=BM.app (s:=⟨bs,tk⟩) hs La;have hs2:BM ⟨bs++[row]++[[AA 0]],tk⟩:=BM.app (s:=⟨bs++[row],tk⟩) hs1 rfl;have g0:=Av (Av h0 row) [AA 0];have g1:=Av (Av h1 row) [AA 0];have gr:=Av (Ay bs row) [AA 0];have IZ:=(Dy (n:=s0.bs.length) (by omega) [AA 0]).trans ((Dy ND row).trans hT);generalize hB2:bs++[row]++[[AA 0]]=b2 at gC hs2 g0 g1 gr IZ;have lb2:b2.length=bs.length+2:=by grind
  refine Ad g0 hx4 (Ad gr hrl ?_);obtain⟨w1,s1',⟨My,ds,rfl,r1,r2,rfl⟩,r3⟩:=kY hn (N:=2 ^ 40) (Aa _) (C:=bs.length+1) (V:=s0.bs.length+1) (v:=v) (by omega) (b:=c) EA t (by omega) (by grind[Md,GF]) (.agg xc) hx 0 ⟨b2,tk⟩ hs2 (by omega) (by omega) (Cv (env R) 114 0 0 0) rfl rfl gC g1;have ez:fh (·==(v:Int)) c t 0=KA (·==(v:Int)) c t 0:=vI (·==(v:Int)) c t 0 S0;rw[ez] at r1;have hs3:BM ⟨b2.set (bs.length+1) [AA (0-BT (·==(v:Int)) t)],My⟩:=BM.set (s:=⟨b2,tk⟩) hs2 rfl _;have TX:(b2.set (bs.length+1) [AA (0-BT (·==(v:Int)) t)]).take s0.bs.length=s0.bs.set e [d,AA Az]:=(C6 (by omega)).trans IZ;have k0:(b2.set (bs.length+1) [AA (0-BT (·==(v:Int)) t)])[s0.bs.length]?=some xc:=BR g0 (by omega);have k1:(b2.set (bs.length+1) [AA (0-BT (·==(v:Int)) t)])[s0.bs.length+1]?=some [AA v]:=BR g1 (by omega);have gE:(s0.bs.set e [d,AA Az])[e]?=some [d,AA Az]:=by rw[CS he]
  refine⟨_,_,r3,AU k1 rfl ?_⟩;have lb3:(b2.set (bs.length+1) [AA (0-BT (·==(v:Int)) t)]).length=bs.length+2:=by rw[RP,lb2]
  generalize b2.set (bs.length+1) [AA (0-BT (·==(v:Int)) t)]=b3 at hs3 TX k0 k1 lb3;have hdk:=r2.keep hd (λ_ h=>by cases h);have AE4:=r2.keep hacc (λ_ h=>by cases h);have oS:=hch.side r2 (DL.AB _ _);have fu:=ih c Nr Bc hlo;have hlen:=Hg (BA:=AQ Az) fq v f (KA (·==(v:Int)) c t 0) Bc;have hrb:=P1 (Az:=Az) (ex:=ex) (v:=v) f (KA (·==(v:Int)) c t 0) Bc;have hfp:∀(l:List Ty) out B,B<+:(CZ (AQ Az) (λc B=>CN (AQ Az) ex v f (KA (·==(v:Int)) c t 0) B) l out B).2:=λl out B=>IB (λc B=>Hg fq v f _ B) l out B
  rcases hg:CN (AQ Az) ex v f (KA (·==(v:Int)) c t 0) Bc with ⟨r,B1⟩
  rw[hg] at fu hlen hrb D9;simp only at fu hlen hrb D9
  have Ut:B1.length<=M:=by
   cases r with
   | none=>grind
   | some r=>
    simp only at D9;cases hb:AQ Az (out++r).length with
    | true=>grind
    | false=>
     grind
  obtain⟨w2,s2',⟨d2,Jw,q1,q2,q3,rfl⟩,q4⟩:=fu Ut (.agg ds) r1 ⟨b3,My⟩ hs3 (Cv (env R) 114 0 0 0) d rfl rfl (B5 TX gE) hdk;have hT4:(b3.set e [d2,AA Az]).take s0.bs.length=s0.bs.set e [d2,AA Az]:=by simp[*,EE]
  have kE:(b3.set e [d2,AA Az])[e]?=some [d2,AA Az]:=by rw[CS (by omega)]
  have Kg:Q8 d2 acc:=Ji.Ow q3 AE4;have Jy:=q3.keep AE4 Ji;have LW:=oS.trans q3;have heq:Tel.Bg (AA v) (AA v)=true:=by simp[Tel.Bg,Mm,FX]
  cases r with
  | none=>
   cases q1;simp only at D9;subst D9;refine⟨_,_,q4,CE rfl (CE rfl ⟨AU g1 rfl heq,by decide,Ew (l:=[]) Jy rfl (by rw[Bk,Bx]; grind) (.inl (.AB _)) λacc' Me _ UX=>?_⟩)⟩;exact nt (DF (DF (DF (DF (DF (DF (DF (pk (A4 (Ev hs0 hT4 (q2.Ax.Ar _) (r:=none) rfl λw hw=>hP w d2 Me hw (UX.keep q2 Kg.symm) (LW.side UX hfr)))))))))))
  | some r=>
   obtain⟨a2,rfl,Q1⟩:=q1;have AWw:=hrb r rfl;refine⟨_,_,q4,CE rfl (CE rfl ⟨AU g1 rfl heq,by decide,Ew Jy rfl (by rw[Bk,Bk,Bx,Bx]; omega) Q1 λacc' Me LV UX=>?_⟩)⟩;have er:B4 out++B4 r=B4 (out++r):=by simp[Bk]
   rw[er] at LV;have hd3:=UX.keep q2 Kg.symm;have NZ:=LW.side UX hfr;refine nt (Ao (b:=false) (Ao (b:=false) (Al (n:=(out++r).length) (by rw[LV.Ax.A7,AR,Bk,Bx]) (Ao (b:=false) (Ao (b:=false) (Cy (AP kE) (Ao (b:=false) (AK (AP kE) (Ao (b:=false) (AU (off:=1) kE rfl (Ao (b:=false) (Fp (pk ?_)))))))))))))
   have eb:decide (((out++r).length:Int)>(Az:Nat))=AQ Az (out++r).length:=by
    simp only[AQ];rw[N1];simp only[DU];omega
   rw[eb];simp only at D9;cases hb:AQ Az (out++r).length with
   | true=>
    rw[hb] at D9;simp only[AN] at D9;subst D9;exact A4 (Ev hs0 hT4 (q2.Ax.Ar _) (r:=none) rfl λw hw=>hP w d2 Me hw hd3 NZ)
   | false=>
    rw[hb] at D9;simp only[AG] at D9;refine Am (AKl (BW (by omega) (by omega) ?_));have hs4:BM ⟨b3.set e [d2,AA Az],Me⟩:=BM.set (s:=⟨b3,My⟩) hs3 (by simp[Ab,Ar,q2.Ax.Ar]) _;have fin:=D2 (p+1) (out++r) B1 (b3.set e [d2,AA Az]) Me d2 acc' (by omega) D9 (hlo.trans hlen) (by grind) hs4 hT4 (BR k0 (by omega)) (BR k1 (by omega)) hd3 LV NZ (hfr.Ow UX (Bq oS.1 q3.1)) (Kg.symm.Ow UX q2).symm
    grind
end
structure ExB (Az v M W:Nat) (B0:List Ty) (q:Int->Bool) (ex:List Ty->Fm):Prop where
 pre:∀B,B<+:(ex B).2
 res:∀B r,B0<+:B->(ex B).1=some r->(ex B).2.length<=M->r.length<=Az/\∀c∈r,Eu q c=true/\(∀inv,DW v inv c=false)/\BT (·==(v:Int)) c=0/\size c<=W/\pat c=true
section
variable {R:RT}
def oT (R:RT) (e Az v M W S:Nat) (B0:List Ty) (q:Int->Bool) (ex:List Ty->Fm) (f:Nat):Prop:=∀(t:Ty),Eu q t=true->pat t=true->DW v true t=false->BT (·==(v:Int)) t<=f->size t+BT (·==(v:Int)) t*W<=S->∀(B:List Ty),B0<+:B->(CN (AQ Az) ex v f t B).2.length<=M ->
 ∀x,BJ (ren t) x->∀s,BM s->Ur R e Az 114 [x,AA v] (CN (AQ Az) ex v f t B) B s
theorem kZ (hn:Rj R) {e Az v M W S:Nat} {B0:List Ty} {q:Int->Bool} (hq:∀i,q i=true->0<=i/\i<2 ^ 40) (JX:Az<2 ^ 20) (hS:S<2 ^ 37) {ex:List Ty->Fm} {b:Ty} (hx:ExB Az v M W B0 q ex) (hv:B0[v]?=some b)
  (hex:∀(B:List Ty) (s:AM),BM s->B0<+:B->(ex B).2.length<=M->Ur R e Az 44 [.agg ((Af b).map .pv)] (ex B) B s)
  {f:Nat} (hih:f=0\/∃f',f=f'+1/\oT R e Az v M W S B0 q ex f'):oT R e Az v M W S B0 q ex f:=by
 intro t ht hp hoc hf htS B hB hM x jV s hs L d hro EU hE hd;obtain⟨xc,rfl⟩:=jV.agg;obtain⟨hx4,hxo,hxi⟩:=jV.cells;have le:=(BL.1 hE).1;have same:s.bs.set e [d,AA Az]=s.bs:=by grind[List.set_getElem_self]
 refine AWx (by rfl) ?_;rw[hro,EU];have g0:(s.bs++[xc,[AA v]])[s.bs.length]?=some xc:=EX (j:=0) rfl rfl;have g1:(s.bs++[xc,[AA v]])[s.bs.length+1]?=some [AA v]:=EX rfl rfl;have hT:(s.bs++[xc,[AA v]]).take s.bs.length=s.bs.set e [d,AA Az]:=by grind
 have hok:BM ⟨s.bs++[xc,[AA v]],s.ts⟩:=by
  intro c hc;simp only[CG,A1,Ed,Ee] at hc
  show Ab (s.bs++_).length c=true
  rcases hc with hc|rfl|rfl
  .exact Bn (by simp) c (hs c hc)
  .grind
  rfl
 refine AKm (Bw (cs:=xc) rfl hxo (Bw (cs:=[AA v]) rfl rfl ?_));simp only[Di,Dh,Cb,Bo,CO,B8,CQ];generalize s.bs++[xc,[AA v]]=bs at g0 g1 hT hok;have V2:HM (2 ^ 40) t=true:=by grind[Md,GF]
 have gE:bs[e]?=some [d,AA Az]:=B5 hT (by rw[CS le]);refine Ad g0 hx4 (AU g1 rfl (AD (Ox hn (Aa _) v t false (by omega) V2 jV) ?_));rintro _ rfl;have AQE:=YD t hp hoc;rw[AQE]
 by_cases hc0:0<BT (·==(v:Int)) t
 .obtain⟨f,rfl,ihf⟩:∃f',f=f'+1/\oT R e Az v M W S B0 q ex f':=by grind
  rw[CN,AQE,Ap hc0] at hM ⊢;simp only[AN] at hM ⊢;have hBv:B[v]?=some b:=Ma hB hv;refine nt (Am (AKn (Cy (AP gE) (AK (AP gE) (AU (off:=0) gE rfl (AU g1 rfl (BQ hd.Ax (row:=Af b) (by omega) (by grind[BE]) (Ac _) (by omega) (Cg ?_))))))));have AKo:=hex B ⟨bs,s.ts⟩ hok hB;have hxB:=hx.res B;have hpre:=hx.pre B;have hfp:∀(l:List Ty) B,B<+:(CZ (AQ Az) (λc B=>CN (AQ Az) ex v f (KA (·==(v:Int)) c t 0) B) l [] B).2:=λl B=>IB (λc B=>Hg hx.pre v f _ B) l [] B
  rcases he:ex B with ⟨r,B1⟩
  rw[he] at hM AKo hxB hpre;simp only at hM AKo hxB hpre;have hB1:B1.length<=M:=by grind
  obtain⟨w,s',⟨d1,My,q1,q2,q3,rfl⟩,q4⟩:=AKo hB1 (Cv (env R) 114 0 0 0) d rfl rfl gE hd;have Ro:(bs.set e [d1,AA Az]).take s.bs.length=s.bs.set e [d1,AA Az]:=by grind[EE]
  cases r with
  | none=>
   cases q1;exact⟨_,_,q4,CE rfl (CE rfl (nt (A4 (Ev hs Ro (q2.Ax.Ar _) (r:=none) rfl λw hw=>⟨d1,My,hw,q2,q3,rfl⟩))))⟩
  | some cs=>
   obtain⟨a,rfl,ha⟩:=q1;obtain⟨Be,hcs⟩:=hxB cs hB rfl hB1;refine⟨_,_,q4,CE rfl (CE rfl (nt (Am (AKp (Al (n:=cs.length) (by rw[ha.A7,AR,Bk,Bx]) ?_)))))⟩;simp only at hM ⊢
   refine ACu hn (M:=M) (S:=S) (f:=f) (B0:=B0) hq JX hS hx.pre ht hc0 (by omega) jV Be ha ?_ hs le hM (λw d' ts' h1 h2 h3=>⟨d',ts',h1,h2,h3,rfl⟩) cs.length 0 [] B1 _ My d1 (.AB []) (by omega) rfl (hB.trans hpre) (AI _)
    (BM.set (s:=⟨bs,s.ts⟩) hok (by simp[Ab,Ar,q2.Ax.Ar]) _) Ro (BR g0 (by omega)) (BR g1 (by omega)) q2 (.inl rfl) q3 (DL.AB _ _) (Q8.AB _ _)
   intro c hc B' hB' fT x' hx' s' hs';obtain⟨c1,c2,c3,c4,c5⟩:=hcs c hc;obtain⟨r1,r2⟩:=Rg (b:=c) t 0 hc0;have:BT (·==(v:Int)) t*W=BT (·==(v:Int)) (KA (·==(v:Int)) c t 0)*W+W:=by grind
   exact ihf _ (S6 c1 t 0 ht) (Ri c5 t 0 hp) (YE (c2 true) t 0 hoc) (by omega) (by omega) B' hB' fT x' hx' s' hs'
 .have ef:CN (AQ Az) ex v f t B=(some [t],B):=by grind[CN]
  rw[ef,Aw hc0];refine nt (A4 (Ad g0 hx4 (FO jV ?_)));exact Ev hs hT (hd.Ax.Ar _) (r:=some [t]) ⟨.AB [Af (ren t)],rfl,.inl (by grind[B4,AW,Aq.AB])⟩ λw hw=>⟨d,s.ts,hw,hd,Ca.refl _ _,rfl⟩
theorem kg (hn:Rj R) {e Az v M W S:Nat} {B0:List Ty} {q:Int->Bool} (hq:∀i,q i=true->0<=i/\i<2 ^ 40) (JX:Az<2 ^ 20) (hS:S<2 ^ 37) {ex:List Ty->Fm} {b:Ty} (hx:ExB Az v M W B0 q ex) (hv:B0[v]?=some b)
  (hex:∀(B:List Ty) (s:AM),BM s->B0<+:B->(ex B).2.length<=M->Ur R e Az 44 [.agg ((Af b).map .pv)] (ex B) B s):∀f,oT R e Az v M W S B0 q ex f
 | 0=>kZ hn hq JX hS hx hv hex (.inl rfl)
 | f+1=>kZ hn hq JX hS hx hv hex (.inr ⟨f,rfl,kg hn hq JX hS hx hv hex f⟩)
end
section
variable {R:RT}
theorem ACx (hn:Rj R) {e Az v M W S:Nat} {B0:List Ty} {q:Int->Bool} (hq:∀i,q i=true->0<=i/\i<2 ^ 40) (JX:Az<2 ^ 20) (hS:S<2 ^ 37) {ex:List Ty->Fm} (fq:∀B,B<+:(ex B).2) {cs:List Ty} (Be:cs.length<=Az) {a:AV} (ha:BF a (AW (B4 cs)))
  (hcs:∀t∈cs,Eu q t=true/\pat t=true/\size t+BT (·==(v:Int)) t*W<=S) (ih:∀f,oT R e Az v M W S B0 q ex f)
  {s0:AM} (hs0:BM s0) (he:e<s0.bs.length) {d0:AV} {o:Fm} (oQ:o.2.length<=M) {rr:Bool} {Post:AV->AM->Prop}
  (hP:∀w d' ts',Res w o.1->Dg 0 ts' 25 d' (AW o.2)->Ca d0 d' s0.ts ts'->Post w ⟨s0.bs.set e [d',AA Az],ts'⟩) :
  ∀(j p:Nat) (out Bc:List Ty) (bs:List (List AV)) (tk:List (Nat×Nat)) (d acc:AV),p+j=cs.length->CZ (AQ Az) (Bv (AQ Az) ex v) (cs.drop p) out Bc=o->B0<+:Bc->out.length<=Az ->
   BM ⟨bs,tk⟩->bs.take s0.bs.length=s0.bs.set e [d,AA Az]->s0.bs.length<=bs.length ->
   Dg 0 tk 25 d (AW Bc)->Dg 0 tk 25 acc (AW (B4 out))->Ca d0 d s0.ts tk->DL acc s0.ts->Q8 d acc ->
   ki R 0 0 0 (.ptr e 0) (AA v) acc a (AA cs.length) (AA p) ⟨bs,tk⟩ (QM rr s0.bs.length Post):=by
 intro j
 induction j with
 | zero=>
  intro p out Bc bs tk d acc hi D9 hlo hout hs hT ND hd hacc hch hfr Ji;refine AE5 (Ah ?_);rw[Aw (by omega)];rw[Bu (by omega),CZ] at D9;subst D9;exact Am (AQG (Ev hs0 hT (hd.Ax.Ar _) (r:=some out) ⟨acc,rfl,hacc.Ax⟩ λw hw=>hP w d tk hw hd hch))
 | succ j D2=>
  intro p out Bc bs tk d acc hi D9 hlo hout hs hT ND hd hacc hch hfr Ji;refine AE5 (Ah ?_);rw[Ap (by omega)];obtain⟨c,hc⟩:∃c,cs[p]?=some c:=⟨_,Ak (by omega)⟩;have hrc:(B4 cs)[p]?=some (ren c):=by grind[Bk]
  obtain⟨c1,c2,c3⟩:=hcs c (A2 hc);have hrl:((Af (ren c)).map AV.pv).length=4:=by grind[Ac]
  have hro:=DK (ren c)
  have La:Ab (bs.length+1) ((Af (ren c)).map AV.pv)=true:=by
   obtain⟨k1,n1,i1,t1⟩:=ren c;rfl
  have EA:=(A5.BZ (ren c)).G1;refine A4 (AQH (BQ ha (row:=Af (ren c)) (by omega) (by grind[BE]) (Ac _) (by omega) (Cg (Bt ?_))));have hdr:cs.drop p=c::cs.drop (p+1):=drop_cons hc;rw[hdr,CZ] at D9;have V2:HM (2 ^ 40) c=true:=by grind[Md,GF]
  generalize (Af (ren c)).map AV.pv=row at hrl hro La EA;refine CL (Ay bs Z4) hrl rfl (by decide) (AI _) hro (.inl (AI _)) ?_;have e1:(bs++[Z4]).set bs.length row=bs++[row]:=by simp
  rw[e1];have hs1:BM ⟨bs++[row],tk⟩:=BM.app (s:=⟨bs,tk⟩) hs La;have gr:=Ay bs row;have Ro:=(Dy ND row).trans hT;have lb:(bs++[row]).length=bs.length+1:=by simp
  generalize bs++[row]=b1 at hs1 gr Ro lb;have gE:(s0.bs.set e [d,AA Az])[e]?=some [d,AA Az]:=by rw[CS he]
  have hfp:∀(l:List Ty) out B,B<+:(CZ (AQ Az) (Bv (AQ Az) ex v) l out B).2:=λl out B=>IB (λc B=>Ka fq v c B) l out B
  have fin:∀(r:Option (List Ty)) (B1:List Ty) (b2:List (List AV)) (Jw:List (Nat×Nat)) (d2 a1 a2:AV),(match r with
     | none=>((none,B1):Fm)
     | some r=>bif AQ Az (out++r).length then(none,B1) else CZ (AQ Az) (Bv (AQ Az) ex v) (cs.drop (p+1)) (out++r) B1)=o->B0<+:B1->(∀l,r=some l->l.length<=Az+1)->Res (.tuple [a1,a2]) r ->
    BM ⟨b2,Jw⟩->b2.take s0.bs.length=s0.bs.set e [d2,AA Az]->s0.bs.length<=b2.length->Dg 0 Jw 25 d2 (AW B1)->Dg 0 Jw 25 acc (AW (B4 out))->Ca d0 d2 s0.ts Jw->Q8 d2 acc ->
    kj R 0 0 0 (.ptr e 0) (AA v) acc a1 a2 a (AA cs.length) (AA p) ⟨b2,Jw⟩ (QM rr s0.bs.length Post):=by
   intro r B1 b2 Jw d2 a1 a2 D9 hB1 hrb hres hs2 IZ hn2 SE Jy LW Kg;have kE:b2[e]?=some [d2,AA Az]:=B5 IZ (by rw[CS he]);cases r with
   | none=>
    cases hres;simp only at D9;subst D9;refine AE6 ⟨by decide,Ew (l:=[]) Jy rfl (by grind[Bk]) (.inl (.AB _)) λacc' Me _ UX=>?_⟩;exact nt (DF (DF (DF (DF (DF (DF (DF (pk (A4 (Ev hs0 IZ (SE.Ax.Ar _) (r:=none) rfl λw hw=>hP w d2 Me hw (UX.keep SE Kg.symm) (LW.side UX hfr)))))))))))
   | some r=>
    obtain⟨a3,hae,ha3⟩:=hres;cases hae;have AWw:=hrb r rfl;refine AE6 ⟨by decide,Ew Jy rfl (by grind[Bk]) ha3 λacc' Me LV UX=>?_⟩;have er:B4 out++B4 r=B4 (out++r):=by simp[Bk]
    rw[er] at LV;have hd3:=UX.keep SE Kg.symm;have NZ:=LW.side UX hfr;refine nt (Ao (b:=false) (Ao (b:=false) (Al (n:=(out++r).length) (by rw[LV.Ax.A7,AR,Bk,Bx]) (Ao (b:=false) (Ao (b:=false) (Cy (AP kE) (Ao (b:=false) (AK (AP kE) (Ao (b:=false) (AU (off:=1) kE rfl (Ao (b:=false) (Fp (pk ?_)))))))))))));have eb:decide (((out++r).length:Int)>(Az:Nat))=AQ Az (out++r).length:=by grind
    rw[eb];simp only at D9;cases hb:AQ Az (out++r).length with
    | true=>
     rw[hb] at D9;simp only[AN] at D9;subst D9;exact A4 (Ev hs0 IZ (SE.Ax.Ar _) (r:=none) rfl λw hw=>hP w d2 Me hw hd3 NZ)
    | false=>
     rw[hb] at D9;simp only[AG] at D9;refine Am (AQI (BW (by omega) (by omega) ?_));have fin:=D2 (p+1) (out++r) B1 b2 Me d2 acc' (by omega) D9 hB1 (by grind) hs2 IZ hn2 hd3 LV NZ (hfr.Ow UX LW.1) (Kg.symm.Ow UX SE).symm
     grind
  have uf:=Ox (R:=R) hn (Aa _) v c true (by omega) V2 EA;refine Ad gr hrl (FO EA (Ad gr hrl (AD uf ?_)));rintro _ rfl;refine nt ?_;cases ho:DW v true c with
  | true=>
   have eg:Bv (AQ Az) ex v c Bc=(some [c],Bc):=by grind[Bv]
   rw[eg] at D9;refine Am (fin (some [c]) Bc b1 tk d (.AB [Af (ren c)]) (BB true) D9 hlo (λl hl=>by grind) ⟨_,rfl,.inl (by grind[B4,AW,Aq.AB])⟩ hs1 Ro (by omega) hd hacc hch Ji)
  | false=>
   have eg:Bv (AQ Az) ex v c Bc=CN (AQ Az) ex v (BT (·==(v:Int)) c) c Bc:=by grind[Bv]
   rw[eg] at D9;have hrb:=P1 (Az:=Az) (ex:=ex) (v:=v) (BT (·==(v:Int)) c) c Bc;have hlen:=Hg (BA:=AQ Az) fq v (BT (·==(v:Int)) c) c Bc;have fu:=ih (BT (·==(v:Int)) c) c c1 c2 ho (Aa _) c3 Bc hlo;rcases hg:CN (AQ Az) ex v (BT (·==(v:Int)) c) c Bc with ⟨r,B1⟩
   rw[hg] at fu hlen hrb D9;simp only at fu hlen hrb;have Ut:B1.length<=M:=by grind
   obtain⟨w2,s2',⟨d2,Jw,q1,q2,q3,rfl⟩,q4⟩:=fu Ut (.agg row) EA ⟨b1,tk⟩ hs1 (Cv (env R) 81 0 0 0) d rfl rfl (B5 Ro gE) hd
   obtain⟨x1,x2,rfl⟩:∃x1 x2,w2=.tuple [x1,x2]:=by
    cases r with
    | none=>exact⟨_,_,q1⟩
    | some r=>exact⟨_,_,q1.choose_spec.1⟩
   refine A4 (Ad gr hrl ⟨_,_,q4,CE rfl (CE rfl ?_)⟩);exact fin r B1 (b1.set e [d2,AA Az]) Jw d2 x1 x2 (by cases r <;> omega) (hlo.trans hlen) (λl hl=>hrb l hl) q1 (BM.set (s:=⟨b1,tk⟩) hs1 (by simp[Ab,Ar,q2.Ax.Ar]) _) (by simp[*,EE]) (by grind) q2 (q3.keep hacc Ji) (hch.trans q3) (Ji.Ow q3 hacc)
theorem ACy (hn:Rj R) {e Az v M W S:Nat} {B0:List Ty} {q:Int->Bool} (hq:∀i,q i=true->0<=i/\i<2 ^ 40) (JX:Az<2 ^ 20) (hS:S<2 ^ 37) {ex:List Ty->Fm} (fq:∀B,B<+:(ex B).2) {cs:List Ty} (Be:cs.length<=Az) {a:AV} (ha:BF a (AW (B4 cs)))
  (hcs:∀t∈cs,Eu q t=true/\pat t=true/\size t+BT (·==(v:Int)) t*W<=S) (ih:∀f,oT R e Az v M W S B0 q ex f)
  {B:List Ty} (hB:B0<+:B) (hM:(CZ (AQ Az) (Bv (AQ Az) ex v) cs [] B).2.length<=M) {s:AM} (hs:BM s):Ur R e Az 81 [a,AA v] (CZ (AQ Az) (Bv (AQ Az) ex v) cs [] B) B s:=by
 intro L d hro EU hE hd;have le:=(BL.1 hE).1;have same:s.bs.set e [d,AA Az]=s.bs:=by grind[List.set_getElem_self]
 refine m81 (by rfl) ?_;rw[hro,EU];refine AQJ (Al (n:=cs.length) (by rw[ha.A7,AR,Bk,Bx]) ?_);exact ACx hn hq JX hS fq Be ha hcs ih hs le hM (λw d' ts' h1 h2 h3=>⟨d',ts',h1,h2,h3,rfl⟩) cs.length 0 [] B s.bs s.ts d (.AB []) (by omega) rfl hB (AI _) hs (by grind) (Aa _) hd (.inl rfl) (Ca.refl _ _) (DL.AB _ _) (Q8.AB _ _)
end
def Df (ls:List (List Ty)):List (List PV):=ls.map λl=>[.list (AW (B4 l))]
theorem Hi (ls:List (List Ty)):(Df ls).length=ls.length:=by simp[Df]
theorem fy {ls:List (List Ty)}:∀r∈Df ls,r.length=1:=by grind[Df]
section
variable {R:RT}
theorem gB (rows:List (List PV)):AL (env R) 145 [.pv (.list rows)] λr=>r=BB (rows.length==0):=by
 refine AWz (by rfl) (AKq (Al (n:=rows.length) rfl (Au ⟨_,rfl,?_⟩)));have e:(((rows.length:Nat):Int)==0)=(rows.length==0):=by grind
 rw[e]
theorem bT {ls:List (List Ty)} {y:AV} (hy:BF y (Df ls)) (hl:ls.length<2 ^ 60) {n0 ro rt:Nat} {s:AM} {QR:QT} :
  ∀(j p:Nat),p+j=ls.length->(∀i:Int,decide (0<=i)=(ls.drop p).any List.isEmpty->QR (AA i) s)->YS R n0 ro rt y (.func (.func 145) [] []) (AA ls.length) (AA p) s QR:=by
 intro j
 induction j with
 | zero=>
  intro p hi hP;refine vS (Ah ?_);rw[Aw (by omega)];rw[Bu (by omega)] at hP;exact Am (AKr (hP (-1) (by simp)))
 | succ j D2=>
  intro p hi hP;refine vS (Ah ?_);rw[Ap (by omega)];obtain⟨l,ht⟩:∃l,ls[p]?=some l:=⟨_,Ak (by omega)⟩;rw[drop_cons ht] at hP;refine A4 (AKs (BQ hy (row:=[.list (AW (B4 l))]) (by omega) (by simp[*,Df]) rfl (by omega) (Ej (AD (gB _) ?_))));rintro _ rfl;have el:((AW (B4 l)).length==0)=l.isEmpty:=by grind[AR,Bk]
  rw[el];cases hg:l.isEmpty with
  | true=>exact A4 (hP p (by simp[hg]))
  | false=>
   refine Am (AKt (BW (by omega) (by omega) ?_));simp only[N2,hg,Gb] at hP;have:=D2 (p+1) (by omega) hP;simpa using this
theorem WA {ls:List (List Ty)} {y:AV} (hy:BF y (Df ls)) (hl:ls.length<2 ^ 60) {s:AM} (hs:BM s) (L:A8):∃i:Int,decide (0<=i)=ls.any List.isEmpty/\BD (env R) L 166 [y,.func (.func 145) [] []] s (AA i) s:=by
 have hlen:∀s,A7 s y=some ls.length:=λs=>by rw[hy.A7,Hi]
 cases hn:F1 y with
 | true=>
  obtain⟨v,⟨i,rfl,h⟩,hc⟩:=AW0 (R:=R) (t0:=y) (t1:=.func (.func 145) [] []) (Post:=λv=>∃i:Int,v=AA i/\decide (0<=i)=ls.any List.isEmpty) (by grind[Bi,F1]) (vT (Al (hlen _) (bT hy hl ls.length 0 (by omega) λi h=>⟨AA i,rfl,i,rfl,by grind⟩)))
  grind
 | false=>
  obtain⟨v,s',⟨i,rfl,rfl,h⟩,hc⟩:=AW1 (R:=R) (L:=L) (s:=s) (t0:=y) (t1:=.func (.func 145) [] []) (Post:=λv s'=>∃i:Int,v=AA i/\s'=s/\decide (0<=i)=ls.any List.isEmpty) (by grind[Bi]) (vT (Al (hlen _) (bT hy hl ls.length 0 (by omega) λi h=>by
   have:=Iy (rr:=L.rr 166) hs (m:=[]) (p:=.sc (.int .i64 i)) (Post:=λv s'=>∃i:Int,v=AA i/\s'=s/\decide (0<=i)=ls.any List.isEmpty) ⟨i,rfl,rfl,by grind⟩
   simp_all)))
  grind
theorem oU {ls:List (List Ty)} {y:AV} (hy:BF y (Df ls)) (hl:ls.length<2 ^ 60) {s:AM} (hs:BM s) (L:A8):BD (env R) L 144 [y,.func (.func 145) [] []] s (BB (ls.any List.isEmpty)) s:=by
 have h0:BM ⟨[],[]⟩:=λb hb=>by grind
 cases hn:F1 y with
 | true=>
  obtain⟨i,h,hc⟩:=WA (R:=R) hy hl h0 (Cv (env R) 144 0 0 0);obtain⟨v,rfl,hc⟩:=AW2 (R:=R) (t0:=y) (t1:=.func (.func 145) [] []) (Post:=λv=>v=BB (ls.any List.isEmpty)) (by grind[Bi,F1]) (vU ⟨_,_,hc,NU ⟨_,rfl,by rw[<-h]⟩⟩)
  grind
 | false=>
  obtain⟨i,h,hc⟩:=WA (R:=R) hy hl hs (Cv (env R) 144 0 L.ro L.rt)
  obtain⟨v,s',⟨rfl,rfl⟩,hc⟩:=AW3 (R:=R) (L:=L) (s:=s) (t0:=y) (t1:=.func (.func 145) [] []) (Post:=λv s'=>v=BB (ls.any List.isEmpty)/\s'=s) (by grind[Bi]) (vU ⟨_,_,hc,NU (by
   have:=Iy (rr:=L.rr 144) hs (m:=[]) (p:=.sc (.bool (decide (i>=0)))) (Post:=λv s'=>v=BB (ls.any List.isEmpty)/\s'=s) ⟨by rw[<-h],rfl⟩
   simp_all)⟩)
  omega
end
theorem bU {E:Env} {f:FuncId} {fn:Func} {body:Code} {args:List AV} {L:A8} {s:AM} {Post:AV->AM->Prop} (hfn:E.P.funcs[f]?=some fn) (hb:fn.body=some body) (hk:E.kind f=.esc) (hc:E.clone f=true) (ht:E.told f=none) (hne:JG args=false) (hl:args.length<=fn.ntmps)
  (h:Wp E (Cv E f L.n0 L.ro L.rt) fn.ntmps fn.results.toList body [] (FP 0 args) s Post):∃v s',Post v s'/\BD E L f args s v s':=by
 obtain⟨r,s',n,h1,h2⟩:=Mf hb h;refine⟨r,s',h2,⟨n+1,λm hm=>?_⟩⟩;obtain⟨m,rfl⟩:∃m',m=m'+1:=⟨m-1,by omega⟩;simp only[Dz,hfn,hc,AN,OC,ht,hne,AG];unfold D5;have:=h1 m (by omega);unfold Cv at this;simp only[if_pos hl,hk];exact this
theorem vV {E:Env} {f:FuncId} {fn:Func} {args:List AV} (hfn:E.P.funcs[f]?=some fn) (hc:E.clone f=true) (ht:E.told f=none) (hne:JG args=true):AL E f args λv=>v=.AB []:=by
 refine⟨_,rfl,λL s=>⟨1,λm hm=>?_⟩⟩;obtain⟨m,rfl⟩:∃m',m=m'+1:=⟨m-1,by omega⟩
 grind[Dz,OC]
section
variable {R:RT}
theorem YT {l:List Ty} (hl:l.length<2 ^ 38) {a:AV} (ha:BF a (AW l)) {L:A8} (EU:L.rt=0) (s:AM):∃v s',(∃ts',s'=⟨s.bs,ts'⟩/\Dg 0 ts' 25 v (AW l)/\Ca (.AB []) v s.ts ts')/\BD (env R) L 57 [a] s v s':=by
 cases l with
 | nil=>
  have he:JG [a]=true:=by
   rcases ha with (rfl|rfl)|⟨t,rfl⟩ <;> rfl
  obtain⟨v,rfl,hc⟩:=vV (E:=env R) (f:=57) (args:=[a]) Tryz.func57 (by rfl) (by rfl) he;exact⟨_,s,⟨s.ts,rfl,.inl rfl,Ca.refl _ _⟩,hc L s⟩
 | cons x l=>
  have he:JG [a]=false:=by
   rcases ha with (rfl|rfl)|⟨t,rfl⟩ <;> rfl
  have qb:∀K:AV->Prop,K (BB false)->vW s (some 1) (Q5 a) (some 1) .eql a (.AB []) K:=by
   intro K hK;obtain⟨k1,n1,i1,t1⟩:=x;rcases ha with (rfl|rfl)|⟨t,rfl⟩ <;> exact⟨by rfl,hK⟩
  refine bU (fn:=Tryz.f57) (body:=b57) Tryz.func57 (by rfl) (by rfl) (by rfl) (by rfl) he (C1 (by rfl)) ?_
  show AE7 R L.n0 L.ro L.rt a s _
  refine AQK (qb _ (Am (AQL ?_)))
  have hb:∀K:AV->AM->Prop,K (.AB []) s->CV false s 4 [(AA 0),(SS []),(AA 0),(.AB [])] 0 [] K:=by
   intro K hK;simpa[CV,FY,CB] using hK
  exact hb _ ⟨by decide,Ew (es:=[]) (.inl rfl) EU (by grind) ha λa' ts' h1 h2=>⟨ts',rfl,by grind,h2⟩⟩
end
theorem AE8 {a:AV} {rows:List (List PV)} (h:BF a rows):Jg a=some (.list rows):=by
 rcases h with (rfl|rfl)|⟨t,rfl⟩ <;> rfl
theorem gD {l:List Ty} {a:AV} (ha:BF a (AW l)) {s:AM} {K:AV->AM->Prop} (hK:K (.AB [[.list (AW l)]]) s):CV false s 1 [(.AB [])] 1 [(0,1,a)] K:=by
 simp[CV,FY,CB,ha.ok,AE8 ha,ha.cells];omega
theorem kn {L:A8} {s:AM} {a:AV} {os:List (List Ty)} {p:List Ty} {K:AV->AM->Prop} (ha:Dg 0 s.ts 23 a (Df os)) (EU:L.rt=0) (hl:os.length<2 ^ 38) (h:∀a' ts',Dg 0 ts' 23 a' (Df (os++[p]))->Ca a a' s.ts ts'->K a' ⟨s.bs,ts'⟩) :
  Ct false L s 23 1 24 a (.AB [[.list (AW (B4 p))]]) K:=by
 have h1:=Hi os;have hm:∀r∈[[PV.list (AW (B4 p))]],r.length=1:=by simp
 refine Pz (m:=[[.list (AW (B4 p))]]) ha EU fy hm (by omega) (Db (.inl (.AB _)) hm) (by simp) (by grind) (by grind) λa' ts' h3 h4=>h a' ts' ?_ h4
 grind[Df]
theorem Ca.TY {r:List (List PV)} {v:AV} {ts ts':List (Nat×Nat)} (h:Ca (.AB r) v ts ts'):DL v ts:=by
 intro t ht;rcases h.2.2 with h1|⟨u,h1,h2⟩
 .rw[h1] at ht
  cases ht
 grind
theorem DL.dis {v b:AV} {ts:List (Nat×Nat)} {lo k:Nat} {rows:List (List PV)} (h:DL v ts) (hb:Dg lo ts k b rows):Q8 v b:=by
 intro t ht hbt;have h1:=h t ht;have h2:=Dg.vE hb hbt;omega
section
variable {R:RT}
theorem vX {l pre:List Ty} {xa:AV} (TZ:BF xa (AW (B4 l))) (hl:l.length<2 ^ 37) (hpre:pre.length<2 ^ 37) {n:Nat} {X:List (List AV)} {t0 t8 t17 t18 t19 t33 t34 t35:AV} {QR:QT} :
  ∀(j p:Nat) (out:List (List Ty)) (bs:List (List AV)) (tk:List (Nat×Nat)) (acc:AV),p+j=l.length->out.length+j<2 ^ 38->BM ⟨bs,tk⟩->bs.take n=X->n<=bs.length->Dg 0 tk 23 acc (Df out) ->
   (∀bs' HN acc',BM ⟨bs',HN⟩->bs'.take n=X->n<=bs'.length->Dg 0 HN 23 acc' (Df (out++(l.drop p).map λx=>pre++[x]))->Ca acc acc' tk HN->YU R 0 0 0 t0 t8 acc' t17 t18 t19 t33 t34 t35 ⟨bs',HN⟩ QR) ->
   YV R 0 0 0 t0 t8 acc (.pv (.list (AW (B4 pre)))) t17 t18 t19 t33 t34 t35 xa (AA l.length) (AA p) ⟨bs,tk⟩ QR:=by
 intro j
 induction j with
 | zero=>
  intro p out bs tk acc hi ho hs hT hn hacc hK;refine vY (Ah ?_);rw[Aw (by omega)];rw[Bu (by omega)] at hK;exact Am (hK bs tk acc hs hT hn (by simpa using hacc) (Ca.refl _ _))
 | succ j D2=>
  intro p out bs tk acc hi ho hs hT hn hacc hK;refine vY (Ah ?_);rw[Ap (by omega)];obtain⟨c,hc⟩:∃c,l[p]?=some c:=⟨_,Ak (by omega)⟩;have hrc:(B4 l)[p]?=some (ren c):=by grind[Bk]
  have hrl:((Af (ren c)).map AV.pv).length=4:=by grind[Ac]
  have hro:=DK (ren c)
  have La:Ab (bs.length+1) ((Af (ren c)).map AV.pv)=true:=by
   obtain⟨k1,n1,i1,t1⟩:=ren c;rfl
  have EA:=(A5.BZ (ren c)).G1;have LO:=L6 (ren c);refine A4 (ACz (BQ TZ (row:=Af (ren c)) (by omega) (by grind[BE]) (Ac _) (by omega) (Cg (Bt ?_))));rw[drop_cons hc] at hK;generalize (Af (ren c)).map AV.pv=row at hrl hro La EA LO;refine CL (Ay bs Z4) hrl rfl (by decide) (AI _) hro (.inl (AI _)) ?_;have e1:(bs++[Z4]).set bs.length row=bs++[row]:=by simp
  rw[e1];have hs1:BM ⟨bs++[row],tk⟩:=BM.app (s:=⟨bs,tk⟩) hs La;have gr:=Ay bs row;have lp:(B4 pre).length=pre.length:=by grind[Bk]
  obtain⟨v,s',⟨My,rfl,v1,v2⟩,v3⟩:=YT (R:=R) (l:=B4 pre) (by omega) (a:=.pv (.list (AW (B4 pre)))) (.inl (.list _)) (L:=Cv (env R) 120 0 0 0) rfl ⟨bs++[row],tk⟩;have hfv:=v2.TY;have AQM:=v2.keep hacc (λ_ h=>by cases h);refine⟨_,_,v3,Ad gr hrl (FO EA ⟨by decide,Iz v1 rfl (by omega) λv' Jw w1 w2=>?_⟩)⟩;have ep:B4 pre++[ren c]=B4 (pre++[c]):=by simp[Bk]
  rw[ep] at w1;have Jy:=w2.keep AQM (hfv.dis hacc);refine gD w1.Ax ⟨by decide,kn Jy rfl (by omega) λacc' Me x1 x2=>?_⟩;refine⟨Ad gr hrl LO,AC0 (BW (by omega) (by omega) ?_)⟩;have hch:Ca acc acc' tk Me:=(((Ca.refl acc tk).side v2 (DL.AB _ _)).side w2 hfv).trans x2;have:=D2 (p+1) (out++[pre++[c]]) (bs++[row]) Me acc' (by omega) (by grind) hs1 ((Dy hn row).trans hT) (by grind) x1 (λbs' HN Na k1 k2 k3 k4 k5=>hK bs' HN Na k1 k2 k3 (by grind) (hch.trans k5))
  grind
end
section
variable {R:RT}
theorem AKu {l:List Ty} {xa ya:AV} {outs:List (List Ty)} (TZ:BF xa (AW (B4 l))) (UU:BF ya (Df outs)) (hl:l.length<2 ^ 37) (hpre:∀pre∈outs,pre.length<2 ^ 37) (ZC:outs.length<2 ^ 37) {n:Nat} {X:List (List AV)} {t0 t17 t18 t19:AV} {QR:QT} :
  ∀(j p:Nat) (next:List (List Ty)) (bs:List (List AV)) (tk:List (Nat×Nat)) (acc:AV),p+j=outs.length->next.length+j*l.length<2 ^ 38->BM ⟨bs,tk⟩->bs.take n=X->n<=bs.length->Dg 0 tk 23 acc (Df next) ->
   (∀bs' HN acc',BM ⟨bs',HN⟩->bs'.take n=X->n<=bs'.length->Dg 0 HN 23 acc' (Df (next++(outs.drop p).flatMap λpre=>l.map λx=>pre++[x]))->Ca acc acc' tk HN->YW R 0 0 0 t0 acc' t17 t18 t19 ⟨bs',HN⟩ QR) ->
   YX R 0 0 0 t0 xa acc t17 t18 t19 ya (AA outs.length) (AA p) ⟨bs,tk⟩ QR:=by
 intro j
 induction j with
 | zero=>
  intro p next bs tk acc hi ho hs hT hn hacc hK
  refine vZ (Ah ?_);rw[Aw (by omega)];rw[Bu (by omega)] at hK;exact Am (AKv (hK bs tk acc hs hT hn (by simpa using hacc) (Ca.refl _ _)))
 | succ j D2=>
  intro p next bs tk acc hi ho hs hT hn hacc hK
  refine vZ (Ah ?_);rw[Ap (by omega)];obtain⟨pre,hc⟩:∃c,outs[p]?=some c:=⟨_,Ak (by omega)⟩;rw[drop_cons hc] at hK;rw[Ku] at ho;refine A4 (AKw (BQ UU (row:=[.list (AW (B4 pre))]) (by omega) (by grind[Df]) rfl (by omega) (Ej (Al (n:=l.length) (by rw[TZ.A7,AR,Bk,Bx]) ?_))));refine vX TZ hl (hpre pre (A2 hc)) l.length 0 next bs tk acc (by omega) (by omega) hs hT hn hacc λoV tk1 AKx k1 k2 k3 k4 k5=>?_
  refine AC1 (BW (by omega) (by omega) ?_);rw[Ih] at k4;have:=D2 (p+1) (next++l.map λx=>pre++[x]) oV tk1 AKx (by omega) (by grind) k1 k2 k3 k4 (λbs' HN Na m1 m2 m3 m4 m5=>hK bs' HN Na m1 m2 m3 (by grind) (k5.trans m5))
  grind
end
theorem AKy {a b:Nat} {K:AV->Prop} (hb:b≠0) (ha:a<2 ^ 62) (h:K (AA ((a / b:Nat):Int))):CY .i64 .quo (AA a) (AA b) K:=by
 have e:(a:Int).tdiv b=((a / b:Nat):Int):=(Int.ofNat_tdiv a b).symm;have hl:=Nat.div_le_self a b;refine⟨⟨rfl,rfl⟩,by omega,?_⟩;rw[e];generalize a / b=c at hl h;exact B7 (by omega) (by omega) h
theorem bV (outs:List (List Ty)) (l:List Ty):(outs.flatMap λp=>l.map λx=>p++[x]).length=outs.length*l.length:=by
 induction outs with
 | nil=>simp
 | cons o os ih=>grind
def bW (v:AV) (r:Option (List (List Ty))):Prop:=match r with
 | none=>v=.tuple [.AB [],BB false]
 | some o=>∃a,v=.tuple [a,BB true]/\BF a (Df o)
section
variable {R:RT}
theorem ve {e Az:Nat} (JX:Az<2 ^ 20) {d:AV} {ls:List (List Ty)} {ya:AV} (UU:BF ya (Df ls)) (Rk:ls.length<2 ^ 36) (hls:∀l∈ls,l≠[]/\l.length<2 ^ 37) {n:Nat} {X:List (List AV)} (hX:X[e]?=some [d,AA Az]) {Nv:List (Nat×Nat)} {r:Option (List (List Ty))} {QR:QT}
  (hK:∀v bs' HN,bW v r->BM ⟨bs',HN⟩->bs'.take n=X->Ca (.AB []) (.AB []) Nv HN->QR v ⟨bs',HN⟩) :
  ∀(j p:Nat) (outs:List (List Ty)) (bs:List (List AV)) (tk:List (Nat×Nat)) (acc:AV),p+j=ls.length->Dn (AQ Az) (ls.drop p) outs=r->outs.length<=Az+1->(∀o∈outs,o.length<=p)->BM ⟨bs,tk⟩->bs.take n=X->n<=bs.length->BF acc (Df outs)->Ca (.AB []) (.AB []) Nv tk ->
   YY R 0 0 0 (.ptr e 0) acc ya (AA ls.length) (AA p) ⟨bs,tk⟩ QR:=by
 intro j
 induction j with
 | zero=>
  intro p outs bs tk acc hi hc ho hp hs hT hn hacc hch;refine vg (Ah ?_);rw[Aw (by omega)];rw[Bu (by omega),Dn] at hc;subst hc;exact Am (AKz (hK _ _ _ ⟨acc,rfl,hacc⟩ hs hT hch))
 | succ j D2=>
  intro p outs bs tk acc hi hc ho hp hs hT hn hacc hch;refine vg (Ah ?_);rw[Ap (by omega)];obtain⟨l,hl⟩:∃c,ls[p]?=some c:=⟨_,Ak (by omega)⟩;obtain⟨hne,hlen⟩:=hls l (A2 hl);have hpos:0<l.length:=List.length_pos_iff.2 hne;rw[drop_cons hl,Dn,bV] at hc;have gE:=B5 hT hX;have TZ:BF (.pv (.list (AW (B4 l)))) (AW (B4 l)):=.inl (.list _);refine A4 (AK0 (BQ UU (row:=[.list (AW (B4 l))]) (by omega) (by grind[Df]) rfl (by omega) (Ej (Al (n:=outs.length) (by rw[hacc.A7,Hi]) (Cy (AP gE) (AK (AP gE) (AU (off:=1) gE rfl (Al (n:=l.length) (by rw[TZ.A7,AR,Bk,Bx]) (AKy (by omega) (by omega) (Fp ?_))))))))))
  have eb:decide ((outs.length:Int)>((Az / l.length:Nat):Int))=AQ Az (outs.length*l.length):=by
   simp only[AQ];rw[N1];simp only[DU,gt_iff_lt,Int.ofNat_lt]
   grind[Nat.div_lt_iff_lt_mul]
  rw[eb];cases hb:AQ Az (outs.length*l.length) with
  | true=>
   rw[hb] at hc;simp only[AN] at hc;subst hc;exact A4 (hK _ _ _ rfl hs hT hch)
  | false=>
   rw[hb] at hc;simp only[AG] at hc;have Rb:outs.length*l.length<=Az:=by grind
   refine Am (AK1 (Al (n:=outs.length) (by rw[hacc.A7,Hi]) ?_));refine AKu TZ hacc hlen (λo hm=>by grind) (by omega) outs.length 0 [] bs tk (.AB []) (by omega) (by grind) hs hT hn (.inl rfl) λoV tk1 AKx k1 k2 k3 k4 k5=>?_
   refine AC2 (BW (by omega) (by omega) ?_);rw[Ih,Cb] at k4;have:=D2 (p+1) (outs.flatMap λpre=>l.map λx=>pre++[x]) oV tk1 AKx (by omega) hc (by grind[bV]) (by grind) k1 k2 k3 k4.Ax (hch.side k5 (DL.AB _ _))
   grind
end
theorem AE9 {rr:Bool} {v:AV} {r:Option (List (List Ty))} {s0:AM} {bs:List (List AV)} {ts:List (Nat×Nat)} {Post:AV->AM->Prop} (h0:BM s0) (hT:bs.take s0.bs.length=s0.bs) (hr:bW v r) (hP:∀w,bW w r->Post w ⟨s0.bs,ts⟩):QM rr s0.bs.length Post v ⟨bs,ts⟩:=by
 have hok:((bs.take s0.bs.length).all (Ab s0.bs.length))=true:=by
  rw[Cz];intro b hb;exact h0 b (by grind)
 cases r with
 | none=>
  cases hr;refine JW (ds:=[.AB [],BB false]) hok rfl ?_
  show Post _ ⟨bs.take _,ts⟩
  rw[hT];exact hP _ rfl
 | some l=>
  obtain⟨a,rfl,ha⟩:=hr;obtain⟨a',h1,h2⟩:=ha.close bs s0.bs.length ts.length;refine JW (ds:=[a',BB true]) hok (by grind[AY,Tel.close]) ?_
  show Post _ ⟨bs.take _,ts⟩
  rw[hT];exact hP _ ⟨a',rfl,h2⟩
section
variable {R:RT}
theorem AC3 {e Az:Nat} (JX:Az<2 ^ 20) {d:AV} {ls:List (List Ty)} {ya:AV} (UU:BF ya (Df ls)) (Rk:ls.length<2 ^ 36) (hls:∀l∈ls,l.length<2 ^ 37) {s:AM} (hs:BM s) (hE:s.bs[e]?=some [d,AA Az]) {L:A8} (hro:L.ro=0) (EU:L.rt=0) :
  ∃v s',(∃ts',bW v (bif ls.any List.isEmpty then some [] else Dn (AQ Az) ls [[]])/\Ca (.AB []) (.AB []) s.ts ts'/\s'=⟨s.bs,ts'⟩)/\BD (env R) L 120 [.ptr e 0,ya] s v s':=by
 refine AW6 (by rfl) ?_;rw[hro,EU];refine AK2 ⟨_,_,oU UU (by omega) hs _,?_⟩;cases ha:ls.any List.isEmpty with
 | true=>exact A4 (AE9 hs (by simp) (r:=some []) ⟨.AB [],rfl,.inl (.AB _)⟩ λw hw=>⟨s.ts,hw,Ca.refl _ _,rfl⟩)
 | false=>
  refine Am (AK3 (gD (l:=[]) (.inl (.AB _)) (Al (n:=ls.length) (by rw[UU.A7,Hi]) ?_)));refine ve (n:=s.bs.length) (X:=s.bs) (Nv:=s.ts) (r:=Dn (AQ Az) ls [[]]) JX UU Rk ?_ hE (λv bs' HN h1 h2 h3 h4=>AE9 hs h3 h1 λw hw=>⟨HN,hw,h4,rfl⟩) ls.length 0 [[]] s.bs s.ts (.AB [[.list (AW [])]]) (by omega) rfl (by simp) (by simp) hs (by simp) (Aa _) (.inl (.AB _)) (Ca.refl _ _)
  grind
end
section
variable {R:RT}
theorem AK4 {all:List (List Ty)} {ya:AV} (UU:BF ya (Df all)) (hl:all.length<2 ^ 37) {t12:AV} {bs:List (List AV)} {Nv:List (Nat×Nat)} {QR:QT}
  (hK:∀acc HN,Dg 0 HN 25 acc (AW (B4 (all.map (.mk 3 [] 0))))->Ca (.AB []) acc Nv HN->vh R 0 0 0 t12 acc ⟨bs,HN⟩ QR) :
  ∀(j p:Nat) (tk:List (Nat×Nat)) (acc:AV),p+j=all.length->Dg 0 tk 25 acc (AW (B4 ((all.take p).map (.mk 3 [] 0))))->Ca (.AB []) acc Nv tk ->
   bX R 0 0 0 t12 acc ya (AA all.length) (AA p) ⟨bs,tk⟩ QR:=by
 intro j
 induction j with
 | zero=>
  intro p tk acc hi hacc hch;refine vk (Ah ?_);rw[Aw (by omega)];rw[CA (by omega)] at hacc;exact Am (hK acc tk hacc hch)
 | succ j D2=>
  intro p tk acc hi hacc hch;refine vk (Ah ?_);rw[Ap (by omega)];obtain⟨o,hc⟩:∃c,all[p]?=some c:=⟨_,Ak (by omega)⟩;have ht:BJ (ren (.mk 3 [] 0 o)) (.agg [AA 3,SS [],AA 0,.pv (.list (AW (B4 o)))]):=⟨_,rfl,.inl (.list _)⟩;refine A4 (AQN (BQ UU (row:=[.list (AW (B4 o))]) (by omega) (by grind[Df]) rfl (by omega) (Ej (IC (cs:=[AA 3,SS [],AA 0,.pv (.list (AW (B4 o)))]) rfl (FO ht ⟨by decide,Iz hacc rfl (by grind[Bk]) λacc' HN h1 h2=>AQO (BW (by omega) (by omega) ?_)⟩)))));have er:B4 ((all.take p).map (.mk 3 [] 0))++[ren (.mk 3 [] 0 o)]=B4 ((all.take (p+1)).map (.mk 3 [] 0)):=by grind[List.take_add_one,Bk]
  rw[er] at h1;have:=D2 (p+1) HN acc' (by omega) h1 (hch.trans h2)
  grind
end
section
variable {R:RT}
theorem AC4 {e Az M:Nat} (JX:Az<2 ^ 20) {ex:Ty->List Ty->Fm} {B0:List Ty} (fq:∀t B,B<+:(ex t B).2) {ts:List Ty} {ya:AV} (UU:BF ya (AW (B4 ts))) (hl:ts.length<2 ^ 37)
  (ih:∀t∈ts,∀B,B0<+:B->(ex t B).2.length<=M->∀x,BJ (ren t) x->∀s,BM s->Ur R e Az 44 [x] (ex t B) B s)
  {s0:AM} (he:e<s0.bs.length) {d0:AV} {o:Option (List (List Ty))×List Ty} (oQ:o.2.length<=M) {QR:QT}
  (hN:o.1=none->∀bs tk d,bs.take s0.bs.length=s0.bs.set e [d,AA Az]->Dg 0 tk 25 d (AW o.2)->Ca d0 d s0.ts tk->QR (.tuple [.AB [],BB false]) ⟨bs,tk⟩)
  (hS:∀ls,o.1=some ls->∀bs tk d acc,BM ⟨bs,tk⟩->bs.take s0.bs.length=s0.bs.set e [d,AA Az]->s0.bs.length<=bs.length->Dg 0 tk 25 d (AW o.2)->Ca d0 d s0.ts tk->BF acc (Df ls)->vn R 0 0 0 (.ptr e 0) acc ⟨bs,tk⟩ QR) :
  ∀(j p:Nat) (out:List (List Ty)) (Bc:List Ty) (bs:List (List AV)) (tk:List (Nat×Nat)) (d acc:AV),p+j=ts.length->Er ex (ts.drop p) out Bc=o->B0<+:Bc->out.length<=p ->
   BM ⟨bs,tk⟩->bs.take s0.bs.length=s0.bs.set e [d,AA Az]->s0.bs.length<=bs.length ->
   Dg 0 tk 25 d (AW Bc)->Dg 0 tk 23 acc (Df out)->Ca d0 d s0.ts tk->DL acc s0.ts->Q8 d acc ->
   ko R 0 0 0 (.ptr e 0) acc ya (AA ts.length) (AA p) ⟨bs,tk⟩ QR:=by
 intro j
 induction j with
 | zero=>
  intro p out Bc bs tk d acc hi hseq hB hop hs hT ND hd hacc hch hfr Ji;refine AFA (Ah ?_);rw[Aw (by omega)];rw[Bu (by omega),Er] at hseq;subst hseq;exact Am (hS out rfl bs tk d acc hs hT ND hd hch hacc.Ax)
 | succ j D2=>
  intro p out Bc bs tk d acc hi hseq hB hop hs hT ND hd hacc hch hfr Ji;refine AFA (Ah ?_);rw[Ap (by omega)];obtain⟨c,hc⟩:∃c,ts[p]?=some c:=⟨_,Ak (by omega)⟩;have hrc:(B4 ts)[p]?=some (ren c):=by grind[Bk]
  have hrl:((Af (ren c)).map AV.pv).length=4:=by grind[Ac]
  have hro:=DK (ren c)
  have La:Ab (bs.length+1) ((Af (ren c)).map AV.pv)=true:=by
   obtain⟨k1,n1,i1,t1⟩:=ren c;rfl
  have EA:=(A5.BZ (ren c)).G1;refine A4 (AQP (BQ UU (row:=Af (ren c)) (by omega) (by grind[BE]) (Ac _) (by omega) (Cg (Bt ?_))));rw[drop_cons hc,Er] at hseq;generalize (Af (ren c)).map AV.pv=row at hrl hro La EA;refine CL (Ay bs Z4) hrl rfl (by decide) (AI _) hro (.inl (AI _)) ?_;have e1:(bs++[Z4]).set bs.length row=bs++[row]:=by simp
  rw[e1];have hs1:BM ⟨bs++[row],tk⟩:=BM.app (s:=⟨bs,tk⟩) hs La;have gr:=Ay bs row;have Ro:=(Dy ND row).trans hT;have lb:(bs++[row]).length=bs.length+1:=by simp
  generalize bs++[row]=b1 at hs1 gr Ro lb;have gE:(s0.bs.set e [d,AA Az])[e]?=some [d,AA Az]:=by rw[CS he]
  have hfp:∀(l:List Ty) out B,B<+:(Er ex l out B).2:=λl out B=>S8 fq l out B
  have fu:=ih c (A2 hc) Bc hB;have hpre:=fq c Bc;rcases hg:ex c Bc with ⟨r,B1⟩
  rw[hg] at hseq fu hpre;simp only at hseq fu hpre;have Ut:B1.length<=M:=by grind
  obtain⟨w2,s2',⟨d2,Jw,q1,q2,q3,rfl⟩,q4⟩:=fu Ut (.agg row) EA ⟨b1,tk⟩ hs1 (Cv (env R) 88 0 0 0) d rfl rfl (B5 Ro gE) hd;have IZ:(b1.set e [d2,AA Az]).take s0.bs.length=s0.bs.set e [d2,AA Az]:=by simp[*,EE]
  refine Ad gr hrl ⟨_,_,q4,?_⟩;cases r with
  | none=>
   cases q1;simp only at hseq;subst hseq;exact CE rfl (CE rfl (nt (A4 (hN rfl _ Jw d2 IZ q2 (hch.trans q3)))))
  | some r=>
   obtain⟨a2,rfl,Q1⟩:=q1;simp only at hseq;have Jy:=q3.keep hacc Ji;have Kg:Q8 d2 acc:=Ji.Ow q3 hacc;refine CE rfl (CE rfl (nt (Am (AQQ (gD Q1 ⟨by decide,kn Jy rfl (by omega) λacc' Me h3 h4=>AQR (BW (by omega) (by omega) ?_)⟩)))));have LW:=hch.trans q3;have hd3:=h4.keep q2 Kg.symm;have NZ:=LW.side h4 hfr;have hs2:BM ⟨b1.set e [d2,AA Az],Me⟩:=BM.set (s:=⟨b1,tk⟩) hs1 (by simp[Ab,Ar,q2.Ax.Ar]) _;have:=D2 (p+1) (out++[r]) B1 (b1.set e [d2,AA Az]) Me d2 acc' (by omega) hseq (hB.trans hpre) (by grind) hs2 IZ (by grind) hd3 h3 NZ (hfr.Ow h4 LW.1) (Kg.symm.Ow h4 q2).symm
   grind
def LX (Az:Nat) (ex:Ty->List Ty->Fm) (ts B:List Ty):Fm:=match Er ex ts [] B with
 | (none,B)=>(none,B)
 | (some ls,B)=>bif ls.any List.isEmpty then(some [],B) else match Dn (AQ Az) ls [[]] with
  | none=>(none,B)
  | some all=>(some (all.map (.mk 3 [] 0)),B)
theorem WB {Az:Nat}:∀(ls out r:List (List Ty)),Dn (AQ Az) ls out=some r->r.length<=Az\/r=out
 | [],out,r,h=>by grind[Dn]
 | l::ls,out,r,h=>by
  rw[Dn] at h;cases hb:AQ Az (out.flatMap λp=>l.map λx=>p++[x]).length with
  | true=>grind
  | false=>
   rw[hb] at h;have hb':(out.flatMap λp=>l.map λx=>p++[x]).length<=Az:=by grind
   rcases WB ls _ r h with h1|h1
   all_goals grind
end
theorem WC {Az:Nat} {ex:Ty->List Ty->Fm}:∀(l:List Ty) (out:List (List Ty)) (B:List Ty) (r:List (List Ty)),(∀t∈l,∀B r,(ex t B).1=some r->r.length<=Az)->(Er ex l out B).1=some r->(∀o∈out,o.length<=Az)->(∀o∈r,o.length<=Az)/\r.length=out.length+l.length
 | [],out,B,r,_,h,ho=>by grind[Er]
 | t::l,out,B,r,hx,h,ho=>by
  have h1:=hx t (by simp) B;rw[Er] at h;rcases hr:ex t B with ⟨_|s,B1⟩
  .grind
  .rw[hr] at h h1
   have:=WC l (out++[s]) B1 r (λa ha=>hx a (by grind)) h (by grind)
   grind
section
variable {R:RT}
theorem AC5 {e Az M:Nat} (JX:Az<2 ^ 20) {ex:Ty->List Ty->Fm} {B0:List Ty} (fq:∀t B,B<+:(ex t B).2) {ts:List Ty} (hxl:∀t∈ts,∀B r,(ex t B).1=some r->r.length<=Az) {ya:AV} (UU:BF ya (AW (B4 ts))) (hl:ts.length<2 ^ 36)
  (ih:∀t∈ts,∀B,B0<+:B->(ex t B).2.length<=M->∀x,BJ (ren t) x->∀s,BM s->Ur R e Az 44 [x] (ex t B) B s)
  {B:List Ty} (hB:B0<+:B) (hM:(LX Az ex ts B).2.length<=M) {s:AM} (hs:BM s):Ur R e Az 88 [ya] (LX Az ex ts B) B s:=by
 intro L d hro EU hE hd;have le:=(BL.1 hE).1;have same:s.bs.set e [d,AA Az]=s.bs:=by grind[List.set_getElem_self]
 refine m88 (by rfl) ?_;rw[hro,EU];refine AQS (Al (n:=ts.length) (by rw[UU.A7,AR,Bk,Bx]) ?_);have AFB:=WC (Az:=Az) ts [] B (ex:=ex);rcases ho:Er ex ts [] B with ⟨r,B1⟩
 rw[ho] at AFB;have qa:(LX Az ex ts B).2=B1:=by grind[LX]
 rw[qa] at hM;refine AC4 (M:=M) JX fq UU (by omega) ih le (o:=(r,B1)) hM ?_ ?_ ts.length 0 [] B s.bs s.ts d (.AB []) (by omega) (by grind) hB (AI _) hs (by grind) (Aa _) hd (.inl rfl) (Ca.refl _ _) (DL.AB _ _) (Q8.AB _ _)
 .rintro h bs tk d' hT hd' hch
  simp only at h;subst h;have e1:LX Az ex ts B=(none,B1):=by rw[LX,ho]
  rw[e1];exact Ev hs hT (hd'.Ax.Ar _) (r:=none) rfl λw hw=>⟨d',tk,hw,hd',hch,rfl⟩
 .rintro ls h bs tk d' acc hs1 hT ND hd' hch hacc
  simp only at h hd';subst h
  have e1:LX Az ex ts B=bif ls.any List.isEmpty then(some [],B1) else match Dn (AQ Az) ls [[]] with
   | none=>(none,B1)
   | some all=>(some (all.map (.mk 3 [] 0)),B1):=by grind[LX]
  obtain⟨dR,PE⟩:=AFB ls hxl rfl (by simp);have gE:bs[e]?=some [d',AA Az]:=B5 hT (by rw[CS le]);simp only[B8,CQ] at PE;obtain⟨v,s',⟨ts',r1,r2,rfl⟩,r3⟩:=AC3 (R:=R) (L:=Cv (env R) 88 0 0 0) JX hacc (by omega) (λl hl=>by grind) hs1 gE rfl rfl;have SE:=r2.keep hd' (λ_ h=>by cases h);have LW:=hch.side r2 (DL.AB _ _);refine AQT ⟨_,_,r3,?_⟩
  have fin:∀(r:Option (List (List Ty))) ,bW v r->(r.map (List.map (Ty.mk 3 [] 0)),B1)=LX Az ex ts B->(∀all,r=some all->all.length<=Az+1) ->
    DC v 0 λa39=>DC v 1 λa40=>BO ⟨bs,ts'⟩ a39 λa42=>bX R 0 0 0 a40 (.AB []) a39 a42 (AA 0) ⟨bs,ts'⟩ (QM (L.rr 88) s.bs.length (λv s'=>∃d' ts',Res v (LX Az ex ts B).1/\Dg 0 ts' 25 d' (AW (LX Az ex ts B).2)/\Ca d d' s.ts ts'/\s'=⟨s.bs.set e [d',AA Az],ts'⟩)):=by
   intro r hr he hle;rw[<-he];cases r with
   | none=>
    cases hr;refine CE rfl (CE rfl (Al (n:=0) rfl (vk (Ah ?_))));rw[Aw (by omega)];exact Am (AFC (Ev hs hT (SE.Ax.Ar _) (r:=none) rfl λw hw=>⟨d',ts',hw,SE,LW,rfl⟩))
   | some all=>
    obtain⟨a,rfl,ha⟩:=hr;have hle':=hle all rfl;refine CE rfl (CE rfl (Al (n:=all.length) (by rw[ha.A7,Hi]) ?_));refine AK4 ha (by omega) (Nv:=ts') ?_ all.length 0 ts' (.AB []) (by omega) (.inl rfl) (Ca.refl _ _);intro Na Mq h5 h6;refine AFC (Ev hs hT (SE.Ax.Ar _) (r:=some (all.map (.mk 3 [] 0))) ⟨Na,rfl,h5.Ax⟩ λw hw=>⟨d',Mq,hw,h6.keep SE (λ_ h=>by cases h),LW.side h6 (DL.AB _ _),rfl⟩)
  refine fin _ r1 ?_ ?_
  .grind
  .intro all h
   cases hb:ls.any List.isEmpty with
   | true=>grind
   | false=>
    rw[hb] at h;simp only[AG] at h;rcases WB ls [[]] all h with h1|h1
    all_goals grind
end
section
variable {R:RT}
theorem Rp {e:Nat} {t6:AV} {s:AM} {QR:QT} (h:QR (.tuple [.AB [],BB false]) s):M6 R 0 0 0 (.ptr e 0) t6 (BB false) s QR:=
 AFD (nt (DF (DF (DF (DF (DF (DF (DF (pk (A4 h))))))))))
theorem bZ {e Az:Nat} {d a:AV} {l:List Ty} {s:AM} {QR:QT} (ha:BF a (AW (B4 l))) (kE:s.bs[e]?=some [d,AA Az]) (h:∀w,Res w (bif AQ Az l.length then none else some l)->QR w s):M6 R 0 0 0 (.ptr e 0) a (BB true) s QR:=by
 refine AFD (nt (Ao (b:=false) (Ao (b:=false) (Al (n:=l.length) (by rw[ha.A7,AR,Bk,Bx]) (Ao (b:=false) (Ao (b:=false) (Cy (AP kE) (Ao (b:=false) (AK (AP kE) (Ao (b:=false) (AU (off:=1) kE rfl (Ao (b:=false) (Fp (pk ?_))))))))))))));have eb:decide ((l.length:Int)>(Az:Nat))=AQ Az l.length:=by simp
 rw[eb];cases hb:AQ Az l.length with
 | true=>rw[hb] at h; exact A4 (h _ rfl)
 | false=>rw[hb] at h; exact Am (AQU (h _ ⟨a,rfl,ha⟩))
theorem AC6 {e Az M:Nat} {ex:Ty->List Ty->Fm} {B0:List Ty} (fq:∀t B,B<+:(ex t B).2) {ts:List Ty} (hxl:∀t∈ts,∀B r,(ex t B).1=some r->r.length<=Az) {ya:AV} (UU:BF ya (AW (B4 ts))) (hl:ts.length*Az<2 ^ 38) (PE:ts.length<2 ^ 38)
  (ih:∀t∈ts,∀B,B0<+:B->(ex t B).2.length<=M->∀x,BJ (ren t) x->∀s,BM s->Ur R e Az 44 [x] (ex t B) B s)
  {s0:AM} (he:e<s0.bs.length) {d0:AV} {o:(List Ty×Bool)×List Ty} (oQ:o.2.length<=M) {QR:QT}
  (hK:∀bs tk d acc,BM ⟨bs,tk⟩->bs.take s0.bs.length=s0.bs.set e [d,AA Az]->Dg 0 tk 25 d (AW o.2)->Ca d0 d s0.ts tk->BF acc (AW (B4 o.1.1))->M6 R 0 0 0 (.ptr e 0) acc (BB o.1.2) ⟨bs,tk⟩ QR) :
  ∀(j p:Nat) (out:List Ty) (ok:Bool) (Bc:List Ty) (bs:List (List AV)) (tk:List (Nat×Nat)) (d acc:AV),p+j=ts.length->Gz ex (ts.drop p) out ok Bc=o->B0<+:Bc->out.length+j*Az<=ts.length*Az ->
   BM ⟨bs,tk⟩->bs.take s0.bs.length=s0.bs.set e [d,AA Az]->s0.bs.length<=bs.length ->
   Dg 0 tk 25 d (AW Bc)->Dg 0 tk 25 acc (AW (B4 out))->Ca d0 d s0.ts tk->DL acc s0.ts->Q8 d acc ->
   kq R 0 0 0 (.ptr e 0) acc (BB ok) ya (AA ts.length) (AA p) ⟨bs,tk⟩ QR:=by
 intro j
 induction j with
 | zero=>
  intro p out ok Bc bs tk d acc hi hseq hB hop hs hT ND hd hacc hch hfr Ji;refine AFE (Ah ?_);rw[Aw (by omega)];rw[Bu (by omega),Gz] at hseq;subst hseq;exact Am (hK bs tk d acc hs hT hd hch hacc.Ax)
 | succ j D2=>
  intro p out ok Bc bs tk d acc hi hseq hB hop hs hT ND hd hacc hch hfr Ji;refine AFE (Ah ?_);rw[Ap (by omega)];obtain⟨c,hc⟩:∃c,ts[p]?=some c:=⟨_,Ak (by omega)⟩;have hrc:(B4 ts)[p]?=some (ren c):=by grind[Bk]
  have hrl:((Af (ren c)).map AV.pv).length=4:=by grind[Ac]
  have hro:=DK (ren c)
  have La:Ab (bs.length+1) ((Af (ren c)).map AV.pv)=true:=by
   obtain⟨k1,n1,i1,t1⟩:=ren c;rfl
  have EA:=(A5.BZ (ren c)).G1;rw[Ku] at hop;refine A4 (AQV (BQ UU (row:=Af (ren c)) (by omega) (by grind[BE]) (Ac _) (by omega) (Cg (Bt ?_))));rw[drop_cons hc,Gz] at hseq;generalize (Af (ren c)).map AV.pv=row at hrl hro La EA;refine CL (Ay bs Z4) hrl rfl (by decide) (AI _) hro (.inl (AI _)) ?_;have e1:(bs++[Z4]).set bs.length row=bs++[row]:=by simp
  rw[e1];have hs1:BM ⟨bs++[row],tk⟩:=BM.app (s:=⟨bs,tk⟩) hs La;have gr:=Ay bs row;have Ro:=(Dy ND row).trans hT;have lb:(bs++[row]).length=bs.length+1:=by simp
  generalize bs++[row]=b1 at hs1 gr Ro lb;have gE:(s0.bs.set e [d,AA Az])[e]?=some [d,AA Az]:=by rw[CS he]
  have hfp:∀(l:List Ty) out ok B,B<+:(Gz ex l out ok B).2:=λl out ok B=>Om fq l out ok B
  have fu:=ih c (A2 hc) Bc hB;have hxc:=hxl c (A2 hc) Bc;have hpre:=fq c Bc;rcases hg:ex c Bc with ⟨r,B1⟩
  rw[hg] at hseq fu hpre hxc;simp only at hseq fu hpre hxc;have Ut:B1.length<=M:=by grind
  obtain⟨w2,s2',⟨d2,Jw,q1,q2,q3,rfl⟩,q4⟩:=fu Ut (.agg row) EA ⟨b1,tk⟩ hs1 (Cv (env R) 44 0 0 0) d rfl rfl (B5 Ro gE) hd;have IZ:(b1.set e [d2,AA Az]).take s0.bs.length=s0.bs.set e [d2,AA Az]:=by simp[*,EE]
  have Jy:=q3.keep hacc Ji;have Kg:Q8 d2 acc:=Ji.Ow q3 hacc;have LW:=hch.trans q3
  have pick:∀(b:Bool) (s:AM) (K:AV->AM->Prop),K (BB (ok&&b)) s->I4 (BB ok) true s (λK=>K (BB b) s) λa40 s1=>A6 (BB ok) a40 (BB false) λa41=>K a41 s1:=by
   intro b s K hK;cases ok with
   | true=>grind[Ao,pk]
   | false=>grind[Bm,pk]
  refine Ad gr hrl ⟨_,_,q4,?_⟩
  have go:∀(a2:AV) (b:Bool) (AK6:List Ty) (r2:List Ty),AK6=out++r2->r2.length<=Az->BF a2 (AW (B4 r2))->Gz ex (ts.drop (p+1)) AK6 (ok&&b) B1=o ->
    DC (.tuple [a2,BB b]) 0 λa33=>DC (.tuple [a2,BB b]) 1 λa34=>(4=4/\4≠0)/\Ct false (Cv (env R) 44 0 0 0) ⟨b1.set e [d2,AA Az],Jw⟩ 25 4 56 acc a33 λa37 AC7=>
     I4 (BB ok) true AC7 (λK=>K a34 AC7) λa40 YQ=>A6 (BB ok) a40 (BB false) λa41=>kr R 0 0 0 (.ptr e 0) a37 a41 ya (AA ts.length) (AA p) YQ QR:=by
   intro a2 b AK6 r2 qa Ns Q1 hseq;subst qa;refine CE rfl (CE rfl ⟨by decide,Ew Jy rfl (by grind[Bk]) Q1 λacc' Me LV UX=>pick b _ (λa41 YQ=>kr R 0 0 0 (.ptr e 0) acc' a41 ya (AA ts.length) (AA p) YQ QR) (AQW (BW (by omega) (by omega) ?_))⟩);have er:B4 out++B4 r2=B4 (out++r2):=by simp[Bk]
   rw[er] at LV;have hd3:=UX.keep q2 Kg.symm;have NZ:=LW.side UX hfr;have hs2:BM ⟨b1.set e [d2,AA Az],Me⟩:=BM.set (s:=⟨b1,tk⟩) hs1 (by simp[Ab,Ar,q2.Ax.Ar]) _;have:=D2 (p+1) (out++r2) (ok&&b) B1 (b1.set e [d2,AA Az]) Me d2 acc' (by omega) hseq (hB.trans hpre) (by grind) hs2 IZ (by grind) hd3 LV NZ (hfr.Ow UX LW.1) (Kg.symm.Ow UX q2).symm
   grind
  cases r with
  | none=>
   cases q1;exact go (.AB []) false out [] (by simp) (by simp) (.inl (.AB _)) (by grind)
  | some r=>
   obtain⟨a2,rfl,Q1⟩:=q1
   grind
end
end Go.Proofs.YtpgfpakdnijngaaGreatDoor
