/-
  A branch's body with its placeholders numbered: the whole term.
-/
import Derived.Test.YtpgfpakdnijngaaGreatDoorTC
import Derived.Test.YtpgfpakdnijngaaGreatDoorTB
import Derived.Test.YtpgfpakdnijngaaGreatDoorW1
set_option linter.all false
namespace Go.Proofs.YtpgfpakdnijngaaGreatDoor
open Go.Tel
attribute [local simp] IJ Mx Jw Kh Dc Fk Ew wO setCells HM Df DQ CT DY alive DI KQ UI jG Hi JU Gk Ip L2 JV qD mC okB qE qH qI qJ qK iG qL qN qO qP qQ qR qT qU qV qW qX okF qY qZ qa qb qc Q0 qd Q1 Q2 Q3 Q4 qe qf qg qh qi qj qm qo qp qq GX qt mD qu qv qw qx qy rA rC rD rF rH CD
mutual
theorem TY (N:Nat):∀(t:Ty) (o:List Nat),(K4 N t o).2.length<=o.length+size t
 | .mk k n i ts,o=>by
  have:=eJ N ts o
  grind[K4,size]
theorem eJ (N:Nat):∀(l:List Ty) (o:List Nat),(G9 N l o).2.length<=o.length+Ac l
 | [],_=>NW _ _
 | t::l,o=>by
  have h1:=TY N t o;have h2:=eJ N l (K4 N t o).2
  grind[G9,Ac]
end
section
variable {R:RT}
mutual
theorem eK (hn:MY R) {P A F e N:Nat} {B:List Ty} (hN:B.length=N) (nA:N<=2 ^ 40):∀(t:Ty),size t<2 ^ 38->GC N t=true->∀(x:AV),A8 (ren t) x->∀(o:List Nat) (s:AQ),BP s->Wt P A F e B s.bs->o.length+size t<2 ^ 40->w7 R P A F N x o t s
 | .mk k n i ts,h,ht,x,hx,o,s,hs,hE,hb,L,c,hro,El,hA,hc=>by
  have lA:=(BA.1 hA).1;have Sj:=BS ts;have Wu:=K1 hn nA ht hx;rw[GC] at ht;simp only[size] at h hb;refine m91 (by simp[C7,FR]) ?_;rw[hro,El];have same:s.bs.set A [c]=s.bs:=by grind[List.set_getElem_self]
  by_cases h7:k=7
  .subst h7
   simp only[CZ,AN,AI,GN,Cq] at ht;obtain⟨hts,uK,hiN⟩:=ht;subst hts;have er:ren (.mk 7 n i [])=.mk 2 (36::HW i.toNat) 0 []:=rfl;rw[er] at hx;obtain⟨a,rfl,ha⟩:=hx;generalize (36::HW i.toNat)=nm at Wu;have g:=Ap (Az s.bs [AG 2,SS nm,AG 0,a]) Z4;have gz:=Az (s.bs++[[AG 2,SS nm,AG 0,a]]) Z4;have gA:=Ap (Ap hA [AG 2,SS nm,AG 0,a]) Z4;have gP:=Ap (Ap hE.hP [AG 2,SS nm,AG 0,a]) Z4;obtain⟨d,ds,he,hd⟩:=hE.he;have ge:=Ap (Ap he [AG 2,SS nm,AG 0,a]) Z4;have tkn:(s.bs++[[AG 2,SS nm,AG 0,a]]++[Z4]).take s.bs.length=s.bs.set A [c]:=AB;have el:(s.bs++[[AG 2,SS nm,AG 0,a]]).length=s.bs.length+1:=AD;refine AEL (Bu (cs:=[AG 2,SS nm,AG 0,a]) rfl (by simp[ha.ok]) (Bm ?_));simp only[el];rw[el] at gz;generalize aH:s.bs++[[AG 2,SS nm,AG 0,a]]++[Z4]=bs at g gz gA gP ge tkn;refine Af g rfl (AH Wu ?_);rintro _ rfl;refine CO rfl (CO rfl (Ak (Ak (AX gP rfl (Ak (C2 (AU ge) (Ak (AM (AU ge) (Ak (AX ge rfl (Ak (Au (n:=N) (by rw[hd.BD,Ab,hN]) (Ak (Ao (pk ?_)))))))))))))));rw[Aq AA];refine A1 (AX gA rfl (AH (jf (l:=jg o) AB hc.A4) ?_));rintro _ rfl;rw[ABx o uK]
   have hcv:(K4 N (.mk 7 n i []) o)=match o.findIdx? (·==i.toNat) with
     | some j=>(var j,o)
     | none=>(var o.length,o++[i.toNat]):=by grind[K4]
   rw[hcv]
   have fin:∀(j:Int) (c':AV) (ts':List (Nat×Nat)) (bs':List (List AV)) (Post:AV->AQ->Prop),Ax s.bs.length c'=true->bs'.take s.bs.length=s.bs.set A [c']->bs'[s.bs.length+1]?=some Z4->(∀ds,BH (ren (var j)) (.agg ds)->Post (.agg ds) ⟨s.bs.set A [c'],ts'⟩) ->
     AEM R 0 0 0 (.ptr (s.bs.length+1) 0) (AG j) ⟨bs',ts'⟩ (QM (L.rr 91) s.bs.length Post):=by
    intro j c' ts' bs' Post hid hT hz hP;refine APy (HO (cs:=[AG 5,SS [],AG j,.AE []]) rfl (Bn hz rfl rfl AK (AO _) rfl (.inl (AO _)) (Af (BZ hz) rfl ?_)));exact eH hs ((Cy AA).trans hT) (by grind[Ag]) rfl (hP _ ⟨_,rfl,.inl (.AE _)⟩)
   cases hf:o.findIdx? (·==i.toNat) with
   | some j=>
    refine Ao ?_;rw[A2 AD];exact Ar (fin j c s.ts bs _ (hc.A4.Ax _) tkn gz λds hds=>⟨c,s.ts,ds,hc,Ck.refl _ _,rfl,hds,rfl⟩)
   | none=>
    refine Ao ?_;rw[Aq AD];refine A1 (AX gA rfl (Au (n:=o.length) (by rw[hc.A4.BD,BU,Bt]) (AX gA rfl (QE ⟨AK,eG hc rfl AB λc' ts' LH hch=>?_⟩))));refine C3 gA AD LH.A4.cells (AO _) LH.A4.ok (.inl (AO _)) ?_;have hT:=EY (j:=A) (c:=[c']) tkn;rw[IY] at hT;have hi:((i.toNat:Nat):Int)=i:=AA;refine⟨AX gA rfl (by rcases hc with rfl|⟨t,rfl,_⟩ <;> simp[Tel.C1,L4]),Au (n:=o.length) (by rw[hc.A4.BD,BU,Bt]) (by simp[Tel.C1,Ni,Fa]),?_⟩;refine fin o.length c' ts' _ _ (LH.A4.Ax _) hT (BV gz AA) λds hds=>⟨c',ts',ds,?_,hch,rfl,hds,rfl⟩
    grind
  .have b7:(k==7)=false:=by grind
   have er:=G2 k n i ts h7;rw[er] at hx;rw[b7] at ht Wu;simp only[AL,AI] at ht Wu;obtain⟨a,rfl,ha⟩:=hx;obtain⟨g0,g1,g2⟩:=I0 (s:=s) (c:=[AG k,SS n,AG i,a]) (d:=[AG k,SS n,AG i,.AE []]);have gx:=Ap (Az s.bs [AG k,SS n,AG i,a]) Z4;have hcv:K4 N (.mk k n i ts) o=(.mk k n i (G9 N ts o).1,(G9 N ts o).2):=by grind[K4]
   rw[hcv];refine AEL (Bu (cs:=[AG k,SS n,AG i,a]) rfl (by simp[ha.ok]) (Bm (Af gx rfl (AH Wu ?_))));rintro _ rfl;refine CO rfl (CO rfl (Bf (Bf (Bf (Bf (Bf (Bf (Bf (pk (Ar (APz (Af gx rfl (Bm ?_)))))))))))));refine Bn (old:=Z4) (Az _ _) rfl rfl AK (AO _) (by simp[ha.ok]) (.inl (AO _)) ?_;have e:((s.bs++[[AG k,SS n,AG i,a]]++[Z4]++[Z4]).set (s.bs++[[AG k,SS n,AG i,a]]++[Z4]).length [AG k,SS n,AG i,a])=(Gb s [AG k,SS n,AG i,a] [AG k,SS n,AG i,a]).bs:=by grind[Gb]
   have l1:(s.bs++[[AG k,SS n,AG i,a]]++[Z4]).length=s.bs.length+2:=AD;have l2:(s.bs++[[AG k,SS n,AG i,a]]).length=s.bs.length+1:=AD;simp only at e l1 l2 ⊢;rw[e];simp only[l1,l2];obtain⟨_,_,q2⟩:=I0 (s:=s) (c:=[AG k,SS n,AG i,a]) (d:=[AG k,SS n,AG i,a]);refine AM (AU q2) (C3 (off:=3) q2 (AY 4) rfl (AO _) rfl (.inl (AO _)) ?_);have e2:(Gb s [AG k,SS n,AG i,a] [AG k,SS n,AG i,a]).bs.set (s.bs.length+2) ([AG k,SS n,AG i,a].set 3 (.AE []))=(Gb s [AG k,SS n,AG i,a] [AG k,SS n,AG i,.AE []]).bs:=by simp[*,Gb]
   show DY ⟨(Gb s [AG k,SS n,AG i,a] [AG k,SS n,AG i,a]).bs.set (s.bs.length+2) ([AG k,SS n,AG i,a].set 3 (.AE [])),s.ts⟩ _ _ _
   rw[e2];refine AM (AU g0) (AX g0 rfl (Au (n:=ts.length) (by rw[ha.BD,Ab,Bv,Bt]) ?_));have tkn:(Gb s [AG k,SS n,AG i,a] [AG k,SS n,AG i,.AE []]).bs.take s.bs.length=s.bs.set A [c]:=by simp[*,Gb]
   refine w8 hN ha AA h7 (o0:=o) (c0:=c) hs lA hE (λt hm o s hs hE hb=>X7 hn hN nA ts AA ht.2.2 t hm o s hs hE hb) (λt _ o=>TY N t o) AA (λc' ts' ds h1 h2 h3=>⟨c',ts',ds,h1,h2,rfl,?_,rfl⟩) ts.length 0 o [] _ s.ts (.AE []) c AA AD AD rfl AD
    (TX hs (by simp[Ag,Ax,ha.Ax]) AR) tkn g0 g1 g2 hc (.inl rfl) (Ck.refl _ _) (DW.AE _ _) (Sr.AE _ _)
   grind[G2]
theorem X7 (hn:MY R) {P A F e N:Nat} {B:List Ty} (hN:B.length=N) (nA:N<=2 ^ 40):∀(ts:List Ty),Ac ts<2 ^ 38->Gg N ts=true->∀t∈ts,∀(o:List Nat) (s:AQ),BP s->Wt P A F e B s.bs->o.length+size t<2 ^ 40->w7 R P A F N (.agg ((Ah (ren t)).map .pv)) o t s
 | [],_,_,_,h=>by cases h
 | u::l,h,ht,t,hm=>by
  simp only[Ac] at h;simp only[Gg,AI] at ht;rcases A3.1 hm with h' | h'
  .rw[h']
   exact eK hn hN nA u AA ht.1 _ (A8.Bk _)
  .exact X7 hn hN nA l AA ht.2 t h'
end
end
mutual
theorem jh {N:Nat}:∀(t:Ty) (o:List Nat),GC N t=true->(∀x∈o,x<N)->∀x∈(K4 N t o).2,x<N
 | .mk k n i ts,o,h,ho=>by
  rw[GC] at h;rw[K4];cases h7:(k==7) with
  | true=>
   grind
  | false=>
   rw[h7] at h;simp only[AL,AI] at h;exact nB ts o h.2.2 ho
theorem nB {N:Nat}:∀(l:List Ty) (o:List Nat),Gg N l=true->(∀x∈o,x<N)->∀x∈(G9 N l o).2,x<N
 | [],_,_,ho=>ho
 | t::l,o,h,ho=>by
  simp only[Gg,AI] at h;exact nB l _ h.2 (jh t o h.1 ho)
end
mutual
theorem nC {N:Nat}:∀(t:Ty) (o:List Nat),GC N t=true->ren (K4 N t o).1=(K4 N t o).1
 | .mk k n i ts,o,h=>by
  rw[GC] at h;rw[K4];cases h7:(k==7) with
  | true=>
   rw[h7] at h;simp only[AN,AI,Cq] at h;simp only[CY,h.2.2,decide_true,AN];split <;> rfl
  | false=>
   rw[h7] at h;simp only[AL,AI] at h;simp only[Gv,AL];rw[G2 _ _ _ _ AB,eM ts o h.2.2]
theorem eM {N:Nat}:∀(l:List Ty) (o:List Nat),Gg N l=true->CC (G9 N l o).1=(G9 N l o).1
 | [],_,_=>rfl
 | t::l,o,h=>by
  simp only[Gg,AI] at h;simp only[G9,CC,nC t o h.1,eM l _ h.2]
end
theorem Et {l m:List (List AV)} {j n:Nat} {v:List AV} (hn:l.length=n) (h:m[j]?=some v):(l++m)[n+j]?=some v:=AB
theorem aN {l m:List (List AV)} {j n:Nat} {v:List AV} (hn:l.length=n):(l++m).set (n+j) v=l++m.set j v:=by
 rw[<-hn,ZF _ _ AA,Nat.add_sub_cancel_left]
theorem aO {rr:Bool} {cs ds:List AV} {s0:AQ} {bs:List (List AV)} {ts:List (Nat×Nat)} {Post:AV->AQ->Prop} (h0:BP s0) (hT:bs.take s0.bs.length=s0.bs) (E6:BK bs s0.bs.length ts.length cs=some ds) (hP:Post (.agg ds) ⟨s0.bs,ts⟩):QM rr s0.bs.length Post (.agg cs) ⟨bs,ts⟩:=by
 refine aM (ds:=ds) ?_ E6 ?_
 .rw[DE]
  intro b hb;exact h0 b AB
 grind
abbrev Z5:List AV:=.AE []::Z4
def CU (b:Br) (x:AV):Prop:=∃a y,x=.agg (a::y)/\BF a (AZ b.bounds)/\BH b.body (.agg y)
section
variable {R:RT}
theorem eN {e:Nat} {B:List Ty} (hB:∀t∈B,shT t/\SJ t=true) {o:List Nat} (ho:∀x∈o,x<B.length) (WQ:o.length<2 ^ 38) {s0:AQ} (hs0:BP s0) {d:AV} {dr:List AV} (he:s0.bs[e]?=some (d::dr)) (hd:BF d (AZ B)) {xs y:List AV} {t:Ty} (hy:BH t (.agg y)) {c f:AV} (hc:BF c (Ad (jg o)))
  {rr:Bool} {Post:AV->AQ->Prop} (hP:∀v ts',CU ⟨o.map λx=>B.getD x bW,t⟩ v->Ck (.AE []) (.AE []) s0.ts ts'->Post v ⟨s0.bs,ts'⟩) :
  ∀(j q:Nat) (tk:List (Nat×Nat)) (b:AV),q+j=o.length->Dn 0 tk 25 b (AZ ((o.take q).map λx=>B.getD x bW))->Ck (.AE []) (.AE []) s0.ts tk->DW b s0.ts ->
   w9 R 0 0 0 (.ptr s0.bs.length 0) (.ptr (s0.bs.length+2) 0) (.ptr (s0.bs.length+5) 0) c (AG o.length) (AG q) ⟨s0.bs++[[.ptr e 0],xs,Z5,[c],[f],b::y],tk⟩ (QM rr s0.bs.length Post):=by
 have xA:y.length=4/\y.all A7=true:=by
  obtain⟨k,n,i,ts⟩:=t;obtain⟨a,hy,ha⟩:=hy;cases hy;exact⟨rfl,by simp[ha.ok]⟩
 intro j
 induction j with
 | zero=>
  intro q tk b hi hb hC hF;refine AEN (Ao ?_);rw[A2 AA];rw[CV AA] at hb;have g5:(s0.bs++[[.ptr e 0],xs,Z5,[c],[f],b::y])[s0.bs.length+5]?=some (b::y):=Et rfl rfl;have g2:(s0.bs++[[.ptr e 0],xs,Z5,[c],[f],b::y])[s0.bs.length+2]?=some Z5:=Et rfl rfl;refine Ar (AP0 (Af g5 AB (Bn g2 AB rfl AK (AO _) (by simp only[Gz,hb.A4.ok,xA.2,Ft]) (.inl (AO _)) (Af (BZ g2) AB ?_))));obtain⟨b',c1,c2⟩:=hb.A4.close ((s0.bs++[[.ptr e 0],xs,Z5,[c],[f],b::y]).set (s0.bs.length+2) (b::y)) s0.bs.length tk.length;obtain⟨ds,c3,c4⟩:=hy.Ih ((s0.bs++[[.ptr e 0],xs,Z5,[c],[f],b::y]).set (s0.bs.length+2) (b::y)) s0.bs.length tk.length;refine aO (ds:=b'::ds) hs0 ?_ H8 (hP _ tk ⟨b',ds,rfl,c2,c4⟩ hC);simp
 | succ j D9=>
  intro q tk b hi hb hC hF;refine AEN (Ao ?_);rw[Aq AA];obtain⟨u,hu⟩:∃u,o[q]?=some u:=⟨_,Ay AA⟩;have huB:=ho u (A5 hu);have hBu:B[u]?=some (B.getD u bW):=AB;have hm:=hB _ (A5 hBu);have g0:(s0.bs++[[.ptr e 0],xs,Z5,[c],[f],b::y])[s0.bs.length]?=some [.ptr e 0]:=Et (j:=0) rfl rfl;have g5:(s0.bs++[[.ptr e 0],xs,Z5,[c],[f],b::y])[s0.bs.length+5]?=some (b::y):=Et rfl rfl;have ge:(s0.bs++[[.ptr e 0],xs,Z5,[c],[f],b::y])[e]?=some (d::dr):=AB;refine A1 (AP1 (BX hc (row:=[.sc (.int .i64 u)]) AA (by simp[*,Ad]) rfl AA (Ek (AM (AU g5) (AX g5 rfl (AX g0 rfl (C2 (AU ge) (AM (AU ge) (AX ge rfl (BX hd (row:=Ah (B.getD u bW)) AA (by grind[BL]) (Aj _) AA (Ce (AH (SK hm.1 hm.2 (A8.Bk _)) ?_))))))))))));intro r hr;refine Er hr.Fy ⟨AK,Ja hb rfl AB λb' GJ hb' hch=>?_⟩;have e1:((o.take q).map λx=>B.getD x bW)++[B.getD u bW]=(o.take (q+1)).map λx=>B.getD x bW:=by grind[List.take_add_one]
  rw[e1] at hb';refine AM (AU g5) (C3 g5 AD hb'.A4.cells (AO _) hb'.A4.ok (.inl (AO _)) ?_);have e2:(s0.bs++[[.ptr e 0],xs,Z5,[c],[f],b::y]).set (s0.bs.length+5) (b'::y)=s0.bs++[[.ptr e 0],xs,Z5,[c],[f],b'::y]:=aN rfl;refine⟨AM (AU g5) (DL _ _),AX g5 rfl (Gr hb),AP2 (Be AA AA ?_)⟩
  show w9 R _ _ _ _ _ _ _ _ _ ⟨(s0.bs++[[.ptr e 0],xs,Z5,[c],[f],b::y]).set (s0.bs.length+5) (b'::y),GJ⟩ _
  rw[e2];have:=D9 (q+1) GJ b' AA hb' (hC.side hch hF) (hF.QF hch hC.1)
  grind
theorem SL (hn:MY R) {e:Nat} {B:List Ty} (nA:B.length<=2 ^ 40) (hB:∀t∈B,shT t/\SJ t=true) {p:Ty} (hp:size p<2 ^ 38) (ht:GC B.length p=true) {x:AV} (hx:A8 (ren p) x) {s:AQ} (hs:BP s) {d:AV} {dr:List AV} (he:s.bs[e]?=some (d::dr)) (hd:BF d (AZ B)) {L:BI} (hro:L.ro=0) (El:L.rt=0) :
  ∃v s',(∃ts',CU (JY B p) v/\Ck (.AE []) (.AE []) s.ts ts'/\s'=⟨s.bs,ts'⟩)/\BG (env R) L 45 [.ptr e 0,x] s v s':=by
 refine m45 AR ?_;rw[hro,El];have hel:=(BA.1 he).1;have hxx:=hx
 obtain⟨k,n,i,ts,hr⟩:∃k n i ts,ren p=.mk k n i ts:=by
  obtain⟨k,n,i,ts⟩:=ren p;simp
 rw[hr] at hx;obtain⟨a,rfl,ha⟩:=hx;have WQ:=TY B.length p [];refine AP3 (Bu (cs:=[.ptr e 0]) rfl rfl (Bu (cs:=[AG k,SS n,AG i,a]) rfl (by simp[ha.ok]) (Bm (Bm (Bm ?_)))));simp only[Db,DD,Cc,Bo,B4,B6,CI,Nat.reduceAdd];have g4:(s.bs++[[.ptr e 0],[AG k,SS n,AG i,a],Z5,[.AE []],[.pv (.sc .nilFunc)]])[s.bs.length+4]?=some [.pv (.sc .nilFunc)]:=Et rfl rfl;refine C3 g4 AK rfl (AO _) rfl (.inl (AO _)) ?_;have e4:∀c,(s.bs++[[.ptr e 0],[AG k,SS n,AG i,a],Z5,[.AE []],[.pv (.sc .nilFunc)]]).set (s.bs.length+4) c=s.bs++[[.ptr e 0],[AG k,SS n,AG i,a],Z5,[.AE []],c]:=λ_=>aN rfl
 simp only[e4,List.set_cons_zero];generalize aH:s.bs++[[.ptr e 0],[AG k,SS n,AG i,a],Z5,[.AE []],[eI s.bs.length (s.bs.length+3) (s.bs.length+4)]]=bs;have Qh:bs.length=s.bs.length+5:=AB;have k0:bs[s.bs.length]?=some [.ptr e 0]:=AB;have k1:bs[s.bs.length+1]?=some [AG k,SS n,AG i,a]:=by rw[<-aH]; simp
 have k3:bs[s.bs.length+3]?=some [.AE []]:=by rw[<-aH]; simp
 have k4:bs[s.bs.length+4]?=some [eI s.bs.length (s.bs.length+3) (s.bs.length+4)]:=AB;have ke:bs[e]?=some (d::dr):=AB
 have hok:BP ⟨bs,s.ts⟩:=by
  intro b hb;rw[<-aH] at hb;simp only[B7,A3,D4,D5] at hb
  show Ag bs.length b=true
  rw[Qh];rcases hb with hb|rfl|rfl|rfl|rfl|rfl
  .exact Bg AA b (hs b hb)
  .simp[Ag,Ax]; omega
  .simp[Ag,Ax,ha.Ax]
  all_goals simp[*,Ag,Ax]
 refine AX k4 rfl (Af k1 rfl ?_);obtain⟨v,s',⟨c',ts',ds,r1,r2,rfl,r4,rfl⟩,r6⟩:=eK hn (e:=e) (P:=s.bs.length) (A:=s.bs.length+3) (F:=s.bs.length+4) (N:=B.length) rfl nA p hp ht _ hxx [] ⟨bs,s.ts⟩ hok ⟨k0,k4,⟨d,dr,ke,hd⟩,AA,AA,AA⟩ AB (CT (env R) 45 0 0 0) (.AE []) rfl rfl k3 (.inl rfl);rw[nC p [] ht] at r4
 have hds:ds.length=4/\ds.all A7=true:=by
  generalize (K4 B.length p []).1=t at r4;obtain⟨k,n,i,ts⟩:=t;obtain⟨a,hy,ha⟩:=r4;cases hy;exact⟨rfl,by simp[ha.ok]⟩
 have AZm:∀f,(s.bs++[[.ptr e 0],[AG k,SS n,AG i,a],Z5,[c'],[f],Z5]).set (s.bs.length+5) (.AE []::ds)=s.bs++[[.ptr e 0],[AG k,SS n,AG i,a],Z5,[c'],[f],.AE []::ds]:=λ_=>aN rfl
 refine⟨_,_,r6,HO (cs:=.AE []::ds) ?_ ?_⟩
 .simp only[Ew,cellsOf,hds.1,hds.2,B4,B6,and_self,Nat.reduceAdd,AY,Gu]
  match ds,hds.1 with
  | [d1,d2,d3,d4],_=>rfl
 .subst aH
  have e3:∀c,(s.bs++[[.ptr e 0],[AG k,SS n,AG i,a],Z5,[.AE []],[eI s.bs.length (s.bs.length+3) (s.bs.length+4)]]).set (s.bs.length+3) c=s.bs++[[.ptr e 0],[AG k,SS n,AG i,a],Z5,c,[eI s.bs.length (s.bs.length+3) (s.bs.length+4)]]:=λ_=>aN rfl
  simp only[e3];refine Bm ?_;simp only[Db,DD,Cc,Bo,B4,B6,CI,Nat.reduceAdd];have g5:(s.bs++[[.ptr e 0],[AG k,SS n,AG i,a],Z5,[c'],[eI s.bs.length (s.bs.length+3) (s.bs.length+4)],Z5])[s.bs.length+5]?=some Z5:=Et rfl rfl;refine Bn g5 AB rfl AK (AO _) (by simp[*]) (.inl (AO _)) ?_;simp only[AZm];have g3:(s.bs++[[.ptr e 0],[AG k,SS n,AG i,a],Z5,[c'],[eI s.bs.length (s.bs.length+3) (s.bs.length+4)],.AE []::ds])[s.bs.length+3]?=some [c']:=Et rfl rfl;refine AX g3 rfl (Au (n:=(K4 B.length p []).2.length) (by rw[r1.A4.BD,BU,Bt]) ?_);simp only[B6] at WQ;exact eN hB (jh p [] ht AD) AA hs he hd r4 r1.A4 (λv ts' h1 h2=>⟨ts',h1,h2,rfl⟩) (K4 B.length p []).2.length 0 ts' (.AE []) AA (.inl rfl) ⟨r2.1,r2.2.1,.inl rfl⟩ (DW.AE _ _)
end
mutual
def ji (m:Int->Bool) (b:Ty):Ty->Int->Ty
 | .mk c n i ts,k=>bif c==7 then(bif m i&&k==0 then b else .mk c n i ts) else bif c==3 then .mk c n i (RN m b ts k) else .mk c n i ts
def RN (m:Int->Bool) (b:Ty):List Ty->Int->List Ty
 | [],_=>[]
 | t::l,k=>ji m b t k::RN m b l (k-Bb m t)
end
mutual
theorem nD (m:Int->Bool) (b:Ty):∀(t:Ty) (k:Int),k<0\/(Bb m t:Int)<=k->ji m b t k=t
 | .mk c n i ts,k,h=>by
  rw[Bb] at h;rw[ji];cases h7:c==7 with
  | true=>
   grind
  | false=>
   cases h3:c==3 with
   | true=>
    rw[h7,h3] at h;simp only[AN,AL] at h ⊢;rw[VF m b ts k h]
   | false=>rfl
theorem VF (m:Int->Bool) (b:Ty):∀(l:List Ty) (k:Int),k<0\/(Cg m l:Int)<=k->RN m b l k=l
 | [],_,_=>rfl
 | t::l,k,h=>by
  rw[Cg] at h;rw[RN,nD m b t k AA,VF m b l (k-Bb m t) AA]
end
mutual
theorem xB (m:Int->Bool) (b:Ty):∀(t:Ty) (k:Nat),k<Bb m t->ji m b t k=Ky m b t k
 | .mk c n i ts,k,h=>by
  rw[Bb] at h;rw[ji,Ky];cases h7:c==7 with
  | true=>
   grind
  | false=>
   cases hc:c==3 with
   | true=>
    rw[h7,hc] at h;simp only[AN,AL] at h ⊢;rw[nE m b ts k h]
   | false=>rfl
theorem nE (m:Int->Bool) (b:Ty):∀(l:List Ty) (k:Nat),k<Cg m l->RN m b l k=KR m b l k
 | [],_,h=>by rfl
 | t::l,k,h=>by
  rw[Cg] at h;rw[RN,KR]
  by_cases hk:k<Bb m t
  .rw[Aq hk,AN,xB m b t k hk,VF m b l _ AA]
  .have:(k:Int)-(Bb m t:Nat)=((k-Bb m t:Nat):Int):=by omega
   rw[A2 hk,AL,nD m b t k AA,this,nE m b l (k-Bb m t) AA]
end
section
variable {R:RT}
abbrev xC (V:Nat):AV:=.func (.func 137) [] [.ptr V 0]
theorem xD {V:Nat} {v:Nat} {i:Int} {s:AQ} (hs:BP s) (hV:s.bs[V]?=some [AG v]) (L:BI):BG (env R) L 137 [AG i,.ptr V 0] s (BB (i==(v:Int))) s:=by
 obtain⟨w,s',⟨rfl,rfl⟩,hc⟩:=AZn (R:=R) (L:=L) (s:=s) (t0:=AG i) (t1:=.ptr V 0) (Post:=λw s'=>w=BB (i==(v:Int))/\s'=s) AR (AIb (AX hV rfl (Av (by
  have:=JZ (rr:=L.rr 137) hs (m:=[]) (p:=.sc (.bool (i==(v:Int)))) (Post:=λw s'=>w=BB (i==(v:Int))/\s'=s) ⟨rfl,rfl⟩
  simp_all))))
 omega
def AIc (R:RT) (C V v:Nat) (b:Ty) (y:AV) (x:AV) (t:Ty) (k:Int) (s:AQ):Prop:=∀(L:BI),L.ro=0->L.rt=0->s.bs[C]?=some [AG k]->s.bs[V]?=some [AG v] ->
 ∃w s',(∃ts' ds,w=.agg ds/\BH (ren (ji (·==(v:Int)) b t k)) (.agg ds)/\Ck (.AE []) (.AE []) s.ts ts'/\s'=⟨s.bs.set C [AG (k-Bb (·==(v:Int)) t)],ts'⟩)/\BG (env R) L 59 [x,.ptr C 0,xC V,y] s w s'
theorem ABy {C V v:Nat} (hCV:C≠V) {b:Ty} {yc:List AV} {ts:List Ty} {a:AV} (ha:BF a (AZ (CC ts))) (hl:Ac ts<2 ^ 38) {k i k0:Int} {n:List UInt8} (hk7:k≠7) (Te:-(2 ^ 40)-2 ^ 38<=k0-Ac ts) (hk2:k0<2 ^ 40) {s0:AQ} (hs0:BP s0) (hC:C<s0.bs.length) (hV:s0.bs[V]?=some [AG v]) (hyl:yc.length=4)
  (ih:∀t∈ts,∀(k:Int) (s:AQ),BP s->-(2 ^ 40)-2 ^ 38<=k-size t->k<2 ^ 40->AIc R C V v b (.agg yc) (.agg ((Ah (ren t)).map .pv)) t k s)
  {rr:Bool} {Post:AV->AQ->Prop}
  (hP:∀ts' ds,Ck (.AE []) (.AE []) s0.ts ts'->BH (.mk k n i (CC (RN (·==(v:Int)) b ts k0))) (.agg ds)->Post (.agg ds) ⟨s0.bs.set C [AG (k0-Cg (·==(v:Int)) ts)],ts'⟩) :
  ∀(j q:Nat) (kc:Int) (done:List Ty) (bs:List (List AV)) (tk:List (Nat×Nat)) (acc:AV),q+j=ts.length->done++RN (·==(v:Int)) b (ts.drop q) kc=RN (·==(v:Int)) b ts k0->done.length=q->kc-Cg (·==(v:Int)) (ts.drop q)=k0-Cg (·==(v:Int)) ts->k0-Ac ts<=kc-Ac (ts.drop q)->kc<2 ^ 40 ->
   BP ⟨bs,tk⟩->bs.take s0.bs.length=s0.bs.set C [AG kc]->bs[s0.bs.length+1]?=some yc->bs[s0.bs.length+2]?=some Z4->bs[s0.bs.length+3]?=some [AG k,SS n,AG i,acc] ->
   Dn 0 tk 25 acc (AZ (CC done))->Ck (.AE []) (.AE []) s0.ts tk->DW acc s0.ts ->
   AEO R 0 0 0 (.ptr C 0) (xC V) (.ptr (s0.bs.length+1) 0) (.ptr (s0.bs.length+2) 0) (.ptr (s0.bs.length+3) 0) a (AG ts.length) (AG q) ⟨bs,tk⟩ (QM rr s0.bs.length Post):=by
 have Sj:=BS ts;intro j
 induction j with
 | zero=>
  intro q kc done bs tk acc hi hd hdl hk hks MU hs hT h1 h2 h3 hb hch hfr;refine AEP (Ao ?_);rw[A2 AA];rw[CA AA,RN,Gy] at hd;rw[CA AA,Cg] at hk;rw[hd] at hb;refine Ar (AP4 (Af h3 rfl (Bn h2 rfl rfl AK (AO _) (by simp[hb.A4.ok]) (.inl (AO _)) (Af (BZ h2) rfl ?_))));obtain⟨ds,c1,c2⟩:=BH.Ih (v:=.mk k n i (CC (RN (·==(v:Int)) b ts k0))) (cs:=[AG k,SS n,AG i,acc]) ⟨acc,rfl,hb.A4⟩ (bs.set (s0.bs.length+2) [AG k,SS n,AG i,acc]) s0.bs.length tk.length;have hkc:kc=k0-Cg (·==(v:Int)) ts:=AA;rw[hkc] at hT;exact eH hs0 ((Cy AA).trans hT) rfl c1 (hP tk ds hch c2)
 | succ j D9=>
  intro q kc done bs tk acc hi hd hdl hk hks MU hs hT h1 h2 h3 hb hch hfr;refine AEP (Ao ?_);rw[Aq AA];obtain⟨t,ht⟩:∃t,ts[q]?=some t:=⟨_,Ay AA⟩;have El:(CC ts)[q]?=some (ren t):=by simp[*,Bv]
  have VE:=A5 ht;have hrl:((Ah (ren t)).map AV.pv).length=4:=by grind[Aj]
  have hro:=Cx (ren t)
  have Lz:Ag (bs.length+1) ((Ah (ren t)).map AV.pv)=true:=by
   obtain⟨k1,n1,i1,t1⟩:=ren t;rfl
  refine A1 (AP5 (BX ha (row:=Ah (ren t)) AA (by simp[*,BL]) (Aj _) AA (Ce (Bm ?_))));have iI:=ih t VE;have hdr:ts.drop q=t::ts.drop (q+1):=drop_cons ht;rw[hdr,RN] at hd;rw[hdr,Cg] at hk;rw[hdr,Ac] at hks;have hcs:=P6 (·==(v:Int)) t;generalize (Ah (ren t)).map AV.pv=row at hrl hro Lz iI;refine Bn (Az bs Z4) hrl rfl AK (AO _) hro (.inl (AO _)) ?_;have e:(bs++[Z4]).set bs.length row=bs++[row]:=AD;rw[e];have l3:=(BA.1 h3).1;have Nk:s0.bs.length<=bs.length:=AA;have je:=(ED Nk row).trans hT;have hs':BP ⟨bs++[row],tk⟩:=BP.app (s:=⟨bs,tk⟩) hs Lz;have gC:(s0.bs.set C [AG kc])[C]?=some [AG kc]:=by rw[Ca hC]
  have gV:(s0.bs.set C [AG kc])[V]?=some [AG v]:=AB;have lV:=(BA.1 hV).1;obtain⟨w,s',⟨ts',ds,rfl,r4,r2,rfl⟩,r6⟩:=iI kc ⟨bs++[row],tk⟩ hs' AA MU (CT (env R) 59 0 0 0) rfl rfl (CN je gC) (CN je gV);have g1:=Ap h1 row;have g2:=Ap h2 row;have g3:=Ap h3 row;have g3':((bs++[row]).set C [AG (kc-Bb (·==(v:Int)) t)])[s0.bs.length+3]?=some [AG k,SS n,AG i,acc]:=BV g3 AA;refine AM (AU g3) (AX g3 rfl (Af (Az bs row) hrl (Af g1 hyl ⟨_,_,r6,Er r4 ⟨AK,Ja (r2.keep hb (λ_ h=>by cases h)) rfl ?_ ?_⟩⟩)))
  .grind[Bv]
  .intro b' GJ hb' LH
   have er:CC done++[ren (ji (·==(v:Int)) b t kc)]=CC (done++[ji (·==(v:Int)) b t kc]):=by simp[Bv]
   rw[er] at hb';refine AM (AU g3') (C3 g3' AD hb'.A4.cells (AO _) hb'.A4.ok (.inl (AO _)) ?_);refine⟨AM (AU g3') (DL _ _),AX g3' rfl (Gr hb),AP6 (Be AA AA ?_)⟩;have rV:(((bs++[row]).set C [AG (kc-Bb (·==(v:Int)) t)]).set (s0.bs.length+3) [AG k,SS n,AG i,b']).take s0.bs.length=s0.bs.set C [AG (kc-Bb (·==(v:Int)) t)]:=by simp[*,Cy,EY]
   have hs2:BP ⟨(bs++[row]).set C [AG (kc-Bb (·==(v:Int)) t)],ts'⟩:=BP.set (s:=⟨bs++[row],tk⟩) hs' rfl _
   have fin:=D9 (q+1) (kc-Bb (·==(v:Int)) t) (done++[ji (·==(v:Int)) b t kc]) _ GJ b' AA (by simp[*]) (by simp[*]) AA AA AA
    (BP.set (s:=⟨(bs++[row]).set C [AG (kc-Bb (·==(v:Int)) t)],ts'⟩) hs2 (by simp[Ag,Ax,hb'.A4.Ax]) _) rV (BV (BV g1 AA) AA) (BV (BV g2 AA) AA) (BZ g3')
    hb' ((hch.trans r2).side LH hfr) (hfr.QF LH (BM hch.1 r2.1))
   assumption
end
theorem A8.agg {t:Ty} {x:AV} (h:A8 t x):∃cs,x=.agg cs:=by
 obtain⟨k,n,i,ts⟩:=t;obtain⟨a,rfl,_⟩:=h;simp
theorem Ae.open {E:Env} {f:FuncId} {args args':List AV} {Post:AV->Prop} (hk:E.kind f=.rd) (hc:E.clone f=false) (hl:args.length=args'.length) (h1:BK [] 0 0 args=some args') (h2:BK [] 0 0 args'=some args') (h:Ae E f args' Post):Ae E f args Post:=by
 obtain⟨v,hp,hv⟩:=h;refine⟨v,hp,λL s=>?_⟩;obtain⟨n,hn⟩:=hv L s;refine⟨n,λm hm=>?_⟩;rw[<-hn m hm];cases m with
 | zero=>rfl
 | succ m=>
  grind[Dw,EJ]
theorem A8.G3 {t:Ty} {x:AV} (h:A8 t x) (bs:List (List AV)) (n m:Nat):close bs n m x=some x:=by
 obtain⟨k,c,i,ts⟩:=t;obtain⟨a,rfl,ha⟩:=h;simp[ha.close]
section
variable {R:RT}
theorem VG (hn:MY R) {N:Nat} (hN:N<=2 ^ 40) {k i:Int} {n:List UInt8} {ts:List Ty} (ht:GC N (.mk k n i ts)=true) {x:AV} (hx:BH (ren (.mk k n i ts)) x) :
  Ae (env R) 92 [x] λr=>r=bif k==7 then .tuple [AG i,BB true] else .tuple [AG 0,BB false]:=by
 obtain⟨x',h1,h2⟩:=hx.closed [] 0;exact Ae.open (args':=[x']) AR AR rfl (by simp[*]) (by simp[BK,h2.G3]) (K1 hn hN ht h2)
theorem QG (hn:MY R) {N:Nat} (hN:N<=2 ^ 40) (v:Nat) (t:Ty) (inv:Bool) (hs:size t<2 ^ 60) (ht:GC N t=true) {x:AV} (hx:BH (ren t) x):Ae (env R) 62 [x,AG v,BB inv] λr=>r=BB (Cw v inv t):=by
 obtain⟨x',h1,h2⟩:=hx.closed [] 0;exact Ae.open (args':=[x',AG v,BB inv]) AR AR rfl (by simp[*]) (by simp[BK,h2.G3,Tel.close]) (M6 hn hN v t inv hs ht x' h2)
theorem VH {rr:Bool} {C:Nat} {c:List AV} {t:Ty} {cs:List AV} {s0:AQ} {bs:List (List AV)} {ts:List (Nat×Nat)} {Post:AV->AQ->Prop} (h0:BP s0) (hT:bs.take s0.bs.length=s0.bs.set C c) (hc:Ag s0.bs.length c=true) (ht:BH t (.agg cs)) (hP:∀ds,BH t (.agg ds)->Post (.agg ds) ⟨s0.bs.set C c,ts⟩):QM rr s0.bs.length Post (.agg cs) ⟨bs,ts⟩:=by
 obtain⟨ds,c1,c2⟩:=ht.Ih bs s0.bs.length ts.length
 grind[eH]
mutual
theorem nG (hn:MY R) {N:Nat} (nA:N<=2 ^ 40) {C V v:Nat} (hCV:C≠V) {b:Ty} {y:AV} (hy:A8 (ren b) y):∀(t:Ty),size t<2 ^ 38->GC N t=true->∀(x:AV),BH (ren t) x->∀(k:Int) (s:AQ),BP s->-(2 ^ 40)-2 ^ 38<=k-size t->k<2 ^ 40->AIc R C V v b y x t k s
 | .mk k n i ts,h,ht,x,hx,kc,s,hs,Te,hk2,L,hro,El,hC,hV=>by
  have lC:=(BA.1 hC).1;have Sj:=BS ts;have Wu:=VG hn nA ht hx;rw[GC] at ht;simp only[size] at h Te;obtain⟨yc,rfl⟩:=hy.agg;have hy':=hy;obtain⟨xA,hyo,hyi,_⟩:=hy'.cells;refine m59 (by simp[C7,FR]) ?_;rw[hro,El];have same:s.bs.set C [AG kc]=s.bs:=by grind[List.set_getElem_self]
  have start:∀(k' i':Int) (nm:List UInt8) (a:AV) (rows:List (List PV)) (Post:AV->AQ->Prop),BF a rows->Ae (env R) 92 [.agg [AG k',SS nm,AG i',a]] (λr=>r=bif k==7 then .tuple [AG i,BB true] else .tuple [AG 0,BB false]) ->
    (∀bs,bs.take s.bs.length=s.bs.set C [AG kc]->BP ⟨bs,s.ts⟩->bs.length=s.bs.length+3->bs[s.bs.length]?=some [AG k',SS nm,AG i',a]->bs[s.bs.length+1]?=some yc->bs[s.bs.length+2]?=some Z4 ->
     Dc (BB (k==7)) (
      D0 (env R) (CT (env R) 59 0 0 0) (xC V) [AG (bif k==7 then i else 0)] ⟨bs,s.ts⟩ λa22 aP=>
      Dc a22 (
      JV aP (.ptr C 0) λa24=>
      Df (env R) aP none a24 λa25=>
      DI .i64 .sub a25 (AG 1) λa26=>
      JV aP (.ptr C 0) λa27=>
      HM (CT (env R) 59 0 0 0) aP 1 a27 a26 λVA=>
      JV VA (.ptr C 0) λa29=>
      Df (env R) VA none a29 λa30=>
      DI .i64 .eql a30 (AG (-1)) λa31=>
      Dc a31 (
      Df (env R) VA (some 4) (.ptr (s.bs.length+1) 0) λa32=>
      HM (CT (env R) 59 0 0 0) VA 4 (.ptr (s.bs.length+2) 0) a32 λrU=>
      Df (env R) rU (some 4) (.ptr (s.bs.length+2) 0) λr=>
      QM (L.rr 59) s.bs.length Post r rU) (
      nH R 0 0 0 (.ptr s.bs.length 0) (.ptr (s.bs.length+2) 0) VA (QM (L.rr 59) s.bs.length Post))) (
      nH R 0 0 0 (.ptr s.bs.length 0) (.ptr (s.bs.length+2) 0) aP (QM (L.rr 59) s.bs.length Post))) (
      AER R 0 0 0 (.ptr C 0) (xC V) (.ptr s.bs.length 0) (.ptr (s.bs.length+1) 0) (.ptr (s.bs.length+2) 0) ⟨bs,s.ts⟩ (QM (L.rr 59) s.bs.length Post))) ->
    AES R 0 0 0 (.agg [AG k',SS nm,AG i',a]) (.ptr C 0) (xC V) (.agg yc) s (QM (L.rr 59) s.bs.length Post):=by
   intro k' i' nm a rows Post ha hv hh;refine AP8 (Bu (cs:=[AG k',SS nm,AG i',a]) rfl (by simp[ha.ok]) (Bu (cs:=yc) rfl hyo (Bm ?_)));simp only[Db,DD,Cc,Bo,B4,B6,CI,Nat.reduceAdd];have g0:(s.bs++[[AG k',SS nm,AG i',a],yc,Z4])[s.bs.length]?=some [AG k',SS nm,AG i',a]:=Et (j:=0) rfl rfl;refine Af g0 rfl (AH hv ?_);rintro _ rfl
   have:=hh (s.bs++[[AG k',SS nm,AG i',a],yc,Z4]) AB (by
    intro d hd;simp only[B7,A3,D4,D5] at hd
    show Ag (s.bs++_).length d=true
    rcases hd with hd|rfl|rfl|rfl
    .exact Bg AD d (hs d hd)
    .simp[Ag,Ax,ha.Ax]
    .grind[Bg]
    rfl) AD g0 (Et rfl rfl) (Et rfl rfl)
   cases hb7:k==7 with
   | true=>rw[hb7] at this; assumption
   | false=>simp_all
  have back:∀(k' i':Int) (nm:List UInt8) (a:AV) (u:List Ty) (kd:Int) (bs:List (List AV)) (Post:AV->AQ->Prop),BF a (AZ u)->bs.take s.bs.length=s.bs.set C [AG kd]->bs[s.bs.length]?=some [AG k',SS nm,AG i',a]->bs[s.bs.length+2]?=some Z4 ->
    (∀ds,BH (.mk k' nm i' u) (.agg ds)->Post (.agg ds) ⟨s.bs.set C [AG kd],s.ts⟩)->nH R 0 0 0 (.ptr s.bs.length 0) (.ptr (s.bs.length+2) 0) ⟨bs,s.ts⟩ (QM (L.rr 59) s.bs.length Post):=by
   intro k' i' nm a u kd bs Post ha hT g0 g2 hP;refine AP9 (Af g0 rfl (Bn g2 rfl rfl AK (AO _) (by simp[ha.ok]) (.inl (AO _)) (Af (BZ g2) rfl ?_)));exact VH hs ((Cy AA).trans hT) rfl (t:=.mk k' nm i' u) ⟨a,rfl,ha⟩ hP
  by_cases h7:k=7
  .subst h7
   simp only[CZ,AN,AI,GN,Cq] at ht;obtain⟨hts,uK,hiN⟩:=ht;subst hts;have er:ren (.mk 7 n i [])=.mk 2 (36::HW i.toNat) 0 []:=rfl;rw[er] at hx;obtain⟨a,rfl,ha⟩:=hx;have xE:ji (·==(v:Int)) b (.mk 7 n i []) kc=bif (i==(v:Int))&&kc==0 then b else .mk 7 n i []:=AR
   have xF:Bb (·==(v:Int)) (.mk 7 n i [])=bif i==(v:Int) then 1 else 0:=AR
   rw[xE,xF];refine start 2 0 (36::HW i.toNat) a _ _ ha Wu λbs hT hok hl g0 g1 g2=>?_
   have gV:bs[V]?=some [AG v]:=CN hT AB;have gC:bs[C]?=some [AG kc]:=CN hT AB;refine A1 ⟨_,_,xD (i:=i) hok gV _,?_⟩;cases hiv:i==(v:Int) with
   | false=>
    grind[Ar,Ck.refl]
   | true=>
    simp only[CY,AN];refine A1 (C2 (AU gC) (AX gC rfl (I7 AA AA (C2 (AU gC) (C3 gC AD rfl (AO _) rfl (.inl (AO _)) ?_)))));have gC':(bs.set C [AG (kc-1)])[C]?=some [AG (kc-1)]:=by rw[Ca AA]
    have je:(bs.set C [AG (kc-1)]).take s.bs.length=s.bs.set C [AG (kc-1)]:=by simp[*,EY]
    refine C2 (AU gC') (AX gC' rfl (Av ?_));have e0:(kc-1==-1)=(kc==0):=AB;rw[e0];cases tM:kc==0 with
    | true=>
     simp only[AN];refine A1 (Af (BV g1 AA) xA (Bn (BV g2 AA) xA rfl AK (AO _) hyo (.inl (AO _)) (Af (BZ (BV g2 AA)) xA ?_)));refine VH hs ((Cy AA).trans je) rfl hy'.Fy λds hds=>⟨s.ts,ds,rfl,hds,Ck.refl _ _,rfl⟩
    | false=>
     simp only[AL];refine Ar (back 2 0 _ a [] (kc-1) _ _ ha je (BV g0 AA) (BV g2 AA) λds hds=>⟨s.ts,ds,rfl,AB,Ck.refl _ _,rfl⟩)
  .have b7:(k==7)=false:=by grind
   have er:=G2 k n i ts h7;rw[er] at hx;rw[b7] at ht;simp only[AL,AI] at ht;obtain⟨a,rfl,ha⟩:=hx;refine start k i n a _ _ ha Wu λbs hT hok hl g0 g1 g2=>?_
   rw[b7];refine Ar (AQB (AM (AU g0) (AX g0 rfl (EB ?_))));cases h3:k==3 with
   | false=>
    have hne:(k != 3)=true:=AB;rw[hne];have xE:ji (·==(v:Int)) b (.mk k n i ts) kc=.mk k n i ts:=by grind[ji]
    have xF:Bb (·==(v:Int)) (.mk k n i ts)=0:=by grind[Bb]
    rw[xE,xF];have:=back k i n a (CC ts) kc bs (λw s'=>∃ts' ds,w=.agg ds/\BH (ren (.mk k n i ts)) (.agg ds)/\Ck (.AE []) (.AE []) s.ts ts'/\s'=⟨s.bs.set C [AG (kc-(0:Nat))],ts'⟩) ha hT g0 g2 λds hds=>⟨s.ts,ds,rfl,AB,Ck.refl _ _,AD⟩
    exact A1 (Af g0 rfl (Bn g2 rfl rfl AK (AO _) (by simp[ha.ok]) (.inl (AO _)) (Af (BZ g2) rfl (VH hs ((Cy AA).trans hT) rfl (t:=.mk k n i (CC ts)) ⟨a,rfl,ha⟩ λds hds=>⟨s.ts,ds,rfl,AB,Ck.refl _ _,AD⟩))))
   | true=>
    have hne:(k != 3)=false:=AB;rw[hne];have xE:ji (·==(v:Int)) b (.mk k n i ts) kc=.mk k n i (RN (·==(v:Int)) b ts kc):=by grind[ji]
    have xF:Bb (·==(v:Int)) (.mk k n i ts)=Cg (·==(v:Int)) ts:=by grind[Bb]
    rw[xE,xF,G2 k n i _ h7];refine Ar (AQC (Af g0 rfl (Bm ?_)));simp only[hl];have gl:(bs++[Z4])[s.bs.length+3]?=some Z4:=AB;refine Bn gl rfl rfl AK (AO _) (by simp[ha.ok]) (.inl (AO _)) ?_;have gl2:((bs++[Z4]).set (s.bs.length+3) [AG k,SS n,AG i,a])[s.bs.length+3]?=some [AG k,SS n,AG i,a]:=BZ gl;refine AM (AU gl2) (C3 (off:=3) gl2 (AY 4) rfl (AO _) rfl (.inl (AO _)) ?_);have eb:((bs++[Z4]).set (s.bs.length+3) [AG k,SS n,AG i,a]).set (s.bs.length+3) ([AG k,SS n,AG i,a].set 3 (.AE []))=bs++[[AG k,SS n,AG i,.AE []]]:=AB
    show DY ⟨((bs++[Z4]).set (s.bs.length+3) [AG k,SS n,AG i,a]).set (s.bs.length+3) ([AG k,SS n,AG i,a].set 3 (.AE [])),s.ts⟩ _ _ _
    rw[eb];have q0:=Ap g0 [AG k,SS n,AG i,.AE []];refine AM (AU q0) (AX q0 rfl (Au (n:=ts.length) (by rw[ha.BD,Ab,Bv,Bt]) ?_))
    exact ABy (C:=C) (V:=V) hCV (yc:=yc) ha AA h7 (k0:=kc) AA hk2 hs lC hV xA (λt hm k s hs h1 h2=>eO hn nA hCV hy' ts AA ht.2.2 t hm k s hs h1 h2) (λts' ds h1 h2=>⟨ts',ds,rfl,h2,h1,rfl⟩) ts.length 0 kc [] _ s.ts (.AE []) AA AD rfl AD AD hk2
     (BP.app (s:=⟨bs,s.ts⟩) hok AR) ((ED AA _).trans hT) (Ap g1 _) (Ap g2 _) AB (.inl rfl) (Ck.refl _ _) (DW.AE _ _)
theorem eO (hn:MY R) {N:Nat} (nA:N<=2 ^ 40) {C V v:Nat} (hCV:C≠V) {b:Ty} {y:AV} (hy:A8 (ren b) y):∀(ts:List Ty),Ac ts<2 ^ 38->Gg N ts=true->∀t∈ts,∀(k:Int) (s:AQ),BP s->-(2 ^ 40)-2 ^ 38<=k-size t->k<2 ^ 40->AIc R C V v b y (.agg ((Ah (ren t)).map .pv)) t k s
 | [],_,_,_,h=>by cases h
 | u::l,h,ht,t,hm=>by
  simp only[Ac] at h;simp only[Gg,AI] at ht;rcases A3.1 hm with h' | h'
  .rw[h']
   exact nG hn nA hCV hy u AA ht.1 _ (A8.Bk _).Fy
  .exact eO hn nA hCV hy l AA ht.2 t h'
end
end
def Res (v:AV) (r:Option (List Ty)):Prop:=match r with
 | none=>v=.tuple [.AE [],BB false]
 | some l=>∃a,v=.tuple [a,BB true]/\BF a (AZ (CC l))
abbrev Aa (A6:Nat):Nat->Bool:=λn=>decide (A6<n)
theorem FF {rr:Bool} {e A6:Nat} {v d':AV} {r:Option (List Ty)} {s0:AQ} {bs:List (List AV)} {ts:List (Nat×Nat)} {Post:AV->AQ->Prop} (h0:BP s0) (hT:bs.take s0.bs.length=s0.bs.set e [d',AG A6]) (hd:Ax s0.bs.length d'=true) (hr:Res v r) (hP:∀w,Res w r->Post w ⟨s0.bs.set e [d',AG A6],ts⟩):QM rr s0.bs.length Post v ⟨bs,ts⟩:=by
 have hok:((bs.take s0.bs.length).all (Ag s0.bs.length))=true:=by
  have:=BP.set h0 (c:=[d',AG A6]) (by grind[Ag,Ax]) ts (j:=e);rw[DE];intro b hb;have:=this b AB
  grind
 cases r with
 | none=>
  cases hr;refine J7 (ds:=[.AE [],BB false]) hok rfl ?_
  show Post _ ⟨bs.take _,ts⟩
  rw[hT];exact hP _ rfl
 | some l=>
  obtain⟨a,rfl,ha⟩:=hr;obtain⟨a',h1,h2⟩:=ha.close bs s0.bs.length ts.length;refine J7 (ds:=[a',BB true]) hok (by simp[*]) ?_
  show Post _ ⟨bs.take _,ts⟩
  rw[hT];exact hP _ ⟨a',rfl,h2⟩
theorem BH.cells {t:Ty} {y:List AV} (h:BH t (.agg y)):y.length=4/\y.all A7=true/\∀n,Ag n y=true:=by
 obtain⟨k,n,i,ts⟩:=t;obtain⟨a,hy,ha⟩:=h;cases hy;exact⟨rfl,by simp[ha.ok],λn=>by simp[Ag,Ax,ha.Ax]⟩
theorem BH.agg {t:Ty} {x:AV} (h:BH t x):∃cs,x=.agg cs:=by
 obtain⟨k,n,i,ts⟩:=t;obtain⟨a,rfl,_⟩:=h;simp
mutual
theorem Nt (N:Nat):∀t:Ty,GC N t=FD (λi=>decide (0<=i)&&decide (i<N)) t
 | .mk k n i ts=>by rw[GC,FD,eP N ts]
theorem eP (N:Nat):∀l:List Ty,Gg N l=EG (λi=>decide (0<=i)&&decide (i<N)) l
 | []=>rfl
 | t::l=>by rw[Gg,EG,Nt N t,eP N l]
end
theorem FG {L:BI} {s:AQ} {a y:AV} {es l:List Ty} {K:AV->AQ->Prop} (ha:Dn 0 s.ts 25 a (AZ es)) (El:L.rt=0) (hl:es.length+l.length<2 ^ 39) (hy:BF y (AZ l)) (h:∀a' ts',Dn 0 ts' 25 a' (AZ (es++l))->Ck a a' s.ts ts'->K a' ⟨s.bs,ts'⟩) :
  HB false L s 25 4 56 a y K:=by
 have h1:=Ab es;have h2:=Ab l;refine RM (m:=AZ l) ha El (λr hr=>HP hr) (λr hr=>HP hr) AA (C9 hy λr hr=>HP hr) ?_ AA AA λa' ts' h3 h4=>h a' ts' (by grind[EC]) h4
 grind[Hj,Cx]
theorem eR {α:Type} {A6:Nat} {g:α->List Ty->F9}:∀(l:List α) (out B r:List Ty),out.length<=A6->(Cj (Aa A6) g l out B).1=some r->r.length<=A6
 | [],out,B,r,ho,h=>by grind[Cj]
 | a::l,out,B,r,ho,h=>by
  rw[Cj] at h;rcases hr:g a B with ⟨_|s,B1⟩
  .grind
  .rw[hr] at h
   simp only at h;cases hb:Aa A6 (out++s).length with
   | true=>grind
   | false=>
    rw[hb] at h;exact eR l (out++s) B1 r AB h
theorem RO {A6:Nat} {ex:List Ty->F9} {v:Nat}:∀(f:Nat) (t:Ty) (B r:List Ty),(CQ (Aa A6) ex v f t B).1=some r->r.length<=A6+1
 | 0,t,B,r,h=>by grind[CQ]
 | f+1,t,B,r,h=>by
  rw[CQ] at h;cases ho:Cw v false t with
  | false=>grind
  | true=>
   rw[ho] at h;simp only[AN] at h;rcases he:ex B with ⟨_|cs,B1⟩
   .grind
   .rw[he] at h
    have:=eR cs [] B1 r AD h;omega
section
variable {R:RT}
def Wv (R:RT) (e A6 f:Nat) (args:List AV) (o:F9) (B:List Ty) (s:AQ):Prop:=∀(L:BI) (d:AV),L.ro=0->L.rt=0->s.bs[e]?=some [d,AG A6]->Dn 0 s.ts 25 d (AZ B) ->
 ∃v s',(∃d' ts',Res v o.1/\Dn 0 ts' 25 d' (AZ o.2)/\Ck d d' s.ts ts'/\s'=⟨s.bs.set e [d',AG A6],ts'⟩)/\BG (env R) L f (.ptr e 0::args) s v s'
end
mutual
theorem Gc:∀t:Ty,(Al t).length<=size t
 | .mk k n i ts=>by
  have:=Oi ts
  grind[Al,size]
theorem Oi:∀l:List Ty,(Bs l).length<=Ac l
 | []=>by simp[Bs]
 | t::l=>by
  have:=Gc t;have:=Oi l
  grind[Bs,Ac]
end
mutual
theorem eS (N:Nat):∀(t:Ty) (o:List Nat),size (K4 N t o).1<=size t
 | .mk k n i ts,o=>by
  have:=X8 N ts o
  grind[K4,size,Ac]
theorem X8 (N:Nat):∀(l:List Ty) (o:List Nat),Ac (G9 N l o).1<=Ac l
 | [],_=>by grind[G9]
 | t::l,o=>by
  have h1:=eS N t o;have h2:=X8 N l (K4 N t o).2
  grind[G9,Ac]
end
theorem eT (B:List Ty) (p:Ty):size (JY B p).body<=size p/\(JY B p).bounds.length<=size p:=by grind[eS,TY,JY]
def Md (b:Br):Bool:=decide (b.bounds.length<=6)&&decide ((Al b.body).length<=3)
def Cs (o:List Br×Int):Bool:=o.2==0&&decide (o.1.length<=4)
def xP:Nat->Ty->List Br×Int
 | 0,_=>([],2)
 | f+1,t=>bif !(verdict t==0)||!(CB 0 t) then([],2) else match BE (Aa 32) (depth t) t [] with
  | (none,_)=>([],4)
  | (some ps,B)=>bif (ps.map (JY B)).all Md&&(((ps.map (JY B)).flatMap Br.bounds).all λb=>Cs (xP f b)) then(ps.map (JY B),0) else([],4)
def xR:Nat->Ty->List Br×Int
 | 0,_=>([],2)
 | f+1,t=>bif !(verdict t==0)||!(CB 0 t) then([],2) else match DK (Aa 32) (depth t) t with
  | none=>([],4)
  | some l=>bif (l.map EA).all λb=>Md b&&b.bounds.all λb=>Cs (xR f b) then(l.map EA,0) else([],4)
theorem DX {t:Ty} (h:verdict t=0):valid t=true/\size t<=200/\depth t<=12:=by grind[verdict]
mutual
def Ee (P:Ty->Prop):Ty->Prop
 | .mk k _ _ ts=>(k=6->∀b body,ts=[b,body]->P b)/\(k=3\/k=4\/k=6->NB P ts)
def NB (P:Ty->Prop):List Ty->Prop
 | []=>True
 | t::l=>Ee P t/\NB P l
end
theorem X9 {P:Ty->Prop}:∀{l:List Ty} {t:Ty},NB P l->t∈l->Ee P t
 | a::l,t,h,ht=>by
  rw[NB] at h;rcases A3.1 ht with rfl|ht
  .grind
  .exact X9 h.2 ht
mutual
theorem YA {P Q:Ty->Prop} (h:∀b,P b->Q b):∀t:Ty,Ee P t->Ee Q t
 | .mk k n i ts,ht=>by
  rw[Ee] at ht ⊢;exact⟨λh6 b body e=>h b (ht.1 h6 b body e),λhk=>VI h ts (ht.2 hk)⟩
theorem VI {P Q:Ty->Prop} (h:∀b,P b->Q b):∀l:List Ty,NB P l->NB Q l
 | [],_=>trivial
 | t::l,hl=>by
  rw[NB] at hl ⊢;exact⟨YA h t hl.1,VI h l hl.2⟩
end
def HK (P:Ty->Prop) (ex:List Ty->F9):Prop:=∀B,(∀b∈B,P b)->∀b∈(ex B).2,P b
section
variable {BC:Nat->Bool} {P:Ty->Prop}
theorem RP {α:Type} {g:α->List Ty->F9} (hg:∀a,HK P (g a)):∀(l:List α) (out:List Ty),HK P (Cj BC g l out)
 | [],out,B,h=>h
 | a::l,out,B,h=>by
  have h1:=hg a B h;rw[Cj];rcases hr:g a B with ⟨_|r,B1⟩
  .grind
  .rw[hr] at h1
   simp only;cases BC (out++r).length with
   | true=>grind
   | false=>exact RP hg l _ B1 h1
theorem VJ {ex:List Ty->F9} (hx:HK P ex) (v:Nat):∀(f:Nat) (t:Ty),HK P (CQ BC ex v f t)
 | 0,_,B,h=>h
 | f+1,t,B,h=>by
  have h1:=hx B h;rw[CQ];cases Cw v false t with
  | false=>exact h
  | true=>
   simp only[AN];rcases hr:ex B with ⟨_|r,B1⟩
   .grind
   .rw[hr] at h1
    exact RP (λc=>VJ hx v f _) r [] B1 h1
theorem jk {ex:List Ty->F9} (hx:HK P ex) (v:Nat) (t:Ty):HK P (B8 BC ex v t):=by
 intro B h;rw[B8];cases Cw v true t with
 | true=>exact h
 | false=>exact VJ hx v _ t B h
theorem RQ {ex:Ty->List Ty->F9}:∀(l out:List Ty) (ok:Bool),(∀t∈l,HK P (ex t))->∀B,(∀b∈B,P b)->∀b∈(HV ex l out ok B).2,P b
 | [],_,_,_,_,h=>h
 | t::l,out,ok,hx,B,h=>by
  have h1:=hx t AD B h;rw[HV];rcases hr:ex t B with ⟨_|r,B1⟩
  .rw[hr] at h1
   exact RQ l out false (λa ha=>hx a AB) B1 h1
  .rw[hr] at h1
   exact RQ l _ ok (λa ha=>hx a AB) B1 h1
theorem YB {ex:Ty->List Ty->F9}:∀(l:List Ty) (out:List (List Ty)),(∀t∈l,HK P (ex t))->∀B,(∀b∈B,P b)->∀b∈(FA ex l out B).2,P b
 | [],_,_,_,h=>h
 | t::l,out,hx,B,h=>by
  have h1:=hx t AD B h;rw[FA];rcases hr:ex t B with ⟨_|r,B1⟩
  .grind
  .rw[hr] at h1
   exact YB l _ (λa ha=>hx a AB) B1 h1
theorem YC:∀(f:Nat) (t:Ty) (σ:List Nat),valid t=true->CB σ.length t=true->Ee P t->HK P (BE BC f (inst σ 0 t))
 | 0,_,_,_,_,_=>λB h=>h
 | f+1,.mk k n i ts,σ,hv,hc,ha=>by
  intro B h;have ih:=λt σ=>YC f t σ
  have Lh:=hv;simp only[valid,AI] at hv;rw[Ee] at ha
  have mem:∀(hk:k≠6) (bX:k≠5),(k=3\/k=4\/k=6)->∀t∈ts.map (inst σ 0),HK P (BE BC f t):=by
   intro hk bX MU t ht;obtain⟨t0,bZ,rfl⟩:=Cv.1 ht;exact ih t0 σ (Bz hv.2 bZ) (Fj hk (Dd hc bX) bZ) (X9 (ha.2 MU) bZ)
  rcases D1 σ 0 Lh with ⟨rfl,rfl,rfl,_,_,⟨v,h2,h3⟩|h3⟩|⟨b5,h3⟩
  .grind[BE]
  .grind[BE]
  .rw[h3,BE]
   cases tM:k==0||k==2||k==7 with
   | true=>exact h
   | false=>
    simp only[AL];cases h4:k==4 with
    | true=>
     have:k=4:=AB;subst this;simp only[AN];rw[FB (k:=4) AK];have:=RQ (ts.map (inst σ 0)) [] true (mem AK AK AD) B h;omega
    | false=>
     simp only[AL];cases MU:k==3 with
     | true=>
      have:k=3:=AB;subst this;simp only[AN];rw[FB (k:=3) AK];have:=YB (ts.map (inst σ 0)) [] (mem AK AK AD) B h;generalize FA (BE BC f) (ts.map (inst σ 0)) [] B=o at this ⊢;rcases o with ⟨_|ls,B1⟩
      .omega
      .simp only
       cases ls.any List.isEmpty with
       | true=>grind
       | false=>
        grind
     | false=>
      simp only[AL];cases Zy:k==6 with
      | false=>exact h
      | true=>
       have:k=6:=AB;subst this;rcases Ki hv.1 with h' | h' | h' | h' | h' | h' | ⟨_,rfl,rfl,b,body,rfl,hcb⟩
       iterate 6 exact absurd h' AD
       have hPb:=ha.1 rfl b body rfl;have UO:=ha.2 AD;rw[NB,NB] at UO;simp only[A9,AI] at hv;obtain⟨_,Km,Oj,_⟩:=hv;have eb:inst σ (0+ER 6 0) b=b:=JW σ b 0 Km hcb
       have hcy:CB (1+σ.length) body=true:=by
        have:=Dd hc AK;simp only[EF,AI] at this;have h2:=this.2.1;rw[Nf];exact h2
       have So:sub B.length 0 (inst σ 1 body)=inst (B.length::σ) 0 body:=Jz B.length σ body 0 Oj AA
       have hkb:HK P (BE BC f b):=by
        have:=ih b [] Km hcb UO.1
        grind[Ej]
       have hky:=ih body (B.length::σ) Oj AB UO.2.1;simp only[AN,Di,eb,dA];have e1:inst σ (0+ER 6 (0+1)) body=inst σ 1 body:=rfl;rw[e1,So];have h1:=hky (B++[b]) AB;generalize BE BC f (inst (B.length::σ) 0 body) (B++[b])=o at h1 ⊢;rcases o with ⟨_|l,B1⟩
       .omega
       .simp only at h1 ⊢
        have h2:=RP (BC:=BC) (g:=B8 BC (BE BC f b) B.length) (λa=>jk hkb B.length a) l [] B1 h1
        grind
end
section
variable {R:RT}
theorem ABz (hn:MY R) {e A6 v M S f:Nat} {B0:List Ty} {q:Int->Bool} (hq:∀i,q i=true->0<=i/\i<2 ^ 40) (J8:A6<2 ^ 20) (hS:S<2 ^ 37) {ex:List Ty->F9} (jl:∀B,B<+:(ex B).2)
  {t:Ty} (htq:FD q t=true) (RI:0<Bb (·==(v:Int)) t) (htS:size t<=S) {xc:List AV} (hx:BH (ren t) (.agg xc)) {cs:List Ty} (E6:cs.length<=A6) {a:AV} (ha:BF a (AZ (CC cs)))
  (ih:∀c∈cs,∀(B:List Ty),B0<+:B->(CQ (Aa A6) ex v f (Ky (·==(v:Int)) c t 0) B).2.length<=M->∀x,BH (ren (Ky (·==(v:Int)) c t 0)) x->∀s,BP s->Wv R e A6 114 [x,AG v] (CQ (Aa A6) ex v f (Ky (·==(v:Int)) c t 0) B) B s)
  {s0:AQ} (hs0:BP s0) (he:e<s0.bs.length) {d0:AV} {o:F9} (rX:o.2.length<=M) {rr:Bool} {Post:AV->AQ->Prop}
  (hP:∀w d' ts',Res w o.1->Dn 0 ts' 25 d' (AZ o.2)->Ck d0 d' s0.ts ts'->Post w ⟨s0.bs.set e [d',AG A6],ts'⟩) :
  ∀(j p:Nat) (out Bc:List Ty) (bs:List (List AV)) (tk:List (Nat×Nat)) (d acc:AV),p+j=cs.length->Cj (Aa A6) (λc B=>CQ (Aa A6) ex v f (Ky (·==(v:Int)) c t 0) B) (cs.drop p) out Bc=o->B0<+:Bc->out.length<=A6 ->
   BP ⟨bs,tk⟩->bs.take s0.bs.length=s0.bs.set e [d,AG A6]->bs[s0.bs.length]?=some xc->bs[s0.bs.length+1]?=some [AG v] ->
   Dn 0 tk 25 d (AZ Bc)->Dn 0 tk 25 acc (AZ (CC out))->Ck d0 d s0.ts tk->DW acc s0.ts->Sr d acc ->
   xG R 0 0 0 (.ptr e 0) (.ptr s0.bs.length 0) (.ptr (s0.bs.length+1) 0) acc a (AG cs.length) (AG p) ⟨bs,tk⟩ (QM rr s0.bs.length Post):=by
 obtain⟨hx4,hxo,hxi⟩:=hx.cells;intro j
 induction j with
 | zero=>
  intro p out Bc bs tk d acc hi EM hlo hout hs hT h0 h1 hd hacc hch hfr KP;refine xH (Ao ?_);rw[A2 AA];rw[CA AA,Cj] at EM;subst EM;exact Ar (AIe (FF hs0 hT (hd.A4.Ax _) (r:=some out) ⟨acc,rfl,hacc.A4⟩ λw hw=>hP w d tk hw hd hch))
 | succ j D9=>
  intro p out Bc bs tk d acc hi EM hlo hout hs hT h0 h1 hd hacc hch hfr KP;refine xH (Ao ?_);rw[Aq AA];obtain⟨c,hc⟩:∃c,cs[p]?=some c:=⟨_,Ay AA⟩;have hrc:(CC cs)[p]?=some (ren c):=by grind[Bv]
  have MW:=A5 hc;have hrl:((Ah (ren c)).map AV.pv).length=4:=by grind[Aj]
  have hro:=Cx (ren c)
  have Lz:Ag (bs.length+1) ((Ah (ren c)).map AV.pv)=true:=by
   obtain⟨k1,n1,i1,t1⟩:=ren c;rfl
  have EN:=A8.Bk (ren c);refine A1 (AIf (BX ha (row:=Ah (ren c)) AA (by grind[BL]) (Aj _) AA (Ce (Bm ?_))));have hdr:cs.drop p=c::cs.drop (p+1):=drop_cons hc;rw[hdr,Cj] at EM;generalize (Ah (ren c)).map AV.pv=row at hrl hro Lz EN;refine Bn (Az bs Z4) hrl rfl AK (AO _) hro (.inl (AO _)) ?_;have e1:(bs++[Z4]).set bs.length row=bs++[row]:=AD;rw[e1];have l1:=(BA.1 h1).1;have Nk:s0.bs.length<=bs.length:=AA;refine Bm ?_;have ebl:(bs++[row]).length=bs.length+1:=AD;have gC:(bs++[row]++[[AG 0]])[bs.length+1]?=some [AG 0]:=AD;simp only[ebl];refine C3 gC AK rfl (AO _) rfl (.inl (AO _)) ?_;have e2:(bs++[row]++[[AG 0]]).set (bs.length+1) ([AG 0].set 0 (AG 0))=bs++[row]++[[AG 0]]:=AD
  show Df _ ⟨(bs++[row]++[[AG 0]]).set (bs.length+1) ([AG 0].set 0 (AG 0)),tk⟩ _ _ _
  rw[e2];have hs1:BP ⟨bs++[row],tk⟩:=BP.app (s:=⟨bs,tk⟩) hs Lz;have hs2:BP ⟨bs++[row]++[[AG 0]],tk⟩:=BP.app (s:=⟨bs++[row],tk⟩) hs1 rfl;have g0:=Ap (Ap h0 row) [AG 0];have g1:=Ap (Ap h1 row) [AG 0];have gr:=Ap (Az bs row) [AG 0];have JF:=(ED (n:=s0.bs.length) AA [AG 0]).trans ((ED Nk row).trans hT);generalize hB2:bs++[row]++[[AG 0]]=b2 at gC hs2 g0 g1 gr JF;have lb2:b2.length=bs.length+2:=AB;refine Af g0 hx4 (Af gr hrl ?_);obtain⟨w1,s1',⟨OD,ds,rfl,r1,r2,rfl⟩,r3⟩:=nG hn (N:=2 ^ 40) (AY _) (C:=bs.length+1) (V:=s0.bs.length+1) (v:=v) AA (b:=c) EN t AA (by grind[Nt,Ga]) (.agg xc) hx 0 ⟨b2,tk⟩ hs2 AA AA (CT (env R) 114 0 0 0) rfl rfl gC g1;have ez:ji (·==(v:Int)) c t 0=Ky (·==(v:Int)) c t 0:=xB (·==(v:Int)) c t 0 RI;rw[ez] at r1;have hs3:BP ⟨b2.set (bs.length+1) [AG (0-Bb (·==(v:Int)) t)],OD⟩:=BP.set (s:=⟨b2,tk⟩) hs2 rfl _;have VK:(b2.set (bs.length+1) [AG (0-Bb (·==(v:Int)) t)]).take s0.bs.length=s0.bs.set e [d,AG A6]:=(Cy AA).trans JF;have k0:(b2.set (bs.length+1) [AG (0-Bb (·==(v:Int)) t)])[s0.bs.length]?=some xc:=BV g0 AA;have k1:(b2.set (bs.length+1) [AG (0-Bb (·==(v:Int)) t)])[s0.bs.length+1]?=some [AG v]:=BV g1 AA;have gE:(s0.bs.set e [d,AG A6])[e]?=some [d,AG A6]:=by rw[Ca he]
  refine⟨_,_,r3,AX k1 rfl ?_⟩;have lb3:(b2.set (bs.length+1) [AG (0-Bb (·==(v:Int)) t)]).length=bs.length+2:=by rw[TF,lb2]
  generalize b2.set (bs.length+1) [AG (0-Bb (·==(v:Int)) t)]=b3 at hs3 VK k0 k1 lb3;have hdk:=r2.keep hd (λ_ h=>by cases h);have AEU:=r2.keep hacc (λ_ h=>by cases h);have rY:=hch.side r2 (DW.AE _ _);have jm:=ih c MW Bc hlo;have hlen:=IM (BC:=Aa A6) jl v f (Ky (·==(v:Int)) c t 0) Bc;have hrb:=RO (A6:=A6) (ex:=ex) (v:=v) f (Ky (·==(v:Int)) c t 0) Bc;have hfp:∀(l:List Ty) out B,B<+:(Cj (Aa A6) (λc B=>CQ (Aa A6) ex v f (Ky (·==(v:Int)) c t 0) B) l out B).2:=λl out B=>Iy (λc B=>IM jl v f _ B) l out B
  rcases hg:CQ (Aa A6) ex v f (Ky (·==(v:Int)) c t 0) Bc with ⟨r,B1⟩
  rw[hg] at jm hlen hrb EM;simp only at jm hlen hrb EM
  have Ww:B1.length<=M:=by
   cases r with
   | none=>grind
   | some r=>
    simp only at EM;cases hb:Aa A6 (out++r).length with
    | true=>grind
    | false=>
     grind
  obtain⟨w2,s2',⟨d2,KS,q1,q2,q3,rfl⟩,q4⟩:=jm Ww (.agg ds) r1 ⟨b3,OD⟩ hs3 (CT (env R) 114 0 0 0) d rfl rfl (CN VK gE) hdk;have hT4:(b3.set e [d2,AG A6]).take s0.bs.length=s0.bs.set e [d2,AG A6]:=by simp[*,EY]
  have kE:(b3.set e [d2,AG A6])[e]?=some [d2,AG A6]:=by rw[Ca AA]
  have LZ:Sr d2 acc:=KP.QF q3 AEU;have Kn:=q3.keep AEU KP;have Ma:=rY.trans q3;have heq:Tel.C1 (AG v) (AG v)=true:=by simp[Tel.C1,Ni,Fa]
  cases r with
  | none=>
   cases q1;simp only at EM;subst EM;refine⟨_,_,q4,CO rfl (CO rfl ⟨AX g1 rfl heq,AK,FG (l:=[]) Kn rfl (by rw[Bv,Bt]; grind) (.inl (.AE _)) λacc' Nu _ WW=>?_⟩)⟩;exact nt (BQ (BQ (BQ (BQ (BQ (BQ (BQ (pk (A1 (FF hs0 hT4 (q2.A4.Ax _) (r:=none) rfl λw hw=>hP w d2 Nu hw (WW.keep q2 LZ.symm) (Ma.side WW hfr)))))))))))
  | some r=>
   obtain⟨a2,rfl,UO⟩:=q1;have AZs:=hrb r rfl;refine⟨_,_,q4,CO rfl (CO rfl ⟨AX g1 rfl heq,AK,FG Kn rfl (by rw[Bv,Bv,Bt,Bt]; omega) UO λacc' Nu MV WW=>?_⟩)⟩;have er:CC out++CC r=CC (out++r):=by simp[Bv]
   rw[er] at MV;have hd3:=WW.keep q2 LZ.symm;have Ol:=Ma.side WW hfr;refine nt (Ak (b:=false) (Ak (b:=false) (Au (n:=(out++r).length) (by rw[MV.A4.BD,Ab,Bv,Bt]) (Ak (b:=false) (Ak (b:=false) (C2 (AU kE) (Ak (b:=false) (AM (AU kE) (Ak (b:=false) (AX (off:=1) kE rfl (Ak (b:=false) (Fm (pk ?_)))))))))))))
   have eb:decide (((out++r).length:Int)>(A6:Nat))=Aa A6 (out++r).length:=by
    simp only[Aa];rw[PE];simp only[Cq];omega
   rw[eb];simp only at EM;cases hb:Aa A6 (out++r).length with
   | true=>
    rw[hb] at EM;simp only[AN] at EM;subst EM;exact A1 (FF hs0 hT4 (q2.A4.Ax _) (r:=none) rfl λw hw=>hP w d2 Nu hw hd3 Ol)
   | false=>
    rw[hb] at EM;simp only[AL] at EM;refine Ar (AIg (Be AA AA ?_));have hs4:BP ⟨b3.set e [d2,AG A6],Nu⟩:=BP.set (s:=⟨b3,OD⟩) hs3 (by simp[Ag,Ax,q2.A4.Ax]) _;have fin:=D9 (p+1) (out++r) B1 (b3.set e [d2,AG A6]) Nu d2 acc' AA EM (hlo.trans hlen) AB hs4 hT4 (BV k0 AA) (BV k1 AA) hd3 MV Ol (hfr.QF WW (BM rY.1 q3.1)) (LZ.symm.QF WW q2).symm
    grind
end
structure ExB (A6 v M W:Nat) (B0:List Ty) (q:Int->Bool) (ex:List Ty->F9):Prop where
 pre:∀B,B<+:(ex B).2
 res:∀B r,B0<+:B->(ex B).1=some r->(ex B).2.length<=M->r.length<=A6/\∀c∈r,FD q c=true/\(∀inv,Cw v inv c=false)/\Bb (·==(v:Int)) c=0/\size c<=W/\pat c=true
section
variable {R:RT}
def rZ (R:RT) (e A6 v M W S:Nat) (B0:List Ty) (q:Int->Bool) (ex:List Ty->F9) (f:Nat):Prop:=∀(t:Ty),FD q t=true->pat t=true->Cw v true t=false->Bb (·==(v:Int)) t<=f->size t+Bb (·==(v:Int)) t*W<=S->∀(B:List Ty),B0<+:B->(CQ (Aa A6) ex v f t B).2.length<=M ->
 ∀x,BH (ren t) x->∀s,BP s->Wv R e A6 114 [x,AG v] (CQ (Aa A6) ex v f t B) B s
theorem nI (hn:MY R) {e A6 v M W S:Nat} {B0:List Ty} {q:Int->Bool} (hq:∀i,q i=true->0<=i/\i<2 ^ 40) (J8:A6<2 ^ 20) (hS:S<2 ^ 37) {ex:List Ty->F9} {b:Ty} (hx:ExB A6 v M W B0 q ex) (hv:B0[v]?=some b)
  (hex:∀(B:List Ty) (s:AQ),BP s->B0<+:B->(ex B).2.length<=M->Wv R e A6 44 [.agg ((Ah b).map .pv)] (ex B) B s)
  {f:Nat} (hih:f=0\/∃f',f=f'+1/\rZ R e A6 v M W S B0 q ex f'):rZ R e A6 v M W S B0 q ex f:=by
 intro t ht hp hoc hf htS B hB hM x lq s hs L d hro El hE hd;obtain⟨xc,rfl⟩:=lq.agg;obtain⟨hx4,hxo,hxi⟩:=lq.cells;have le:=(BA.1 hE).1;have same:s.bs.set e [d,AG A6]=s.bs:=by grind[List.set_getElem_self]
 refine AZt AR ?_;rw[hro,El];have g0:(s.bs++[xc,[AG v]])[s.bs.length]?=some xc:=Et (j:=0) rfl rfl;have g1:(s.bs++[xc,[AG v]])[s.bs.length+1]?=some [AG v]:=Et rfl rfl;have hT:(s.bs++[xc,[AG v]]).take s.bs.length=s.bs.set e [d,AG A6]:=AB
 have hok:BP ⟨s.bs++[xc,[AG v]],s.ts⟩:=by
  intro c hc;simp only[B7,A3,D4,D5] at hc
  show Ag (s.bs++_).length c=true
  rcases hc with hc|rfl|rfl
  .exact Bg AD c (hs c hc)
  .grind
  rfl
 refine AIh (Bu (cs:=xc) rfl hxo (Bu (cs:=[AG v]) rfl rfl ?_));simp only[Db,DD,Cc,Bo,B4,B6,CI];generalize s.bs++[xc,[AG v]]=bs at g0 g1 hT hok;have VE:GC (2 ^ 40) t=true:=by grind[Nt,Ga]
 have gE:bs[e]?=some [d,AG A6]:=CN hT (by rw[Ca le]);refine Af g0 hx4 (AX g1 rfl (AH (QG hn (AY _) v t false AA VE lq) ?_));rintro _ rfl;have AQF:=aD t hp hoc;rw[AQF]
 by_cases hc0:0<Bb (·==(v:Int)) t
 .obtain⟨f,rfl,ihf⟩:∃f',f=f'+1/\rZ R e A6 v M W S B0 q ex f':=by grind
  rw[CQ,AQF,Aq hc0] at hM ⊢;simp only[AN] at hM ⊢;have hBv:B[v]?=some b:=Ns hB hv;refine nt (Ar (AIi (C2 (AU gE) (AM (AU gE) (AX (off:=0) gE rfl (AX g1 rfl (BX hd.A4 (row:=Ah b) AA (by grind[BL]) (Aj _) AA (Ce ?_))))))));have AIj:=hex B ⟨bs,s.ts⟩ hok hB;have hxB:=hx.res B;have hpre:=hx.pre B;have hfp:∀(l:List Ty) B,B<+:(Cj (Aa A6) (λc B=>CQ (Aa A6) ex v f (Ky (·==(v:Int)) c t 0) B) l [] B).2:=λl B=>Iy (λc B=>IM hx.pre v f _ B) l [] B
  rcases he:ex B with ⟨r,B1⟩
  rw[he] at hM AIj hxB hpre;simp only at hM AIj hxB hpre;have hB1:B1.length<=M:=AB;obtain⟨w,s',⟨d1,OD,q1,q2,q3,rfl⟩,q4⟩:=AIj hB1 (CT (env R) 114 0 0 0) d rfl rfl gE hd;have TZ:(bs.set e [d1,AG A6]).take s.bs.length=s.bs.set e [d1,AG A6]:=by grind[EY]
  cases r with
  | none=>
   cases q1;exact⟨_,_,q4,CO rfl (CO rfl (nt (A1 (FF hs TZ (q2.A4.Ax _) (r:=none) rfl λw hw=>⟨d1,OD,hw,q2,q3,rfl⟩))))⟩
  | some cs=>
   obtain⟨a,rfl,ha⟩:=q1;obtain⟨E6,hcs⟩:=hxB cs hB rfl hB1;refine⟨_,_,q4,CO rfl (CO rfl (nt (Ar (AIk (Au (n:=cs.length) (by rw[ha.BD,Ab,Bv,Bt]) ?_)))))⟩;simp only at hM ⊢
   refine ABz hn (M:=M) (S:=S) (f:=f) (B0:=B0) hq J8 hS hx.pre ht hc0 AA lq E6 ha ?_ hs le hM (λw d' ts' h1 h2 h3=>⟨d',ts',h1,h2,h3,rfl⟩) cs.length 0 [] B1 _ OD d1 (.AE []) AA rfl (hB.trans hpre) (AO _)
    (BP.set (s:=⟨bs,s.ts⟩) hok (by simp[Ag,Ax,q2.A4.Ax]) _) TZ (BV g0 AA) (BV g1 AA) q2 (.inl rfl) q3 (DW.AE _ _) (Sr.AE _ _)
   intro c hc B' hB' jY x' hx' s' hs';obtain⟨c1,c2,c3,c4,c5⟩:=hcs c hc;obtain⟨r1,r2⟩:=TU (b:=c) t 0 hc0;have:Bb (·==(v:Int)) t*W=Bb (·==(v:Int)) (Ky (·==(v:Int)) c t 0)*W+W:=AB;exact ihf _ (Ur c1 t 0 ht) (TW c5 t 0 hp) (aE (c2 true) t 0 hoc) AA AA B' hB' jY x' hx' s' hs'
 .have ef:CQ (Aa A6) ex v f t B=(some [t],B):=by grind[CQ]
  rw[ef,A2 hc0];refine nt (A1 (Af g0 hx4 (Er lq ?_)));exact FF hs hT (hd.A4.Ax _) (r:=some [t]) ⟨.AE [Ah (ren t)],rfl,.inl (by grind[CC,AZ,A0.AE])⟩ λw hw=>⟨d,s.ts,hw,hd,Ck.refl _ _,rfl⟩
theorem nJ (hn:MY R) {e A6 v M W S:Nat} {B0:List Ty} {q:Int->Bool} (hq:∀i,q i=true->0<=i/\i<2 ^ 40) (J8:A6<2 ^ 20) (hS:S<2 ^ 37) {ex:List Ty->F9} {b:Ty} (hx:ExB A6 v M W B0 q ex) (hv:B0[v]?=some b)
  (hex:∀(B:List Ty) (s:AQ),BP s->B0<+:B->(ex B).2.length<=M->Wv R e A6 44 [.agg ((Ah b).map .pv)] (ex B) B s):∀f,rZ R e A6 v M W S B0 q ex f
 | 0=>nI hn hq J8 hS hx hv hex (.inl rfl)
 | f+1=>nI hn hq J8 hS hx hv hex (.inr ⟨f,rfl,nJ hn hq J8 hS hx hv hex f⟩)
end
section
variable {R:RT}
theorem AB2 (hn:MY R) {e A6 v M W S:Nat} {B0:List Ty} {q:Int->Bool} (hq:∀i,q i=true->0<=i/\i<2 ^ 40) (J8:A6<2 ^ 20) (hS:S<2 ^ 37) {ex:List Ty->F9} (jl:∀B,B<+:(ex B).2) {cs:List Ty} (E6:cs.length<=A6) {a:AV} (ha:BF a (AZ (CC cs)))
  (hcs:∀t∈cs,FD q t=true/\pat t=true/\size t+Bb (·==(v:Int)) t*W<=S) (ih:∀f,rZ R e A6 v M W S B0 q ex f)
  {s0:AQ} (hs0:BP s0) (he:e<s0.bs.length) {d0:AV} {o:F9} (rX:o.2.length<=M) {rr:Bool} {Post:AV->AQ->Prop}
  (hP:∀w d' ts',Res w o.1->Dn 0 ts' 25 d' (AZ o.2)->Ck d0 d' s0.ts ts'->Post w ⟨s0.bs.set e [d',AG A6],ts'⟩) :
  ∀(j p:Nat) (out Bc:List Ty) (bs:List (List AV)) (tk:List (Nat×Nat)) (d acc:AV),p+j=cs.length->Cj (Aa A6) (B8 (Aa A6) ex v) (cs.drop p) out Bc=o->B0<+:Bc->out.length<=A6 ->
   BP ⟨bs,tk⟩->bs.take s0.bs.length=s0.bs.set e [d,AG A6]->s0.bs.length<=bs.length ->
   Dn 0 tk 25 d (AZ Bc)->Dn 0 tk 25 acc (AZ (CC out))->Ck d0 d s0.ts tk->DW acc s0.ts->Sr d acc ->
   AEV R 0 0 0 (.ptr e 0) (AG v) acc a (AG cs.length) (AG p) ⟨bs,tk⟩ (QM rr s0.bs.length Post):=by
 intro j
 induction j with
 | zero=>
  intro p out Bc bs tk d acc hi EM hlo hout hs hT Nk hd hacc hch hfr KP;refine AEW (Ao ?_);rw[A2 AA];rw[CA AA,Cj] at EM;subst EM;exact Ar (AQG (FF hs0 hT (hd.A4.Ax _) (r:=some out) ⟨acc,rfl,hacc.A4⟩ λw hw=>hP w d tk hw hd hch))
 | succ j D9=>
  intro p out Bc bs tk d acc hi EM hlo hout hs hT Nk hd hacc hch hfr KP;refine AEW (Ao ?_);rw[Aq AA];obtain⟨c,hc⟩:∃c,cs[p]?=some c:=⟨_,Ay AA⟩;have hrc:(CC cs)[p]?=some (ren c):=by grind[Bv]
  obtain⟨c1,c2,c3⟩:=hcs c (A5 hc);have hrl:((Ah (ren c)).map AV.pv).length=4:=by grind[Aj]
  have hro:=Cx (ren c)
  have Lz:Ag (bs.length+1) ((Ah (ren c)).map AV.pv)=true:=by
   obtain⟨k1,n1,i1,t1⟩:=ren c;rfl
  have EN:=(A8.Bk (ren c)).Fy;refine A1 (AQH (BX ha (row:=Ah (ren c)) AA (by grind[BL]) (Aj _) AA (Ce (Bm ?_))));have hdr:cs.drop p=c::cs.drop (p+1):=drop_cons hc;rw[hdr,Cj] at EM;have VE:GC (2 ^ 40) c=true:=by grind[Nt,Ga]
  generalize (Ah (ren c)).map AV.pv=row at hrl hro Lz EN;refine Bn (Az bs Z4) hrl rfl AK (AO _) hro (.inl (AO _)) ?_;have e1:(bs++[Z4]).set bs.length row=bs++[row]:=AD;rw[e1];have hs1:BP ⟨bs++[row],tk⟩:=BP.app (s:=⟨bs,tk⟩) hs Lz;have gr:=Az bs row;have TZ:=(ED Nk row).trans hT;have lb:(bs++[row]).length=bs.length+1:=AD;generalize bs++[row]=b1 at hs1 gr TZ lb;have gE:(s0.bs.set e [d,AG A6])[e]?=some [d,AG A6]:=by rw[Ca he]
  have hfp:∀(l:List Ty) out B,B<+:(Cj (Aa A6) (B8 (Aa A6) ex v) l out B).2:=λl out B=>Iy (λc B=>LU jl v c B) l out B
  have fin:∀(r:Option (List Ty)) (B1:List Ty) (b2:List (List AV)) (KS:List (Nat×Nat)) (d2 a1 a2:AV),(match r with
     | none=>((none,B1):F9)
     | some r=>bif Aa A6 (out++r).length then(none,B1) else Cj (Aa A6) (B8 (Aa A6) ex v) (cs.drop (p+1)) (out++r) B1)=o->B0<+:B1->(∀l,r=some l->l.length<=A6+1)->Res (.tuple [a1,a2]) r ->
    BP ⟨b2,KS⟩->b2.take s0.bs.length=s0.bs.set e [d2,AG A6]->s0.bs.length<=b2.length->Dn 0 KS 25 d2 (AZ B1)->Dn 0 KS 25 acc (AZ (CC out))->Ck d0 d2 s0.ts KS->Sr d2 acc ->
    AEX R 0 0 0 (.ptr e 0) (AG v) acc a1 a2 a (AG cs.length) (AG p) ⟨b2,KS⟩ (QM rr s0.bs.length Post):=by
   intro r B1 b2 KS d2 a1 a2 EM hB1 hrb hres hs2 JF hn2 T6 Kn Ma LZ;have kE:b2[e]?=some [d2,AG A6]:=CN JF (by rw[Ca he]);cases r with
   | none=>
    cases hres;simp only at EM;subst EM;refine AEY ⟨AK,FG (l:=[]) Kn rfl (by grind[Bv]) (.inl (.AE _)) λacc' Nu _ WW=>?_⟩;exact nt (BQ (BQ (BQ (BQ (BQ (BQ (BQ (pk (A1 (FF hs0 JF (T6.A4.Ax _) (r:=none) rfl λw hw=>hP w d2 Nu hw (WW.keep T6 LZ.symm) (Ma.side WW hfr)))))))))))
   | some r=>
    obtain⟨a3,hae,ha3⟩:=hres;cases hae;have AZs:=hrb r rfl;refine AEY ⟨AK,FG Kn rfl (by grind[Bv]) ha3 λacc' Nu MV WW=>?_⟩;have er:CC out++CC r=CC (out++r):=by simp[Bv]
    rw[er] at MV;have hd3:=WW.keep T6 LZ.symm;have Ol:=Ma.side WW hfr;refine nt (Ak (b:=false) (Ak (b:=false) (Au (n:=(out++r).length) (by rw[MV.A4.BD,Ab,Bv,Bt]) (Ak (b:=false) (Ak (b:=false) (C2 (AU kE) (Ak (b:=false) (AM (AU kE) (Ak (b:=false) (AX (off:=1) kE rfl (Ak (b:=false) (Fm (pk ?_)))))))))))));have eb:decide (((out++r).length:Int)>(A6:Nat))=Aa A6 (out++r).length:=AB;rw[eb];simp only at EM;cases hb:Aa A6 (out++r).length with
    | true=>
     rw[hb] at EM;simp only[AN] at EM;subst EM;exact A1 (FF hs0 JF (T6.A4.Ax _) (r:=none) rfl λw hw=>hP w d2 Nu hw hd3 Ol)
    | false=>
     rw[hb] at EM;simp only[AL] at EM;refine Ar (AQI (Be AA AA ?_));have fin:=D9 (p+1) (out++r) B1 b2 Nu d2 acc' AA EM hB1 AB hs2 JF hn2 hd3 MV Ol (hfr.QF WW Ma.1) (LZ.symm.QF WW T6).symm
     grind
  have Z1:=QG (R:=R) hn (AY _) v c true AA VE EN;refine Af gr hrl (Er EN (Af gr hrl (AH Z1 ?_)));rintro _ rfl;refine nt ?_;cases ho:Cw v true c with
  | true=>
   have eg:B8 (Aa A6) ex v c Bc=(some [c],Bc):=by grind[B8]
   rw[eg] at EM;refine Ar (fin (some [c]) Bc b1 tk d (.AE [Ah (ren c)]) (BB true) EM hlo (λl hl=>by grind) ⟨_,rfl,.inl (by grind[CC,AZ,A0.AE])⟩ hs1 TZ AA hd hacc hch KP)
  | false=>
   have eg:B8 (Aa A6) ex v c Bc=CQ (Aa A6) ex v (Bb (·==(v:Int)) c) c Bc:=by grind[B8]
   rw[eg] at EM;have hrb:=RO (A6:=A6) (ex:=ex) (v:=v) (Bb (·==(v:Int)) c) c Bc;have hlen:=IM (BC:=Aa A6) jl v (Bb (·==(v:Int)) c) c Bc;have jm:=ih (Bb (·==(v:Int)) c) c c1 c2 ho (AY _) c3 Bc hlo;rcases hg:CQ (Aa A6) ex v (Bb (·==(v:Int)) c) c Bc with ⟨r,B1⟩
   rw[hg] at jm hlen hrb EM;simp only at jm hlen hrb;have Ww:B1.length<=M:=AB;obtain⟨w2,s2',⟨d2,KS,q1,q2,q3,rfl⟩,q4⟩:=jm Ww (.agg row) EN ⟨b1,tk⟩ hs1 (CT (env R) 81 0 0 0) d rfl rfl (CN TZ gE) hd
   obtain⟨x1,x2,rfl⟩:∃x1 x2,w2=.tuple [x1,x2]:=by
    cases r with
    | none=>exact⟨_,_,q1⟩
    | some r=>exact⟨_,_,q1.choose_spec.1⟩
   refine A1 (Af gr hrl ⟨_,_,q4,CO rfl (CO rfl ?_)⟩);exact fin r B1 (b1.set e [d2,AG A6]) KS d2 x1 x2 (by cases r <;> omega) (hlo.trans hlen) (λl hl=>hrb l hl) q1 (BP.set (s:=⟨b1,tk⟩) hs1 (by simp[Ag,Ax,q2.A4.Ax]) _) (by simp[*,EY]) AB q2 (q3.keep hacc KP) (hch.trans q3) (KP.QF q3 hacc)
theorem AB3 (hn:MY R) {e A6 v M W S:Nat} {B0:List Ty} {q:Int->Bool} (hq:∀i,q i=true->0<=i/\i<2 ^ 40) (J8:A6<2 ^ 20) (hS:S<2 ^ 37) {ex:List Ty->F9} (jl:∀B,B<+:(ex B).2) {cs:List Ty} (E6:cs.length<=A6) {a:AV} (ha:BF a (AZ (CC cs)))
  (hcs:∀t∈cs,FD q t=true/\pat t=true/\size t+Bb (·==(v:Int)) t*W<=S) (ih:∀f,rZ R e A6 v M W S B0 q ex f)
  {B:List Ty} (hB:B0<+:B) (hM:(Cj (Aa A6) (B8 (Aa A6) ex v) cs [] B).2.length<=M) {s:AQ} (hs:BP s):Wv R e A6 81 [a,AG v] (Cj (Aa A6) (B8 (Aa A6) ex v) cs [] B) B s:=by
 intro L d hro El hE hd;have le:=(BA.1 hE).1;have same:s.bs.set e [d,AG A6]=s.bs:=by grind[List.set_getElem_self]
 refine m81 AR ?_;rw[hro,El];refine AQJ (Au (n:=cs.length) (by rw[ha.BD,Ab,Bv,Bt]) ?_);exact AB2 hn hq J8 hS jl E6 ha hcs ih hs le hM (λw d' ts' h1 h2 h3=>⟨d',ts',h1,h2,h3,rfl⟩) cs.length 0 [] B s.bs s.ts d (.AE []) AA rfl hB (AO _) hs AB (AY _) hd (.inl rfl) (Ck.refl _ _) (DW.AE _ _) (Sr.AE _ _)
end
def Dr (ls:List (List Ty)):List (List PV):=ls.map λl=>[.list (AZ (CC l))]
theorem IQ (ls:List (List Ty)):(Dr ls).length=ls.length:=by simp[Dr]
theorem jn {ls:List (List Ty)}:∀r∈Dr ls,r.length=1:=by grind[Dr]
section
variable {R:RT}
theorem jo (rows:List (List PV)):Ae (env R) 145 [.pv (.list rows)] λr=>r=BB (rows.length==0):=by
 refine AZv AR (AIm (Au (n:=rows.length) rfl (Av ⟨_,rfl,?_⟩)));have e:(((rows.length:Nat):Int)==0)=(rows.length==0):=AB;rw[e]
theorem eU {ls:List (List Ty)} {y:AV} (hy:BF y (Dr ls)) (hl:ls.length<2 ^ 60) {n0 ro rt:Nat} {s:AQ} {QR:QT} :
  ∀(j p:Nat),p+j=ls.length->(∀i:Int,decide (0<=i)=(ls.drop p).any List.isEmpty->QR (AG i) s)->xI R n0 ro rt y (.func (.func 145) [] []) (AG ls.length) (AG p) s QR:=by
 intro j
 induction j with
 | zero=>
  intro p hi hP;refine xJ (Ao ?_);rw[A2 AA];rw[CA AA] at hP;exact Ar (AIn (hP (-1) AD))
 | succ j D9=>
  intro p hi hP;refine xJ (Ao ?_);rw[Aq AA];obtain⟨l,ht⟩:∃l,ls[p]?=some l:=⟨_,Ay AA⟩;rw[drop_cons ht] at hP;refine A1 (AIo (BX hy (row:=[.list (AZ (CC l))]) AA (by simp[*,Dr]) rfl AA (Ek (AH (jo _) ?_))));rintro _ rfl;have el:((AZ (CC l)).length==0)=l.isEmpty:=by grind[Ab,Bv]
  rw[el];cases hg:l.isEmpty with
  | true=>exact A1 (hP p (by simp[hg]))
  | false=>
   refine Ar (AIp (Be AA AA ?_));simp only[PI,hg,GL] at hP;have:=D9 (p+1) AA hP;simpa using this
theorem YD {ls:List (List Ty)} {y:AV} (hy:BF y (Dr ls)) (hl:ls.length<2 ^ 60) {s:AQ} (hs:BP s) (L:BI):∃i:Int,decide (0<=i)=ls.any List.isEmpty/\BG (env R) L 166 [y,.func (.func 145) [] []] s (AG i) s:=by
 have hlen:∀s,BD s y=some ls.length:=λs=>by rw[hy.BD,IQ]
 cases hn:FR y with
 | true=>
  obtain⟨v,⟨i,rfl,h⟩,hc⟩:=AZw (R:=R) (t0:=y) (t1:=.func (.func 145) [] []) (Post:=λv=>∃i:Int,v=AG i/\decide (0<=i)=ls.any List.isEmpty) (by grind[C7,FR]) (xK (Au (hlen _) (eU hy hl ls.length 0 AA λi h=>⟨AG i,rfl,i,rfl,AB⟩)))
  grind
 | false=>
  obtain⟨v,s',⟨i,rfl,rfl,h⟩,hc⟩:=AZx (R:=R) (L:=L) (s:=s) (t0:=y) (t1:=.func (.func 145) [] []) (Post:=λv s'=>∃i:Int,v=AG i/\s'=s/\decide (0<=i)=ls.any List.isEmpty) (by grind[C7]) (xK (Au (hlen _) (eU hy hl ls.length 0 AA λi h=>by
   have:=JZ (rr:=L.rr 166) hs (m:=[]) (p:=.sc (.int .i64 i)) (Post:=λv s'=>∃i:Int,v=AG i/\s'=s/\decide (0<=i)=ls.any List.isEmpty) ⟨i,rfl,rfl,AB⟩
   simp_all)))
  grind
theorem ri {ls:List (List Ty)} {y:AV} (hy:BF y (Dr ls)) (hl:ls.length<2 ^ 60) {s:AQ} (hs:BP s) (L:BI):BG (env R) L 144 [y,.func (.func 145) [] []] s (BB (ls.any List.isEmpty)) s:=by
 have h0:BP ⟨[],[]⟩:=λb hb=>by grind
 cases hn:FR y with
 | true=>
  obtain⟨i,h,hc⟩:=YD (R:=R) hy hl h0 (CT (env R) 144 0 0 0);obtain⟨v,rfl,hc⟩:=AZy (R:=R) (t0:=y) (t1:=.func (.func 145) [] []) (Post:=λv=>v=BB (ls.any List.isEmpty)) (by grind[C7,FR]) (xL ⟨_,_,hc,L9 ⟨_,rfl,by rw[<-h]⟩⟩)
  grind
 | false=>
  obtain⟨i,h,hc⟩:=YD (R:=R) hy hl hs (CT (env R) 144 0 L.ro L.rt)
  obtain⟨v,s',⟨rfl,rfl⟩,hc⟩:=AZz (R:=R) (L:=L) (s:=s) (t0:=y) (t1:=.func (.func 145) [] []) (Post:=λv s'=>v=BB (ls.any List.isEmpty)/\s'=s) (by grind[C7]) (xL ⟨_,_,hc,L9 (by
   have:=JZ (rr:=L.rr 144) hs (m:=[]) (p:=.sc (.bool (decide (i>=0)))) (Post:=λv s'=>v=BB (ls.any List.isEmpty)/\s'=s) ⟨by rw[<-h],rfl⟩
   simp_all)⟩)
  omega
end
theorem eV {E:Env} {f:FuncId} {fn:Func} {body:Code} {args:List AV} {L:BI} {s:AQ} {Post:AV->AQ->Prop} (hfn:E.P.funcs[f]?=some fn) (hb:fn.body=some body) (hk:E.kind f=.esc) (hc:E.clone f=true) (ht:E.told f=none) (hne:Jp args=false) (hl:args.length<=fn.ntmps)
  (h:Wp E (CT E f L.n0 L.ro L.rt) fn.ntmps fn.results.toList body [] (FH 0 args) s Post):∃v s',Post v s'/\BG E L f args s v s':=by
 obtain⟨r,s',n,h1,h2⟩:=Nv hb h;refine⟨r,s',h2,⟨n+1,λm hm=>?_⟩⟩;obtain⟨m,rfl⟩:∃m',m=m'+1:=⟨m-1,AA⟩;simp only[Dw,hfn,hc,AN,N9,ht,hne,AL];unfold EJ;have:=h1 m AA;unfold CT at this;simp only[if_pos hl,hk];exact this
theorem xM {E:Env} {f:FuncId} {fn:Func} {args:List AV} (hfn:E.P.funcs[f]?=some fn) (hc:E.clone f=true) (ht:E.told f=none) (hne:Jp args=true):Ae E f args λv=>v=.AE []:=by
 refine⟨_,rfl,λL s=>⟨1,λm hm=>?_⟩⟩;obtain⟨m,rfl⟩:∃m',m=m'+1:=⟨m-1,AA⟩
 grind[Dw,N9]
section
variable {R:RT}
theorem aQ {l:List Ty} (hl:l.length<2 ^ 38) {a:AV} (ha:BF a (AZ l)) {L:BI} (El:L.rt=0) (s:AQ):∃v s',(∃ts',s'=⟨s.bs,ts'⟩/\Dn 0 ts' 25 v (AZ l)/\Ck (.AE []) v s.ts ts')/\BG (env R) L 57 [a] s v s':=by
 cases l with
 | nil=>
  have he:Jp [a]=true:=by
   rcases ha with (rfl|rfl)|⟨t,rfl⟩ <;> rfl
  obtain⟨v,rfl,hc⟩:=xM (E:=env R) (f:=57) (args:=[a]) Tryz.func57 AR AR he;exact⟨_,s,⟨s.ts,rfl,.inl rfl,Ck.refl _ _⟩,hc L s⟩
 | cons x l=>
  have he:Jp [a]=false:=by
   rcases ha with (rfl|rfl)|⟨t,rfl⟩ <;> rfl
  have tS:∀K:AV->Prop,K (BB false)->xN s (some 1) (U7 a) (some 1) .eql a (.AE []) K:=by
   intro K hK;obtain⟨k1,n1,i1,t1⟩:=x;rcases ha with (rfl|rfl)|⟨t,rfl⟩ <;> exact⟨AR,hK⟩
  refine eV (fn:=Tryz.f57) (body:=b57) Tryz.func57 AR AR AR AR he (G0 AR) ?_
  show AEZ R L.n0 L.ro L.rt a s _
  refine AQK (tS _ (Ar (AQL ?_)))
  have hb:∀K:AV->AQ->Prop,K (.AE []) s->GY false s 4 [(AG 0),(SS []),(AG 0),(.AE [])] 0 [] K:=by
   intro K hK;simpa[GY,Fx,CJ] using hK
  exact hb _ ⟨AK,FG (es:=[]) (.inl rfl) El AB ha λa' ts' h1 h2=>⟨ts',rfl,AB,h2⟩⟩
end
theorem AEa {a:AV} {rows:List (List PV)} (h:BF a rows):KM a=some (.list rows):=by
 rcases h with (rfl|rfl)|⟨t,rfl⟩ <;> rfl
theorem jq {l:List Ty} {a:AV} (ha:BF a (AZ l)) {s:AQ} {K:AV->AQ->Prop} (hK:K (.AE [[.list (AZ l)]]) s):GY false s 1 [(.AE [])] 1 [(0,1,a)] K:=by
 simp[GY,Fx,CJ,ha.ok,AEa ha,ha.cells];omega
theorem nK {L:BI} {s:AQ} {a:AV} {os:List (List Ty)} {p:List Ty} {K:AV->AQ->Prop} (ha:Dn 0 s.ts 23 a (Dr os)) (El:L.rt=0) (hl:os.length<2 ^ 38) (h:∀a' ts',Dn 0 ts' 23 a' (Dr (os++[p]))->Ck a a' s.ts ts'->K a' ⟨s.bs,ts'⟩) :
  HB false L s 23 1 24 a (.AE [[.list (AZ (CC p))]]) K:=by
 have h1:=IQ os;have hm:∀r∈[[PV.list (AZ (CC p))]],r.length=1:=AD;refine RM (m:=[[.list (AZ (CC p))]]) ha El jn hm AA (C9 (.inl (.AE _)) hm) AD AB AB λa' ts' h3 h4=>h a' ts' ?_ h4
 grind[Dr]
theorem Ck.VM {r:List (List PV)} {v:AV} {ts ts':List (Nat×Nat)} (h:Ck (.AE r) v ts ts'):DW v ts:=by
 intro t ht;rcases h.2.2 with h1|⟨u,h1,h2⟩
 .rw[h1] at ht
  cases ht
 grind
theorem DW.dis {v b:AV} {ts:List (Nat×Nat)} {lo k:Nat} {rows:List (List PV)} (h:DW v ts) (hb:Dn lo ts k b rows):Sr v b:=by
 intro t ht hbt;have h1:=h t ht;have h2:=Dn.w6 hb hbt;omega
section
variable {R:RT}
theorem xQ {l pre:List Ty} {xa:AV} (VN:BF xa (AZ (CC l))) (hl:l.length<2 ^ 37) (hpre:pre.length<2 ^ 37) {n:Nat} {X:List (List AV)} {t0 t8 t17 t18 t19 t33 t34 t35:AV} {QR:QT} :
  ∀(j p:Nat) (out:List (List Ty)) (bs:List (List AV)) (tk:List (Nat×Nat)) (acc:AV),p+j=l.length->out.length+j<2 ^ 38->BP ⟨bs,tk⟩->bs.take n=X->n<=bs.length->Dn 0 tk 23 acc (Dr out) ->
   (∀bs' GJ acc',BP ⟨bs',GJ⟩->bs'.take n=X->n<=bs'.length->Dn 0 GJ 23 acc' (Dr (out++(l.drop p).map λx=>pre++[x]))->Ck acc acc' tk GJ->nL R 0 0 0 t0 t8 acc' t17 t18 t19 t33 t34 t35 ⟨bs',GJ⟩ QR) ->
   xS R 0 0 0 t0 t8 acc (.pv (.list (AZ (CC pre)))) t17 t18 t19 t33 t34 t35 xa (AG l.length) (AG p) ⟨bs,tk⟩ QR:=by
 intro j
 induction j with
 | zero=>
  intro p out bs tk acc hi ho hs hT hn hacc hK;refine xT (Ao ?_);rw[A2 AA];rw[CA AA] at hK;exact Ar (hK bs tk acc hs hT hn (by simpa using hacc) (Ck.refl _ _))
 | succ j D9=>
  intro p out bs tk acc hi ho hs hT hn hacc hK;refine xT (Ao ?_);rw[Aq AA];obtain⟨c,hc⟩:∃c,l[p]?=some c:=⟨_,Ay AA⟩;have hrc:(CC l)[p]?=some (ren c):=by grind[Bv]
  have hrl:((Ah (ren c)).map AV.pv).length=4:=by grind[Aj]
  have hro:=Cx (ren c)
  have Lz:Ag (bs.length+1) ((Ah (ren c)).map AV.pv)=true:=by
   obtain⟨k1,n1,i1,t1⟩:=ren c;rfl
  have EN:=(A8.Bk (ren c)).Fy;have KX:=NA (ren c);refine A1 (AB4 (BX VN (row:=Ah (ren c)) AA (by grind[BL]) (Aj _) AA (Ce (Bm ?_))));rw[drop_cons hc] at hK;generalize (Ah (ren c)).map AV.pv=row at hrl hro Lz EN KX;refine Bn (Az bs Z4) hrl rfl AK (AO _) hro (.inl (AO _)) ?_;have e1:(bs++[Z4]).set bs.length row=bs++[row]:=AD;rw[e1];have hs1:BP ⟨bs++[row],tk⟩:=BP.app (s:=⟨bs,tk⟩) hs Lz;have gr:=Az bs row;have lp:(CC pre).length=pre.length:=by grind[Bv]
  obtain⟨v,s',⟨OD,rfl,v1,v2⟩,v3⟩:=aQ (R:=R) (l:=CC pre) AA (a:=.pv (.list (AZ (CC pre)))) (.inl (.list _)) (L:=CT (env R) 120 0 0 0) rfl ⟨bs++[row],tk⟩;have hfv:=v2.VM;have AQM:=v2.keep hacc (λ_ h=>by cases h);refine⟨_,_,v3,Af gr hrl (Er EN ⟨AK,Ja v1 rfl AA λv' KS w1 w2=>?_⟩)⟩;have ep:CC pre++[ren c]=CC (pre++[c]):=by simp[Bv]
  rw[ep] at w1;have Kn:=w2.keep AQM (hfv.dis hacc);refine jq w1.A4 ⟨AK,nK Kn rfl AA λacc' Nu x1 x2=>?_⟩;refine⟨Af gr hrl KX,AB5 (Be AA AA ?_)⟩;have hch:Ck acc acc' tk Nu:=(((Ck.refl acc tk).side v2 (DW.AE _ _)).side w2 hfv).trans x2;have:=D9 (p+1) (out++[pre++[c]]) (bs++[row]) Nu acc' AA AB hs1 ((ED hn row).trans hT) AB x1 (λbs' GJ Om k1 k2 k3 k4 k5=>hK bs' GJ Om k1 k2 k3 AB (hch.trans k5))
  grind
end
section
variable {R:RT}
theorem AIq {l:List Ty} {xa ya:AV} {outs:List (List Ty)} (VN:BF xa (AZ (CC l))) (WS:BF ya (Dr outs)) (hl:l.length<2 ^ 37) (hpre:∀pre∈outs,pre.length<2 ^ 37) (WQ:outs.length<2 ^ 37) {n:Nat} {X:List (List AV)} {t0 t17 t18 t19:AV} {QR:QT} :
  ∀(j p:Nat) (next:List (List Ty)) (bs:List (List AV)) (tk:List (Nat×Nat)) (acc:AV),p+j=outs.length->next.length+j*l.length<2 ^ 38->BP ⟨bs,tk⟩->bs.take n=X->n<=bs.length->Dn 0 tk 23 acc (Dr next) ->
   (∀bs' GJ acc',BP ⟨bs',GJ⟩->bs'.take n=X->n<=bs'.length->Dn 0 GJ 23 acc' (Dr (next++(outs.drop p).flatMap λpre=>l.map λx=>pre++[x]))->Ck acc acc' tk GJ->nM R 0 0 0 t0 acc' t17 t18 t19 ⟨bs',GJ⟩ QR) ->
   xU R 0 0 0 t0 xa acc t17 t18 t19 ya (AG outs.length) (AG p) ⟨bs,tk⟩ QR:=by
 intro j
 induction j with
 | zero=>
  intro p next bs tk acc hi ho hs hT hn hacc hK
  refine xV (Ao ?_);rw[A2 AA];rw[CA AA] at hK;exact Ar (AIr (hK bs tk acc hs hT hn (by simpa using hacc) (Ck.refl _ _)))
 | succ j D9=>
  intro p next bs tk acc hi ho hs hT hn hacc hK
  refine xV (Ao ?_);rw[Aq AA];obtain⟨pre,hc⟩:∃c,outs[p]?=some c:=⟨_,Ay AA⟩;rw[drop_cons hc] at hK;rw[KV] at ho;refine A1 (AIs (BX WS (row:=[.list (AZ (CC pre))]) AA (by grind[Dr]) rfl AA (Ek (Au (n:=l.length) (by rw[VN.BD,Ab,Bv,Bt]) ?_))));refine xQ VN hl (hpre pre (A5 hc)) l.length 0 next bs tk acc AA AA hs hT hn hacc λrj tk1 AIt k1 k2 k3 k4 k5=>?_
  refine AB6 (Be AA AA ?_);rw[JL] at k4;have:=D9 (p+1) (next++l.map λx=>pre++[x]) rj tk1 AIt AA AB k1 k2 k3 k4 (λbs' GJ Om m1 m2 m3 m4 m5=>hK bs' GJ Om m1 m2 m3 AB (k5.trans m5))
  grind
end
theorem AIu {a b:Nat} {K:AV->Prop} (hb:b≠0) (ha:a<2 ^ 62) (h:K (AG ((a / b:Nat):Int))):DI .i64 .quo (AG a) (AG b) K:=by
 have e:(a:Int).tdiv b=((a / b:Nat):Int):=(Int.ofNat_tdiv a b).symm;have hl:=Nat.div_le_self a b;refine⟨⟨rfl,rfl⟩,AA,?_⟩;rw[e];generalize a / b=c at hl h;exact CS AA AA h
theorem eW (outs:List (List Ty)) (l:List Ty):(outs.flatMap λp=>l.map λx=>p++[x]).length=outs.length*l.length:=by
 induction outs with
 | nil=>simp
 | cons o os ih=>grind
def eX (v:AV) (r:Option (List (List Ty))):Prop:=match r with
 | none=>v=.tuple [.AE [],BB false]
 | some o=>∃a,v=.tuple [a,BB true]/\BF a (Dr o)
section
variable {R:RT}
theorem xW {e A6:Nat} (J8:A6<2 ^ 20) {d:AV} {ls:List (List Ty)} {ya:AV} (WS:BF ya (Dr ls)) (Sn:ls.length<2 ^ 36) (hls:∀l∈ls,l≠[]/\l.length<2 ^ 37) {n:Nat} {X:List (List AV)} (hX:X[e]?=some [d,AG A6]) {O7:List (Nat×Nat)} {r:Option (List (List Ty))} {QR:QT}
  (hK:∀v bs' GJ,eX v r->BP ⟨bs',GJ⟩->bs'.take n=X->Ck (.AE []) (.AE []) O7 GJ->QR v ⟨bs',GJ⟩) :
  ∀(j p:Nat) (outs:List (List Ty)) (bs:List (List AV)) (tk:List (Nat×Nat)) (acc:AV),p+j=ls.length->Dy (Aa A6) (ls.drop p) outs=r->outs.length<=A6+1->(∀o∈outs,o.length<=p)->BP ⟨bs,tk⟩->bs.take n=X->n<=bs.length->BF acc (Dr outs)->Ck (.AE []) (.AE []) O7 tk ->
   xX R 0 0 0 (.ptr e 0) acc ya (AG ls.length) (AG p) ⟨bs,tk⟩ QR:=by
 intro j
 induction j with
 | zero=>
  intro p outs bs tk acc hi hc ho hp hs hT hn hacc hch;refine xY (Ao ?_);rw[A2 AA];rw[CA AA,Dy] at hc;subst hc;exact Ar (AIv (hK _ _ _ ⟨acc,rfl,hacc⟩ hs hT hch))
 | succ j D9=>
  intro p outs bs tk acc hi hc ho hp hs hT hn hacc hch;refine xY (Ao ?_);rw[Aq AA];obtain⟨l,hl⟩:∃c,ls[p]?=some c:=⟨_,Ay AA⟩;obtain⟨hne,hlen⟩:=hls l (A5 hl);have hpos:0<l.length:=S4.2 hne;rw[drop_cons hl,Dy,eW] at hc;have gE:=CN hT hX;have VN:BF (.pv (.list (AZ (CC l)))) (AZ (CC l)):=.inl (.list _);refine A1 (AIw (BX WS (row:=[.list (AZ (CC l))]) AA (by grind[Dr]) rfl AA (Ek (Au (n:=outs.length) (by rw[hacc.BD,IQ]) (C2 (AU gE) (AM (AU gE) (AX (off:=1) gE rfl (Au (n:=l.length) (by rw[VN.BD,Ab,Bv,Bt]) (AIu AA AA (Fm ?_))))))))))
  have eb:decide ((outs.length:Int)>((A6 / l.length:Nat):Int))=Aa A6 (outs.length*l.length):=by
   simp only[Aa];rw[PE];simp only[Cq,gt_iff_lt,Int.ofNat_lt]
   grind[Nat.div_lt_iff_lt_mul]
  rw[eb];cases hb:Aa A6 (outs.length*l.length) with
  | true=>
   rw[hb] at hc;simp only[AN] at hc;subst hc;exact A1 (hK _ _ _ rfl hs hT hch)
  | false=>
   rw[hb] at hc;simp only[AL] at hc;have Qh:outs.length*l.length<=A6:=AB;refine Ar (AIx (Au (n:=outs.length) (by rw[hacc.BD,IQ]) ?_));refine AIq VN hacc hlen (λo hm=>by grind) AA outs.length 0 [] bs tk (.AE []) AA AB hs hT hn (.inl rfl) λrj tk1 AIt k1 k2 k3 k4 k5=>?_
   refine AB7 (Be AA AA ?_);rw[JL,Cc] at k4;have:=D9 (p+1) (outs.flatMap λpre=>l.map λx=>pre++[x]) rj tk1 AIt AA hc (by grind[eW]) AB k1 k2 k3 k4.A4 (hch.side k5 (DW.AE _ _))
   grind
end
theorem AEb {rr:Bool} {v:AV} {r:Option (List (List Ty))} {s0:AQ} {bs:List (List AV)} {ts:List (Nat×Nat)} {Post:AV->AQ->Prop} (h0:BP s0) (hT:bs.take s0.bs.length=s0.bs) (hr:eX v r) (hP:∀w,eX w r->Post w ⟨s0.bs,ts⟩):QM rr s0.bs.length Post v ⟨bs,ts⟩:=by
 have hok:((bs.take s0.bs.length).all (Ag s0.bs.length))=true:=by
  rw[DE];intro b hb;exact h0 b AB
 cases r with
 | none=>
  cases hr;refine J7 (ds:=[.AE [],BB false]) hok rfl ?_
  show Post _ ⟨bs.take _,ts⟩
  rw[hT];exact hP _ rfl
 | some l=>
  obtain⟨a,rfl,ha⟩:=hr;obtain⟨a',h1,h2⟩:=ha.close bs s0.bs.length ts.length;refine J7 (ds:=[a',BB true]) hok (by grind[BK,Tel.close]) ?_
  show Post _ ⟨bs.take _,ts⟩
  rw[hT];exact hP _ ⟨a',rfl,h2⟩
section
variable {R:RT}
theorem AB8 {e A6:Nat} (J8:A6<2 ^ 20) {d:AV} {ls:List (List Ty)} {ya:AV} (WS:BF ya (Dr ls)) (Sn:ls.length<2 ^ 36) (hls:∀l∈ls,l.length<2 ^ 37) {s:AQ} (hs:BP s) (hE:s.bs[e]?=some [d,AG A6]) {L:BI} (hro:L.ro=0) (El:L.rt=0) :
  ∃v s',(∃ts',eX v (bif ls.any List.isEmpty then some [] else Dy (Aa A6) ls [[]])/\Ck (.AE []) (.AE []) s.ts ts'/\s'=⟨s.bs,ts'⟩)/\BG (env R) L 120 [.ptr e 0,ya] s v s':=by
 refine AZ1 AR ?_;rw[hro,El];refine AIy ⟨_,_,ri WS AA hs _,?_⟩;cases ha:ls.any List.isEmpty with
 | true=>exact A1 (AEb hs AD (r:=some []) ⟨.AE [],rfl,.inl (.AE _)⟩ λw hw=>⟨s.ts,hw,Ck.refl _ _,rfl⟩)
 | false=>
  refine Ar (AIz (jq (l:=[]) (.inl (.AE _)) (Au (n:=ls.length) (by rw[WS.BD,IQ]) ?_)));refine xW (n:=s.bs.length) (X:=s.bs) (O7:=s.ts) (r:=Dy (Aa A6) ls [[]]) J8 WS Sn ?_ hE (λv bs' GJ h1 h2 h3 h4=>AEb hs h3 h1 λw hw=>⟨GJ,hw,h4,rfl⟩) ls.length 0 [[]] s.bs s.ts (.AE [[.list (AZ [])]]) AA rfl AD AD hs AD (AY _) (.inl (.AE _)) (Ck.refl _ _)
  grind
end
section
variable {R:RT}
theorem AI0 {all:List (List Ty)} {ya:AV} (WS:BF ya (Dr all)) (hl:all.length<2 ^ 37) {t12:AV} {bs:List (List AV)} {O7:List (Nat×Nat)} {QR:QT}
  (hK:∀acc GJ,Dn 0 GJ 25 acc (AZ (CC (all.map (.mk 3 [] 0))))->Ck (.AE []) acc O7 GJ->AEc R 0 0 0 t12 acc ⟨bs,GJ⟩ QR) :
  ∀(j p:Nat) (tk:List (Nat×Nat)) (acc:AV),p+j=all.length->Dn 0 tk 25 acc (AZ (CC ((all.take p).map (.mk 3 [] 0))))->Ck (.AE []) acc O7 tk ->
   xZ R 0 0 0 t12 acc ya (AG all.length) (AG p) ⟨bs,tk⟩ QR:=by
 intro j
 induction j with
 | zero=>
  intro p tk acc hi hacc hch;refine xd (Ao ?_);rw[A2 AA];rw[CV AA] at hacc;exact Ar (hK acc tk hacc hch)
 | succ j D9=>
  intro p tk acc hi hacc hch;refine xd (Ao ?_);rw[Aq AA];obtain⟨o,hc⟩:∃c,all[p]?=some c:=⟨_,Ay AA⟩;have ht:BH (ren (.mk 3 [] 0 o)) (.agg [AG 3,SS [],AG 0,.pv (.list (AZ (CC o)))]):=⟨_,rfl,.inl (.list _)⟩;refine A1 (AQN (BX WS (row:=[.list (AZ (CC o))]) AA (by grind[Dr]) rfl AA (Ek (HO (cs:=[AG 3,SS [],AG 0,.pv (.list (AZ (CC o)))]) rfl (Er ht ⟨AK,Ja hacc rfl (by grind[Bv]) λacc' GJ h1 h2=>AQO (Be AA AA ?_)⟩)))));have er:CC ((all.take p).map (.mk 3 [] 0))++[ren (.mk 3 [] 0 o)]=CC ((all.take (p+1)).map (.mk 3 [] 0)):=by grind[List.take_add_one,Bv]
  rw[er] at h1;have:=D9 (p+1) GJ acc' AA h1 (hch.trans h2)
  grind
end
section
variable {R:RT}
theorem AB9 {e A6 M:Nat} (J8:A6<2 ^ 20) {ex:Ty->List Ty->F9} {B0:List Ty} (jl:∀t B,B<+:(ex t B).2) {ts:List Ty} {ya:AV} (WS:BF ya (AZ (CC ts))) (hl:ts.length<2 ^ 37)
  (ih:∀t∈ts,∀B,B0<+:B->(ex t B).2.length<=M->∀x,BH (ren t) x->∀s,BP s->Wv R e A6 44 [x] (ex t B) B s)
  {s0:AQ} (he:e<s0.bs.length) {d0:AV} {o:Option (List (List Ty))×List Ty} (rX:o.2.length<=M) {QR:QT}
  (hN:o.1=none->∀bs tk d,bs.take s0.bs.length=s0.bs.set e [d,AG A6]->Dn 0 tk 25 d (AZ o.2)->Ck d0 d s0.ts tk->QR (.tuple [.AE [],BB false]) ⟨bs,tk⟩)
  (hS:∀ls,o.1=some ls->∀bs tk d acc,BP ⟨bs,tk⟩->bs.take s0.bs.length=s0.bs.set e [d,AG A6]->s0.bs.length<=bs.length->Dn 0 tk 25 d (AZ o.2)->Ck d0 d s0.ts tk->BF acc (Dr ls)->AEd R 0 0 0 (.ptr e 0) acc ⟨bs,tk⟩ QR) :
  ∀(j p:Nat) (out:List (List Ty)) (Bc:List Ty) (bs:List (List AV)) (tk:List (Nat×Nat)) (d acc:AV),p+j=ts.length->FA ex (ts.drop p) out Bc=o->B0<+:Bc->out.length<=p ->
   BP ⟨bs,tk⟩->bs.take s0.bs.length=s0.bs.set e [d,AG A6]->s0.bs.length<=bs.length ->
   Dn 0 tk 25 d (AZ Bc)->Dn 0 tk 23 acc (Dr out)->Ck d0 d s0.ts tk->DW acc s0.ts->Sr d acc ->
   AEe R 0 0 0 (.ptr e 0) acc ya (AG ts.length) (AG p) ⟨bs,tk⟩ QR:=by
 intro j
 induction j with
 | zero=>
  intro p out Bc bs tk d acc hi hseq hB hop hs hT Nk hd hacc hch hfr KP;refine AEf (Ao ?_);rw[A2 AA];rw[CA AA,FA] at hseq;subst hseq;exact Ar (hS out rfl bs tk d acc hs hT Nk hd hch hacc.A4)
 | succ j D9=>
  intro p out Bc bs tk d acc hi hseq hB hop hs hT Nk hd hacc hch hfr KP;refine AEf (Ao ?_);rw[Aq AA];obtain⟨c,hc⟩:∃c,ts[p]?=some c:=⟨_,Ay AA⟩;have hrc:(CC ts)[p]?=some (ren c):=by grind[Bv]
  have hrl:((Ah (ren c)).map AV.pv).length=4:=by grind[Aj]
  have hro:=Cx (ren c)
  have Lz:Ag (bs.length+1) ((Ah (ren c)).map AV.pv)=true:=by
   obtain⟨k1,n1,i1,t1⟩:=ren c;rfl
  have EN:=(A8.Bk (ren c)).Fy;refine A1 (AQP (BX WS (row:=Ah (ren c)) AA (by grind[BL]) (Aj _) AA (Ce (Bm ?_))));rw[drop_cons hc,FA] at hseq;generalize (Ah (ren c)).map AV.pv=row at hrl hro Lz EN;refine Bn (Az bs Z4) hrl rfl AK (AO _) hro (.inl (AO _)) ?_;have e1:(bs++[Z4]).set bs.length row=bs++[row]:=AD;rw[e1];have hs1:BP ⟨bs++[row],tk⟩:=BP.app (s:=⟨bs,tk⟩) hs Lz;have gr:=Az bs row;have TZ:=(ED Nk row).trans hT;have lb:(bs++[row]).length=bs.length+1:=AD;generalize bs++[row]=b1 at hs1 gr TZ lb;have gE:(s0.bs.set e [d,AG A6])[e]?=some [d,AG A6]:=by rw[Ca he]
  have hfp:∀(l:List Ty) out B,B<+:(FA ex l out B).2:=λl out B=>Uu jl l out B
  have jm:=ih c (A5 hc) Bc hB;have hpre:=jl c Bc;rcases hg:ex c Bc with ⟨r,B1⟩
  rw[hg] at hseq jm hpre;simp only at hseq jm hpre;have Ww:B1.length<=M:=AB;obtain⟨w2,s2',⟨d2,KS,q1,q2,q3,rfl⟩,q4⟩:=jm Ww (.agg row) EN ⟨b1,tk⟩ hs1 (CT (env R) 88 0 0 0) d rfl rfl (CN TZ gE) hd;have JF:(b1.set e [d2,AG A6]).take s0.bs.length=s0.bs.set e [d2,AG A6]:=by simp[*,EY]
  refine Af gr hrl ⟨_,_,q4,?_⟩;cases r with
  | none=>
   cases q1;simp only at hseq;subst hseq;exact CO rfl (CO rfl (nt (A1 (hN rfl _ KS d2 JF q2 (hch.trans q3)))))
  | some r=>
   obtain⟨a2,rfl,UO⟩:=q1;simp only at hseq;have Kn:=q3.keep hacc KP;have LZ:Sr d2 acc:=KP.QF q3 hacc;refine CO rfl (CO rfl (nt (Ar (AQQ (jq UO ⟨AK,nK Kn rfl AA λacc' Nu h3 h4=>AQR (Be AA AA ?_)⟩)))));have Ma:=hch.trans q3;have hd3:=h4.keep q2 LZ.symm;have Ol:=Ma.side h4 hfr;have hs2:BP ⟨b1.set e [d2,AG A6],Nu⟩:=BP.set (s:=⟨b1,tk⟩) hs1 (by simp[Ag,Ax,q2.A4.Ax]) _;have:=D9 (p+1) (out++[r]) B1 (b1.set e [d2,AG A6]) Nu d2 acc' AA hseq (hB.trans hpre) AB hs2 JF AB hd3 h3 Ol (hfr.QF h4 Ma.1) (LZ.symm.QF h4 q2).symm
   grind
def Mb (A6:Nat) (ex:Ty->List Ty->F9) (ts B:List Ty):F9:=match FA ex ts [] B with
 | (none,B)=>(none,B)
 | (some ls,B)=>bif ls.any List.isEmpty then(some [],B) else match Dy (Aa A6) ls [[]] with
  | none=>(none,B)
  | some all=>(some (all.map (.mk 3 [] 0)),B)
theorem YE {A6:Nat}:∀(ls out r:List (List Ty)),Dy (Aa A6) ls out=some r->r.length<=A6\/r=out
 | [],out,r,h=>by grind[Dy]
 | l::ls,out,r,h=>by
  rw[Dy] at h;cases hb:Aa A6 (out.flatMap λp=>l.map λx=>p++[x]).length with
  | true=>grind
  | false=>
   rw[hb] at h;have hb':(out.flatMap λp=>l.map λx=>p++[x]).length<=A6:=AB;rcases YE ls _ r h with h1|h1
   all_goals grind
end
theorem YF {A6:Nat} {ex:Ty->List Ty->F9}:∀(l:List Ty) (out:List (List Ty)) (B:List Ty) (r:List (List Ty)),(∀t∈l,∀B r,(ex t B).1=some r->r.length<=A6)->(FA ex l out B).1=some r->(∀o∈out,o.length<=A6)->(∀o∈r,o.length<=A6)/\r.length=out.length+l.length
 | [],out,B,r,_,h,ho=>by grind[FA]
 | t::l,out,B,r,hx,h,ho=>by
  have h1:=hx t AD B;rw[FA] at h;rcases hr:ex t B with ⟨_|s,B1⟩
  .grind
  .rw[hr] at h h1
   have:=YF l (out++[s]) B1 r (λa ha=>hx a AB) h AB
   grind
section
variable {R:RT}
theorem ACA {e A6 M:Nat} (J8:A6<2 ^ 20) {ex:Ty->List Ty->F9} {B0:List Ty} (jl:∀t B,B<+:(ex t B).2) {ts:List Ty} (hxl:∀t∈ts,∀B r,(ex t B).1=some r->r.length<=A6) {ya:AV} (WS:BF ya (AZ (CC ts))) (hl:ts.length<2 ^ 36)
  (ih:∀t∈ts,∀B,B0<+:B->(ex t B).2.length<=M->∀x,BH (ren t) x->∀s,BP s->Wv R e A6 44 [x] (ex t B) B s)
  {B:List Ty} (hB:B0<+:B) (hM:(Mb A6 ex ts B).2.length<=M) {s:AQ} (hs:BP s):Wv R e A6 88 [ya] (Mb A6 ex ts B) B s:=by
 intro L d hro El hE hd;have le:=(BA.1 hE).1;have same:s.bs.set e [d,AG A6]=s.bs:=by grind[List.set_getElem_self]
 refine m88 AR ?_;rw[hro,El];refine AQS (Au (n:=ts.length) (by rw[WS.BD,Ab,Bv,Bt]) ?_);have AEg:=YF (A6:=A6) ts [] B (ex:=ex);rcases ho:FA ex ts [] B with ⟨r,B1⟩
 rw[ho] at AEg;have tQ:(Mb A6 ex ts B).2=B1:=by grind[Mb]
 rw[tQ] at hM;refine AB9 (M:=M) J8 jl WS AA ih le (o:=(r,B1)) hM ?_ ?_ ts.length 0 [] B s.bs s.ts d (.AE []) AA AB hB (AO _) hs AB (AY _) hd (.inl rfl) (Ck.refl _ _) (DW.AE _ _) (Sr.AE _ _)
 .rintro h bs tk d' hT hd' hch
  simp only at h;subst h;have e1:Mb A6 ex ts B=(none,B1):=by rw[Mb,ho]
  rw[e1];exact FF hs hT (hd'.A4.Ax _) (r:=none) rfl λw hw=>⟨d',tk,hw,hd',hch,rfl⟩
 .rintro ls h bs tk d' acc hs1 hT Nk hd' hch hacc
  simp only at h hd';subst h
  have e1:Mb A6 ex ts B=bif ls.any List.isEmpty then(some [],B1) else match Dy (Aa A6) ls [[]] with
   | none=>(none,B1)
   | some all=>(some (all.map (.mk 3 [] 0)),B1):=by grind[Mb]
  obtain⟨ZR,Sd⟩:=AEg ls hxl rfl AD;have gE:bs[e]?=some [d',AG A6]:=CN hT (by rw[Ca le]);simp only[B6,CI] at Sd;obtain⟨v,s',⟨ts',r1,r2,rfl⟩,r3⟩:=AB8 (R:=R) (L:=CT (env R) 88 0 0 0) J8 hacc AA (λl hl=>by grind) hs1 gE rfl rfl;have T6:=r2.keep hd' (λ_ h=>by cases h);have Ma:=hch.side r2 (DW.AE _ _);refine AQT ⟨_,_,r3,?_⟩
  have fin:∀(r:Option (List (List Ty))) ,eX v r->(r.map (List.map (Ty.mk 3 [] 0)),B1)=Mb A6 ex ts B->(∀all,r=some all->all.length<=A6+1) ->
    JU v 0 λa39=>JU v 1 λa40=>Gk ⟨bs,ts'⟩ a39 λa42=>xZ R 0 0 0 a40 (.AE []) a39 a42 (AG 0) ⟨bs,ts'⟩ (QM (L.rr 88) s.bs.length (λv s'=>∃d' ts',Res v (Mb A6 ex ts B).1/\Dn 0 ts' 25 d' (AZ (Mb A6 ex ts B).2)/\Ck d d' s.ts ts'/\s'=⟨s.bs.set e [d',AG A6],ts'⟩)):=by
   intro r hr he hle;rw[<-he];cases r with
   | none=>
    cases hr;refine CO rfl (CO rfl (Au (n:=0) rfl (xd (Ao ?_))));rw[A2 AA];exact Ar (AEi (FF hs hT (T6.A4.Ax _) (r:=none) rfl λw hw=>⟨d',ts',hw,T6,Ma,rfl⟩))
   | some all=>
    obtain⟨a,rfl,ha⟩:=hr;have hle':=hle all rfl;refine CO rfl (CO rfl (Au (n:=all.length) (by rw[ha.BD,IQ]) ?_));refine AI0 ha AA (O7:=ts') ?_ all.length 0 ts' (.AE []) AA (.inl rfl) (Ck.refl _ _);intro Om On h5 h6;refine AEi (FF hs hT (T6.A4.Ax _) (r:=some (all.map (.mk 3 [] 0))) ⟨Om,rfl,h5.A4⟩ λw hw=>⟨d',On,hw,h6.keep T6 (λ_ h=>by cases h),Ma.side h6 (DW.AE _ _),rfl⟩)
  refine fin _ r1 ?_ ?_
  .grind
  .intro all h
   cases hb:ls.any List.isEmpty with
   | true=>grind
   | false=>
    rw[hb] at h;simp only[AL] at h;rcases YE ls [[]] all h with h1|h1
    all_goals grind
end
section
variable {R:RT}
theorem Ta {e:Nat} {t6:AV} {s:AQ} {QR:QT} (h:QR (.tuple [.AE [],BB false]) s):nN R 0 0 0 (.ptr e 0) t6 (BB false) s QR:=
 AEj (nt (BQ (BQ (BQ (BQ (BQ (BQ (BQ (pk (A1 h))))))))))
theorem eY {e A6:Nat} {d a:AV} {l:List Ty} {s:AQ} {QR:QT} (ha:BF a (AZ (CC l))) (kE:s.bs[e]?=some [d,AG A6]) (h:∀w,Res w (bif Aa A6 l.length then none else some l)->QR w s):nN R 0 0 0 (.ptr e 0) a (BB true) s QR:=by
 refine AEj (nt (Ak (b:=false) (Ak (b:=false) (Au (n:=l.length) (by rw[ha.BD,Ab,Bv,Bt]) (Ak (b:=false) (Ak (b:=false) (C2 (AU kE) (Ak (b:=false) (AM (AU kE) (Ak (b:=false) (AX (off:=1) kE rfl (Ak (b:=false) (Fm (pk ?_))))))))))))));have eb:decide ((l.length:Int)>(A6:Nat))=Aa A6 l.length:=AD;rw[eb];cases hb:Aa A6 l.length with
 | true=>rw[hb] at h; exact A1 (h _ rfl)
 | false=>rw[hb] at h; exact Ar (AQU (h _ ⟨a,rfl,ha⟩))
theorem ACB {e A6 M:Nat} {ex:Ty->List Ty->F9} {B0:List Ty} (jl:∀t B,B<+:(ex t B).2) {ts:List Ty} (hxl:∀t∈ts,∀B r,(ex t B).1=some r->r.length<=A6) {ya:AV} (WS:BF ya (AZ (CC ts))) (hl:ts.length*A6<2 ^ 38) (Sd:ts.length<2 ^ 38)
  (ih:∀t∈ts,∀B,B0<+:B->(ex t B).2.length<=M->∀x,BH (ren t) x->∀s,BP s->Wv R e A6 44 [x] (ex t B) B s)
  {s0:AQ} (he:e<s0.bs.length) {d0:AV} {o:(List Ty×Bool)×List Ty} (rX:o.2.length<=M) {QR:QT}
  (hK:∀bs tk d acc,BP ⟨bs,tk⟩->bs.take s0.bs.length=s0.bs.set e [d,AG A6]->Dn 0 tk 25 d (AZ o.2)->Ck d0 d s0.ts tk->BF acc (AZ (CC o.1.1))->nN R 0 0 0 (.ptr e 0) acc (BB o.1.2) ⟨bs,tk⟩ QR) :
  ∀(j p:Nat) (out:List Ty) (ok:Bool) (Bc:List Ty) (bs:List (List AV)) (tk:List (Nat×Nat)) (d acc:AV),p+j=ts.length->HV ex (ts.drop p) out ok Bc=o->B0<+:Bc->out.length+j*A6<=ts.length*A6 ->
   BP ⟨bs,tk⟩->bs.take s0.bs.length=s0.bs.set e [d,AG A6]->s0.bs.length<=bs.length ->
   Dn 0 tk 25 d (AZ Bc)->Dn 0 tk 25 acc (AZ (CC out))->Ck d0 d s0.ts tk->DW acc s0.ts->Sr d acc ->
   AEk R 0 0 0 (.ptr e 0) acc (BB ok) ya (AG ts.length) (AG p) ⟨bs,tk⟩ QR:=by
 intro j
 induction j with
 | zero=>
  intro p out ok Bc bs tk d acc hi hseq hB hop hs hT Nk hd hacc hch hfr KP;refine AEl (Ao ?_);rw[A2 AA];rw[CA AA,HV] at hseq;subst hseq;exact Ar (hK bs tk d acc hs hT hd hch hacc.A4)
 | succ j D9=>
  intro p out ok Bc bs tk d acc hi hseq hB hop hs hT Nk hd hacc hch hfr KP;refine AEl (Ao ?_);rw[Aq AA];obtain⟨c,hc⟩:∃c,ts[p]?=some c:=⟨_,Ay AA⟩;have hrc:(CC ts)[p]?=some (ren c):=by grind[Bv]
  have hrl:((Ah (ren c)).map AV.pv).length=4:=by grind[Aj]
  have hro:=Cx (ren c)
  have Lz:Ag (bs.length+1) ((Ah (ren c)).map AV.pv)=true:=by
   obtain⟨k1,n1,i1,t1⟩:=ren c;rfl
  have EN:=(A8.Bk (ren c)).Fy;rw[KV] at hop;refine A1 (AQV (BX WS (row:=Ah (ren c)) AA (by grind[BL]) (Aj _) AA (Ce (Bm ?_))));rw[drop_cons hc,HV] at hseq;generalize (Ah (ren c)).map AV.pv=row at hrl hro Lz EN;refine Bn (Az bs Z4) hrl rfl AK (AO _) hro (.inl (AO _)) ?_;have e1:(bs++[Z4]).set bs.length row=bs++[row]:=AD;rw[e1];have hs1:BP ⟨bs++[row],tk⟩:=BP.app (s:=⟨bs,tk⟩) hs Lz;have gr:=Az bs row;have TZ:=(ED Nk row).trans hT;have lb:(bs++[row]).length=bs.length+1:=AD;generalize bs++[row]=b1 at hs1 gr TZ lb;have gE:(s0.bs.set e [d,AG A6])[e]?=some [d,AG A6]:=by rw[Ca he]
  have hfp:∀(l:List Ty) out ok B,B<+:(HV ex l out ok B).2:=λl out ok B=>QA jl l out ok B
  have jm:=ih c (A5 hc) Bc hB;have hxc:=hxl c (A5 hc) Bc;have hpre:=jl c Bc;rcases hg:ex c Bc with ⟨r,B1⟩
  rw[hg] at hseq jm hpre hxc;simp only at hseq jm hpre hxc;have Ww:B1.length<=M:=AB;obtain⟨w2,s2',⟨d2,KS,q1,q2,q3,rfl⟩,q4⟩:=jm Ww (.agg row) EN ⟨b1,tk⟩ hs1 (CT (env R) 44 0 0 0) d rfl rfl (CN TZ gE) hd;have JF:(b1.set e [d2,AG A6]).take s0.bs.length=s0.bs.set e [d2,AG A6]:=by simp[*,EY]
  have Kn:=q3.keep hacc KP;have LZ:Sr d2 acc:=KP.QF q3 hacc;have Ma:=hch.trans q3
  have pick:∀(b:Bool) (s:AQ) (K:AV->AQ->Prop),K (BB (ok&&b)) s->UI (BB ok) true s (λK=>K (BB b) s) λa40 s1=>Hi (BB ok) a40 (BB false) λa41=>K a41 s1:=by
   intro b s K hK;cases ok with
   | true=>grind[Ak,pk]
   | false=>grind[Bf,pk]
  refine Af gr hrl ⟨_,_,q4,?_⟩
  have go:∀(a2:AV) (b:Bool) (AI1:List Ty) (r2:List Ty),AI1=out++r2->r2.length<=A6->BF a2 (AZ (CC r2))->HV ex (ts.drop (p+1)) AI1 (ok&&b) B1=o ->
    JU (.tuple [a2,BB b]) 0 λa33=>JU (.tuple [a2,BB b]) 1 λa34=>(4=4/\4≠0)/\HB false (CT (env R) 44 0 0 0) ⟨b1.set e [d2,AG A6],KS⟩ 25 4 56 acc a33 λa37 jr=>
     UI (BB ok) true jr (λK=>K a34 jr) λa40 aP=>Hi (BB ok) a40 (BB false) λa41=>xe R 0 0 0 (.ptr e 0) a37 a41 ya (AG ts.length) (AG p) aP QR:=by
   intro a2 b AI1 r2 tQ N4 UO hseq;subst tQ;refine CO rfl (CO rfl ⟨AK,FG Kn rfl (by grind[Bv]) UO λacc' Nu MV WW=>pick b _ (λa41 aP=>xe R 0 0 0 (.ptr e 0) acc' a41 ya (AG ts.length) (AG p) aP QR) (AQW (Be AA AA ?_))⟩);have er:CC out++CC r2=CC (out++r2):=by simp[Bv]
   rw[er] at MV;have hd3:=WW.keep q2 LZ.symm;have Ol:=Ma.side WW hfr;have hs2:BP ⟨b1.set e [d2,AG A6],Nu⟩:=BP.set (s:=⟨b1,tk⟩) hs1 (by simp[Ag,Ax,q2.A4.Ax]) _;have:=D9 (p+1) (out++r2) (ok&&b) B1 (b1.set e [d2,AG A6]) Nu d2 acc' AA hseq (hB.trans hpre) AB hs2 JF AB hd3 MV Ol (hfr.QF WW Ma.1) (LZ.symm.QF WW q2).symm
   grind
  cases r with
  | none=>
   cases q1;exact go (.AE []) false out [] AD AD (.inl (.AE _)) AB
  | some r=>
   obtain⟨a2,rfl,UO⟩:=q1
   grind
end
end Go.Proofs.YtpgfpakdnijngaaGreatDoor
