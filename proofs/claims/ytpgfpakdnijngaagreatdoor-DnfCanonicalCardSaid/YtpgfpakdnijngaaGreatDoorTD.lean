/-
  A branch's body with its placeholders numbered: the whole term.
-/
import Derived.Test.YtpgfpakdnijngaaGreatDoorTC
import Derived.Test.YtpgfpakdnijngaaGreatDoorTB
import Derived.Test.YtpgfpakdnijngaaGreatDoorW1
set_option linter.all false
namespace Go.Proofs.YtpgfpakdnijngaaGreatDoor
open Go.Tel
attribute [local simp] Bw B6 KS KT AO C1 GC wO setCells CR EG DQ Cu BD alive Cb Fi Hs jo Ay DC BV GL DY D0 qY oO okB qZ qa qb qc qd fK qe qf qg qh qi qj qm qo qp qt qu okF qv qw qx qy rC U2 rD RJ RK RL RM rE rF rG rH rI rJ rK rL rM rN Gu rO oP rP rQ rR rS rT rU rV rW rX rY Cm g0 g1 xI xL xM xF xG xC lf Y4 Y5
mutual
theorem R5 (N:Nat):∀(t:Ty) (o:List Nat),(KE N t o).2.length<=o.length+size t
 | .mk k n i ts,o=>by
  have:=bS N ts o
  grind[KE,size]
theorem bS (N:Nat):∀(l:List Ty) (o:List Nat),(Gh N l o).2.length<=o.length+AQ l
 | [],_=>MW _ _
 | t::l,o=>by
  have h1:=R5 N t o;have h2:=bS N l (KE N t o).2
  grind[Gh,AQ]
end
section
variable {R:RT}
mutual
theorem bT (hn:NN R) {P A F e N:Nat} {B:List Ty} (hN:B.length=N) (kY:N<=2 ^ 40):∀(t:Ty),size t<2 ^ 38->Fm N t=true->∀(x:AV),A5 (ren t) x->∀(o:List Nat) (s:AM),Bj s->U9 P A F e B s.bs->o.length+size t<2 ^ 40->vA R P A F N x o t s
 | .mk k n i ts,h,ht,x,hx,o,s,hs,hE,hb,L,c,hro,GZ,hA,hc=>by
  have lA:=(BL.1 hA).1;have U3:=Bk ts;have VA:=J8 hn kY ht hx;rw[Fm] at ht;simp only[size] at h hb;refine m91 (by simp[Bb,Ep]) ?_;rw[hro,GZ];have same:s.bs.set A [c]=s.bs:=by grind[List.set_getElem_self]
  by_cases h7:k=7
  .subst h7
   simp only[CN,AH,AD,Dx,CZ] at ht;obtain⟨hts,hi0,hiN⟩:=ht;subst hts;have er:ren (.mk 7 n i [])=.mk 2 (36::G4 i.toNat) 0 []:=rfl;rw[er] at hx;obtain⟨a,rfl,ha⟩:=hx;generalize (36::G4 i.toNat)=nm at VA;have g:=Ah (Am s.bs [AA 2,SS nm,AA 0,a]) Z4;have gz:=Am (s.bs++[[AA 2,SS nm,AA 0,a]]) Z4;have gA:=Ah (Ah hA [AA 2,SS nm,AA 0,a]) Z4;have gP:=Ah (Ah hE.hP [AA 2,SS nm,AA 0,a]) Z4;obtain⟨d,ds,he,hd⟩:=hE.he;have ge:=Ah (Ah he [AA 2,SS nm,AA 0,a]) Z4;have tkn:(s.bs++[[AA 2,SS nm,AA 0,a]]++[Z4]).take s.bs.length=s.bs.set A [c]:=by grind
   have el:(s.bs++[[AA 2,SS nm,AA 0,a]]).length=s.bs.length+1:=by simp
   refine AEC (CT (cs:=[AA 2,SS nm,AA 0,a]) rfl (by simp[ha.ok]) (Bi ?_));simp only[el];rw[el] at gz;generalize Vg:s.bs++[[AA 2,SS nm,AA 0,a]]++[Z4]=bs at g gz gA gP ge tkn;refine Af g rfl (AG VA ?_);rintro _ rfl;refine CC rfl (CC rfl (Ax (Ax (Ag gP rfl (Ax (FG (Ak ge) (Ax (AW (Ak ge) (Ax (Ag ge rfl (Ax (BI (n:=N) (by rw[hd.BN,AR,hN]) (Ax (A2 (pk ?_)))))))))))))));rw[Aq (by omega)];refine BP (Ag gA rfl (AG (gS (l:=gU o) (by grind) hc.A9) ?_));rintro _ rfl;rw[AB8 o hi0]
   have hcv:(KE N (.mk 7 n i []) o)=match o.findIdx? (·==i.toNat) with
     | some j=>(var j,o)
     | none=>(var o.length,o++[i.toNat]):=by grind[KE]
   rw[hcv]
   have fin:∀(j:Int) (c':AV) (ts':List (Nat×Nat)) (bs':List (List AV)) (Post:AV->AM->Prop),Ai s.bs.length c'=true->bs'.take s.bs.length=s.bs.set A [c']->bs'[s.bs.length+1]?=some Z4->(∀ds,BM (ren (var j)) (.agg ds)->Post (.agg ds) ⟨s.bs.set A [c'],ts'⟩) ->
     kZ R 0 0 0 (.ptr (s.bs.length+1) 0) (AA j) ⟨bs',ts'⟩ (QM (L.rr 91) s.bs.length Post):=by
    intro j c' ts' bs' Post hid hT hz hP;refine AOK (NM (cs:=[AA 5,SS [],AA j,.AB []]) rfl (BZ hz rfl rfl (by decide) (AK _) rfl (.inl (AK _)) (Af (Be hz) rfl ?_)));exact kW hs ((DV (by omega)).trans hT) (by grind[Ab]) rfl (hP _ ⟨_,rfl,.inl (.AB _)⟩)
   cases hf:o.findIdx? (·==i.toNat) with
   | some j=>
    refine A2 ?_;rw[BF (by simp)];exact BE (fin j c s.ts bs _ (hc.A9.Ai _) tkn gz λds hds=>⟨c,s.ts,ds,hc,ES.refl _ _,rfl,hds,rfl⟩)
   | none=>
    refine A2 ?_;rw[Aq (by simp)];refine BP (Ag gA rfl (BI (n:=o.length) (by rw[hc.A9.BN,CS,Bn]) (Ag gA rfl (Ye ⟨by decide,u9 hc rfl (by grind) λc' ts' HM hch=>?_⟩))));refine Dr gA (by simp) HM.A9.cells (AK _) HM.A9.ok (.inl (AK _)) ?_;have hT:=Gk (j:=A) (c:=[c']) tkn;rw[XT] at hT;have hi:((i.toNat:Nat):Int)=i:=by omega
    refine⟨Ag gA rfl (by rcases hc with rfl|⟨t,rfl,_⟩ <;> simp[Tel.CQ,K9]),BI (n:=o.length) (by rw[hc.A9.BN,CS,Bn]) (by simp[Tel.CQ,PX,F5]),?_⟩;refine fin o.length c' ts' _ _ (HM.A9.Ai _) hT (Bm gz (by omega)) λds hds=>⟨c',ts',ds,?_,hch,rfl,hds,rfl⟩
    grind
  .have b7:(k==7)=false:=by grind
   have er:=Ga k n i ts h7;rw[er] at hx;rw[b7] at ht VA;simp only[AE,AD] at ht VA;obtain⟨a,rfl,ha⟩:=hx;obtain⟨g0,g1,g2⟩:=IJ (s:=s) (c:=[AA k,SS n,AA i,a]) (d:=[AA k,SS n,AA i,.AB []]);have gx:=Ah (Am s.bs [AA k,SS n,AA i,a]) Z4;have hcv:KE N (.mk k n i ts) o=(.mk k n i (Gh N ts o).1,(Gh N ts o).2):=by grind[KE]
   rw[hcv];refine AEC (CT (cs:=[AA k,SS n,AA i,a]) rfl (by simp[ha.ok]) (Bi (Af gx rfl (AG VA ?_))));rintro _ rfl;refine CC rfl (CC rfl (Bx (Bx (Bx (Bx (Bx (Bx (Bx (pk (BE (AOL (Af gx rfl (Bi ?_)))))))))))));refine BZ (old:=Z4) (Am _ _) rfl rfl (by decide) (AK _) (by simp[ha.ok]) (.inl (AK _)) ?_;have e:((s.bs++[[AA k,SS n,AA i,a]]++[Z4]++[Z4]).set (s.bs++[[AA k,SS n,AA i,a]]++[Z4]).length [AA k,SS n,AA i,a])=(F9 s [AA k,SS n,AA i,a] [AA k,SS n,AA i,a]).bs:=by grind[F9]
   have l1:(s.bs++[[AA k,SS n,AA i,a]]++[Z4]).length=s.bs.length+2:=by simp
   have l2:(s.bs++[[AA k,SS n,AA i,a]]).length=s.bs.length+1:=by simp
   simp only at e l1 l2 ⊢;rw[e];simp only[l1,l2];obtain⟨_,_,q2⟩:=IJ (s:=s) (c:=[AA k,SS n,AA i,a]) (d:=[AA k,SS n,AA i,a]);refine AW (Ak q2) (Dr (off:=3) q2 (AN 4) rfl (AK _) rfl (.inl (AK _)) ?_);have e2:(F9 s [AA k,SS n,AA i,a] [AA k,SS n,AA i,a]).bs.set (s.bs.length+2) ([AA k,SS n,AA i,a].set 3 (.AB []))=(F9 s [AA k,SS n,AA i,a] [AA k,SS n,AA i,.AB []]).bs:=by simp[*,F9]
   show BD ⟨(F9 s [AA k,SS n,AA i,a] [AA k,SS n,AA i,a]).bs.set (s.bs.length+2) ([AA k,SS n,AA i,a].set 3 (.AB [])),s.ts⟩ _ _ _
   rw[e2];refine AW (Ak g0) (Ag g0 rfl (BI (n:=ts.length) (by rw[ha.BN,AR,Bf,Bn]) ?_));have tkn:(F9 s [AA k,SS n,AA i,a] [AA k,SS n,AA i,.AB []]).bs.take s.bs.length=s.bs.set A [c]:=by simp[*,F9]
   refine vB hN ha (by omega) h7 (o0:=o) (c0:=c) hs lA hE (λt hm o s hs hE hb=>WJ hn hN kY ts (by omega) ht.2.2 t hm o s hs hE hb) (λt _ o=>R5 N t o) (by omega) (λc' ts' ds h1 h2 h3=>⟨c',ts',ds,h1,h2,rfl,?_,rfl⟩) ts.length 0 o [] _ s.ts (.AB []) c (by omega) (by simp) (by simp) rfl (by simp)
    (R4 hs (by simp[Ab,Ai,ha.Ai]) (by rfl)) tkn g0 g1 g2 hc (.inl rfl) (ES.refl _ _) (D2.AB _ _) (RU.AB _ _)
   grind[Ga]
theorem WJ (hn:NN R) {P A F e N:Nat} {B:List Ty} (hN:B.length=N) (kY:N<=2 ^ 40):∀(ts:List Ty),AQ ts<2 ^ 38->GD N ts=true->∀t∈ts,∀(o:List Nat) (s:AM),Bj s->U9 P A F e B s.bs->o.length+size t<2 ^ 40->vA R P A F N (.agg ((Aa (ren t)).map .pv)) o t s
 | [],_,_,_,h=>by cases h
 | u::l,h,ht,t,hm=>by
  simp only[AQ] at h;simp only[GD,AD] at ht;rcases Az.1 hm with h' | h'
  .rw[h']
   exact bT hn hN kY u (by omega) ht.1 _ (A5.Bu _)
  .exact WJ hn hN kY l (by omega) ht.2 t h'
end
end
mutual
theorem gW {N:Nat}:∀(t:Ty) (o:List Nat),Fm N t=true->(∀x∈o,x<N)->∀x∈(KE N t o).2,x<N
 | .mk k n i ts,o,h,ho=>by
  rw[Fm] at h;rw[KE];cases h7:(k==7) with
  | true=>
   grind
  | false=>
   rw[h7] at h;simp only[AE,AD] at h;exact kg ts o h.2.2 ho
theorem kg {N:Nat}:∀(l:List Ty) (o:List Nat),GD N l=true->(∀x∈o,x<N)->∀x∈(Gh N l o).2,x<N
 | [],_,_,ho=>ho
 | t::l,o,h,ho=>by
  simp only[GD,AD] at h;exact kg l _ h.2 (gW t o h.1 ho)
end
mutual
theorem ki {N:Nat}:∀(t:Ty) (o:List Nat),Fm N t=true->ren (KE N t o).1=(KE N t o).1
 | .mk k n i ts,o,h=>by
  rw[Fm] at h;rw[KE];cases h7:(k==7) with
  | true=>
   rw[h7] at h;simp only[AH,AD,CZ] at h;simp only[CU,h.2.2,decide_true,AH];split <;> rfl
  | false=>
   rw[h7] at h;simp only[AE,AD] at h;simp only[Ib,AE];rw[Ga _ _ _ _ (by grind),bU ts o h.2.2]
theorem bU {N:Nat}:∀(l:List Ty) (o:List Nat),GD N l=true->Bq (Gh N l o).1=(Gh N l o).1
 | [],_,_=>rfl
 | t::l,o,h=>by
  simp only[GD,AD] at h;simp only[Gh,Bq,ki t o h.1,bU l _ h.2]
end
theorem IV {l m:List (List AV)} {j n:Nat} {v:List AV} (hn:l.length=n) (h:m[j]?=some v):(l++m)[n+j]?=some v:=by grind
theorem Yj {l m:List (List AV)} {j n:Nat} {v:List AV} (hn:l.length=n):(l++m).set (n+j) v=l++m.set j v:=by
 rw[<-hn,XU _ _ (by omega),Nat.add_sub_cancel_left]
theorem Ti {rr:Bool} {cs ds:List AV} {s0:AM} {bs:List (List AV)} {ts:List (Nat×Nat)} {Post:AV->AM->Prop} (h0:Bj s0) (hT:bs.take s0.bs.length=s0.bs) (Ba:AU bs s0.bs.length ts.length cs=some ds) (hP:Post (.agg ds) ⟨s0.bs,ts⟩):QM rr s0.bs.length Post (.agg cs) ⟨bs,ts⟩:=by
 refine gT (ds:=ds) ?_ Ba ?_
 .rw[De]
  intro b hb;exact h0 b (by grind)
 grind
abbrev Z5:List AV:=.AB []::Z4
def D3 (b:Br) (x:AV):Prop:=∃a y,x=.agg (a::y)/\BG a (AP b.bounds)/\BM b.body (.agg y)
section
variable {R:RT}
theorem bV {e:Nat} {B:List Ty} (hB:∀t∈B,size t<2 ^ 38/\RQ t=true) {o:List Nat} (ho:∀x∈o,x<B.length) (hol:o.length<2 ^ 38) {s0:AM} (hs0:Bj s0) {d:AV} {dr:List AV} (he:s0.bs[e]?=some (d::dr)) (hd:BG d (AP B)) {xs y:List AV} {t:Ty} (hy:BM t (.agg y)) {c f:AV} (hc:BG c (AY (gU o)))
  {rr:Bool} {Post:AV->AM->Prop} (hP:∀v ts',D3 ⟨o.map λx=>B.getD x oV,t⟩ v->ES (.AB []) (.AB []) s0.ts ts'->Post v ⟨s0.bs,ts'⟩) :
  ∀(j q:Nat) (tk:List (Nat×Nat)) (b:AV),q+j=o.length->EM 0 tk 25 b (AP ((o.take q).map λx=>B.getD x oV))->ES (.AB []) (.AB []) s0.ts tk->D2 b s0.ts ->
   bW R 0 0 0 (.ptr s0.bs.length 0) (.ptr (s0.bs.length+2) 0) (.ptr (s0.bs.length+5) 0) c (AA o.length) (AA q) ⟨s0.bs++[[.ptr e 0],xs,Z5,[c],[f],b::y],tk⟩ (QM rr s0.bs.length Post):=by
 have hy4:y.length=4/\y.all A1=true:=by
  obtain⟨k,n,i,ts⟩:=t;obtain⟨a,hy,ha⟩:=hy;cases hy;exact⟨rfl,by simp[ha.ok]⟩
 intro j
 induction j with
 | zero=>
  intro q tk b hi hb hC hF;refine AED (A2 ?_);rw[BF (by omega)];rw[Cv (by omega)] at hb;have g5:(s0.bs++[[.ptr e 0],xs,Z5,[c],[f],b::y])[s0.bs.length+5]?=some (b::y):=IV rfl rfl;have g2:(s0.bs++[[.ptr e 0],xs,Z5,[c],[f],b::y])[s0.bs.length+2]?=some Z5:=IV rfl rfl;refine BE (AOM (Af g5 (by grind) (BZ g2 (by grind) rfl (by decide) (AK _) (by simp only[Ho,hb.A9.ok,hy4.2,Fw]) (.inl (AK _)) (Af (Be g2) (by grind) ?_))));obtain⟨b',c1,c2⟩:=hb.A9.close ((s0.bs++[[.ptr e 0],xs,Z5,[c],[f],b::y]).set (s0.bs.length+2) (b::y)) s0.bs.length tk.length;obtain⟨ds,c3,c4⟩:=hy.Mr ((s0.bs++[[.ptr e 0],xs,Z5,[c],[f],b::y]).set (s0.bs.length+2) (b::y)) s0.bs.length tk.length;refine Ti (ds:=b'::ds) hs0 ?_ (by simp_all) (hP _ tk ⟨b',ds,rfl,c2,c4⟩ hC);simp
 | succ j Et=>
  intro q tk b hi hb hC hF;refine AED (A2 ?_);rw[Aq (by omega)];obtain⟨u,hu⟩:∃u,o[q]?=some u:=⟨_,Ap (by omega)⟩;have huB:=ho u (BA hu);have hBu:B[u]?=some (B.getD u oV):=by grind
  have hm:=hB _ (BA hBu);have g0:(s0.bs++[[.ptr e 0],xs,Z5,[c],[f],b::y])[s0.bs.length]?=some [.ptr e 0]:=IV (j:=0) rfl rfl;have g5:(s0.bs++[[.ptr e 0],xs,Z5,[c],[f],b::y])[s0.bs.length+5]?=some (b::y):=IV rfl rfl;have ge:(s0.bs++[[.ptr e 0],xs,Z5,[c],[f],b::y])[e]?=some (d::dr):=by grind
  refine BP (AON (CH hc (row:=[.sc (.int .i64 u)]) (by omega) (by simp[*,AY]) rfl (by omega) (LM (AW (Ak g5) (Ag g5 rfl (Ag g0 rfl (FG (Ak ge) (AW (Ak ge) (Ag ge rfl (CH hd (row:=Aa (B.getD u oV)) (by omega) (by grind[BJ]) (Ad _) (by omega) (Di (AG (MH hm.1 hm.2 (A5.Bu _)) ?_))))))))))));intro r hr;refine Gj hr.Km ⟨by decide,Mq hb rfl (by grind) λb' Hx hb' hch=>?_⟩;have e1:((o.take q).map λx=>B.getD x oV)++[B.getD u oV]=(o.take (q+1)).map λx=>B.getD x oV:=by grind[List.take_add_one]
  rw[e1] at hb';refine AW (Ak g5) (Dr g5 (by simp) hb'.A9.cells (AK _) hb'.A9.ok (.inl (AK _)) ?_);have e2:(s0.bs++[[.ptr e 0],xs,Z5,[c],[f],b::y]).set (s0.bs.length+5) (b'::y)=s0.bs++[[.ptr e 0],xs,Z5,[c],[f],b'::y]:=Yj rfl;refine⟨AW (Ak g5) (Ec _ _),Ag g5 rfl (IG hb),AOO (CO (by omega) (by omega) ?_)⟩
  show bW R _ _ _ _ _ _ _ _ _ ⟨(s0.bs++[[.ptr e 0],xs,Z5,[c],[f],b::y]).set (s0.bs.length+5) (b'::y),Hx⟩ _
  rw[e2];have:=Et (q+1) Hx b' (by omega) hb' (hC.side hch hF) (hF.WI hch hC.1)
  grind
theorem Q5 (hn:NN R) {e:Nat} {B:List Ty} (kY:B.length<=2 ^ 40) (hB:∀t∈B,size t<2 ^ 38/\RQ t=true) {p:Ty} (hp:size p<2 ^ 38) (ht:Fm B.length p=true) {x:AV} (hx:A5 (ren p) x) {s:AM} (hs:Bj s) {d:AV} {dr:List AV} (he:s.bs[e]?=some (d::dr)) (hd:BG d (AP B)) {L:A3} (hro:L.ro=0) (GZ:L.rt=0) :
  ∃v s',(∃ts',D3 (IY B p) v/\ES (.AB []) (.AB []) s.ts ts'/\s'=⟨s.bs,ts'⟩)/\A8 (env R) L 45 [.ptr e 0,x] s v s':=by
 refine m45 (by rfl) ?_;rw[hro,GZ];have hel:=(BL.1 he).1;have hxx:=hx
 obtain⟨k,n,i,ts,hr⟩:∃k n i ts,ren p=.mk k n i ts:=by
  obtain⟨k,n,i,ts⟩:=ren p;simp
 rw[hr] at hx;obtain⟨a,rfl,ha⟩:=hx;have hol:=R5 B.length p [];refine AOP (CT (cs:=[.ptr e 0]) rfl rfl (CT (cs:=[AA k,SS n,AA i,a]) rfl (by simp[ha.ok]) (Bi (Bi (Bi ?_)))));simp only[EX,Eu,ED,B7,CI,Ce,Cg,Nat.reduceAdd];have g4:(s.bs++[[.ptr e 0],[AA k,SS n,AA i,a],Z5,[.AB []],[.pv (.sc .nilFunc)]])[s.bs.length+4]?=some [.pv (.sc .nilFunc)]:=IV rfl rfl;refine Dr g4 (by decide) rfl (AK _) rfl (.inl (AK _)) ?_;have e4:∀c,(s.bs++[[.ptr e 0],[AA k,SS n,AA i,a],Z5,[.AB []],[.pv (.sc .nilFunc)]]).set (s.bs.length+4) c=s.bs++[[.ptr e 0],[AA k,SS n,AA i,a],Z5,[.AB []],c]:=λ_=>Yj rfl
 simp only[e4,List.set_cons_zero];generalize Vg:s.bs++[[.ptr e 0],[AA k,SS n,AA i,a],Z5,[.AB []],[bR s.bs.length (s.bs.length+3) (s.bs.length+4)]]=bs;have Oa:bs.length=s.bs.length+5:=by grind
 have k0:bs[s.bs.length]?=some [.ptr e 0]:=by grind
 have k1:bs[s.bs.length+1]?=some [AA k,SS n,AA i,a]:=by rw[<-Vg]; simp
 have k3:bs[s.bs.length+3]?=some [.AB []]:=by rw[<-Vg]; simp
 have k4:bs[s.bs.length+4]?=some [bR s.bs.length (s.bs.length+3) (s.bs.length+4)]:=by grind
 have ke:bs[e]?=some (d::dr):=by grind
 have hok:Bj ⟨bs,s.ts⟩:=by
  intro b hb;rw[<-Vg] at hb;simp only[CM,Az,Ex,Ey] at hb
  show Ab bs.length b=true
  rw[Oa];rcases hb with hb|rfl|rfl|rfl|rfl|rfl
  .exact Bt (by omega) b (hs b hb)
  .simp[Ab,Ai]; omega
  .simp[Ab,Ai,ha.Ai]
  all_goals simp[*,Ab,Ai]
 refine Ag k4 rfl (Af k1 rfl ?_);obtain⟨v,s',⟨c',ts',ds,r1,r2,rfl,r4,rfl⟩,r6⟩:=bT hn (e:=e) (P:=s.bs.length) (A:=s.bs.length+3) (F:=s.bs.length+4) (N:=B.length) rfl kY p hp ht _ hxx [] ⟨bs,s.ts⟩ hok ⟨k0,k4,⟨d,dr,ke,hd⟩,by omega,by omega,by omega⟩ (by grind) (Cu (env R) 45 0 0 0) (.AB []) rfl rfl k3 (.inl rfl);rw[ki p [] ht] at r4
 have hds:ds.length=4/\ds.all A1=true:=by
  generalize (KE B.length p []).1=t at r4;obtain⟨k,n,i,ts⟩:=t;obtain⟨a,hy,ha⟩:=r4;cases hy;exact⟨rfl,by simp[ha.ok]⟩
 have AU0:∀f,(s.bs++[[.ptr e 0],[AA k,SS n,AA i,a],Z5,[c'],[f],Z5]).set (s.bs.length+5) (.AB []::ds)=s.bs++[[.ptr e 0],[AA k,SS n,AA i,a],Z5,[c'],[f],.AB []::ds]:=λ_=>Yj rfl
 refine⟨_,_,r6,NM (cs:=.AB []::ds) ?_ ?_⟩
 .simp only[GC,cellsOf,hds.1,hds.2,CI,Ce,and_self,Nat.reduceAdd,AN,GR]
  match ds,hds.1 with
  | [d1,d2,d3,d4],_=>rfl
 .subst Vg
  have e3:∀c,(s.bs++[[.ptr e 0],[AA k,SS n,AA i,a],Z5,[.AB []],[bR s.bs.length (s.bs.length+3) (s.bs.length+4)]]).set (s.bs.length+3) c=s.bs++[[.ptr e 0],[AA k,SS n,AA i,a],Z5,c,[bR s.bs.length (s.bs.length+3) (s.bs.length+4)]]:=λ_=>Yj rfl
  simp only[e3];refine Bi ?_;simp only[EX,Eu,ED,B7,CI,Ce,Cg,Nat.reduceAdd];have g5:(s.bs++[[.ptr e 0],[AA k,SS n,AA i,a],Z5,[c'],[bR s.bs.length (s.bs.length+3) (s.bs.length+4)],Z5])[s.bs.length+5]?=some Z5:=IV rfl rfl;refine BZ g5 (by grind) rfl (by decide) (AK _) (by simp[*]) (.inl (AK _)) ?_;simp only[AU0];have g3:(s.bs++[[.ptr e 0],[AA k,SS n,AA i,a],Z5,[c'],[bR s.bs.length (s.bs.length+3) (s.bs.length+4)],.AB []::ds])[s.bs.length+3]?=some [c']:=IV rfl rfl;refine Ag g3 rfl (BI (n:=(KE B.length p []).2.length) (by rw[r1.A9.BN,CS,Bn]) ?_);simp only[Ce] at hol;exact bV hB (gW p [] ht (by simp)) (by omega) hs he hd r4 r1.A9 (λv ts' h1 h2=>⟨ts',h1,h2,rfl⟩) (KE B.length p []).2.length 0 ts' (.AB []) (by omega) (.inl rfl) ⟨r2.1,r2.2.1,.inl rfl⟩ (D2.AB _ _)
end
mutual
def gX (m:Int->Bool) (b:Ty):Ty->Int->Ty
 | .mk c n i ts,k=>bif c==7 then(bif m i&&k==0 then b else .mk c n i ts) else bif c==3 then .mk c n i (QE m b ts k) else .mk c n i ts
def QE (m:Int->Bool) (b:Ty):List Ty->Int->List Ty
 | [],_=>[]
 | t::l,k=>gX m b t k::QE m b l (k-BH m t)
end
mutual
theorem kj (m:Int->Bool) (b:Ty):∀(t:Ty) (k:Int),k<0\/(BH m t:Int)<=k->gX m b t k=t
 | .mk c n i ts,k,h=>by
  rw[BH] at h;rw[gX];cases h7:c==7 with
  | true=>
   grind
  | false=>
   cases h3:c==3 with
   | true=>
    rw[h7,h3] at h;simp only[AH,AE] at h ⊢;rw[Tj m b ts k h]
   | false=>rfl
theorem Tj (m:Int->Bool) (b:Ty):∀(l:List Ty) (k:Int),k<0\/(CW m l:Int)<=k->QE m b l k=l
 | [],_,_=>rfl
 | t::l,k,h=>by
  rw[CW] at h;rw[QE,kj m b t k (by omega),Tj m b l (k-BH m t) (by omega)]
end
mutual
theorem vC (m:Int->Bool) (b:Ty):∀(t:Ty) (k:Nat),k<BH m t->gX m b t k=J5 m b t k
 | .mk c n i ts,k,h=>by
  rw[BH] at h;rw[gX,J5];cases h7:c==7 with
  | true=>
   grind
  | false=>
   cases hc:c==3 with
   | true=>
    rw[h7,hc] at h;simp only[AH,AE] at h ⊢;rw[kn m b ts k h]
   | false=>rfl
theorem kn (m:Int->Bool) (b:Ty):∀(l:List Ty) (k:Nat),k<CW m l->QE m b l k=Jf m b l k
 | [],_,h=>by rfl
 | t::l,k,h=>by
  rw[CW] at h;rw[QE,Jf]
  by_cases hk:k<BH m t
  .rw[Aq hk,AH,vC m b t k hk,Tj m b l _ (by omega)]
  .have:(k:Int)-(BH m t:Nat)=((k-BH m t:Nat):Int):=by omega
   rw[BF hk,AE,kj m b t k (by omega),this,kn m b l (k-BH m t) (by omega)]
end
section
variable {R:RT}
abbrev vD (V:Nat):AV:=.func (.func 137) [] [.ptr V 0]
theorem vE {V:Nat} {v:Nat} {i:Int} {s:AM} (hs:Bj s) (hV:s.bs[V]?=some [AA v]) (L:A3):A8 (env R) L 137 [AA i,.ptr V 0] s (BB (i==(v:Int))) s:=by
 obtain⟨w,s',⟨rfl,rfl⟩,hc⟩:=AU1 (R:=R) (L:=L) (s:=s) (t0:=AA i) (t1:=.ptr V 0) (Post:=λw s'=>w=BB (i==(v:Int))/\s'=s) (by rfl) (AJQ (Ag hV rfl (Bd (by
  have:=Iu (rr:=L.rr 137) hs (m:=[]) (p:=.sc (.bool (i==(v:Int)))) (Post:=λw s'=>w=BB (i==(v:Int))/\s'=s) ⟨rfl,rfl⟩
  simp_all))))
 omega
def AJR (R:RT) (C V v:Nat) (b:Ty) (y:AV) (x:AV) (t:Ty) (k:Int) (s:AM):Prop:=∀(L:A3),L.ro=0->L.rt=0->s.bs[C]?=some [AA k]->s.bs[V]?=some [AA v] ->
 ∃w s',(∃ts' ds,w=.agg ds/\BM (ren (gX (·==(v:Int)) b t k)) (.agg ds)/\ES (.AB []) (.AB []) s.ts ts'/\s'=⟨s.bs.set C [AA (k-BH (·==(v:Int)) t)],ts'⟩)/\A8 (env R) L 59 [x,.ptr C 0,vD V,y] s w s'
theorem AB9 {C V v:Nat} (hCV:C≠V) {b:Ty} {yc:List AV} {ts:List Ty} {a:AV} (ha:BG a (AP (Bq ts))) (hl:AQ ts<2 ^ 38) {k i k0:Int} {n:List UInt8} (hk7:k≠7) (VR:-(2 ^ 40)-2 ^ 38<=k0-AQ ts) (hk2:k0<2 ^ 40) {s0:AM} (hs0:Bj s0) (hC:C<s0.bs.length) (hV:s0.bs[V]?=some [AA v]) (hyl:yc.length=4)
  (ih:∀t∈ts,∀(k:Int) (s:AM),Bj s->-(2 ^ 40)-2 ^ 38<=k-size t->k<2 ^ 40->AJR R C V v b (.agg yc) (.agg ((Aa (ren t)).map .pv)) t k s)
  {rr:Bool} {Post:AV->AM->Prop}
  (hP:∀ts' ds,ES (.AB []) (.AB []) s0.ts ts'->BM (.mk k n i (Bq (QE (·==(v:Int)) b ts k0))) (.agg ds)->Post (.agg ds) ⟨s0.bs.set C [AA (k0-CW (·==(v:Int)) ts)],ts'⟩) :
  ∀(j q:Nat) (kc:Int) (done:List Ty) (bs:List (List AV)) (tk:List (Nat×Nat)) (acc:AV),q+j=ts.length->done++QE (·==(v:Int)) b (ts.drop q) kc=QE (·==(v:Int)) b ts k0->done.length=q->kc-CW (·==(v:Int)) (ts.drop q)=k0-CW (·==(v:Int)) ts->k0-AQ ts<=kc-AQ (ts.drop q)->kc<2 ^ 40 ->
   Bj ⟨bs,tk⟩->bs.take s0.bs.length=s0.bs.set C [AA kc]->bs[s0.bs.length+1]?=some yc->bs[s0.bs.length+2]?=some Z4->bs[s0.bs.length+3]?=some [AA k,SS n,AA i,acc] ->
   EM 0 tk 25 acc (AP (Bq done))->ES (.AB []) (.AB []) s0.ts tk->D2 acc s0.ts ->
   ko R 0 0 0 (.ptr C 0) (vD V) (.ptr (s0.bs.length+1) 0) (.ptr (s0.bs.length+2) 0) (.ptr (s0.bs.length+3) 0) a (AA ts.length) (AA q) ⟨bs,tk⟩ (QM rr s0.bs.length Post):=by
 have U3:=Bk ts;intro j
 induction j with
 | zero=>
  intro q kc done bs tk acc hi hd hdl hk hks Ml hs hT h1 h2 h3 hb hch hfr;refine AEE (A2 ?_);rw[BF (by omega)];rw[Cj (by omega),QE,Hj] at hd;rw[Cj (by omega),CW] at hk;rw[hd] at hb;refine BE (AOQ (Af h3 rfl (BZ h2 rfl rfl (by decide) (AK _) (by simp[hb.A9.ok]) (.inl (AK _)) (Af (Be h2) rfl ?_))));obtain⟨ds,c1,c2⟩:=BM.Mr (v:=.mk k n i (Bq (QE (·==(v:Int)) b ts k0))) (cs:=[AA k,SS n,AA i,acc]) ⟨acc,rfl,hb.A9⟩ (bs.set (s0.bs.length+2) [AA k,SS n,AA i,acc]) s0.bs.length tk.length;have hkc:kc=k0-CW (·==(v:Int)) ts:=by omega
  rw[hkc] at hT;exact kW hs0 ((DV (by omega)).trans hT) rfl c1 (hP tk ds hch c2)
 | succ j Et=>
  intro q kc done bs tk acc hi hd hdl hk hks Ml hs hT h1 h2 h3 hb hch hfr;refine AEE (A2 ?_);rw[Aq (by omega)];obtain⟨t,ht⟩:∃t,ts[q]?=some t:=⟨_,Ap (by omega)⟩;have GZ:(Bq ts)[q]?=some (ren t):=by simp[*,Bf]
  have Zz:=BA ht;have hrl:((Aa (ren t)).map AV.pv).length=4:=by grind[Ad]
  have hro:=Ct (ren t)
  have K6:Ab (bs.length+1) ((Aa (ren t)).map AV.pv)=true:=by
   obtain⟨k1,n1,i1,t1⟩:=ren t;rfl
  refine BP (AOR (CH ha (row:=Aa (ren t)) (by omega) (by simp[*,BJ]) (Ad _) (by omega) (Di (Bi ?_))));have kQ:=ih t Zz;have hdr:ts.drop q=t::ts.drop (q+1):=drop_cons ht;rw[hdr,QE] at hd;rw[hdr,CW] at hk;rw[hdr,AQ] at hks;have hcs:=LI (·==(v:Int)) t;generalize (Aa (ren t)).map AV.pv=row at hrl hro K6 kQ;refine BZ (Am bs Z4) hrl rfl (by decide) (AK _) hro (.inl (AK _)) ?_;have e:(bs++[Z4]).set bs.length row=bs++[row]:=by simp
  rw[e];have l3:=(BL.1 h3).1;have N4:s0.bs.length<=bs.length:=by omega
  have rZ:=(Gb N4 row).trans hT;have hs':Bj ⟨bs++[row],tk⟩:=Bj.app (s:=⟨bs,tk⟩) hs K6;have gC:(s0.bs.set C [AA kc])[C]?=some [AA kc]:=by rw[Fy hC]
  have gV:(s0.bs.set C [AA kc])[V]?=some [AA v]:=by grind
  have lV:=(BL.1 hV).1;obtain⟨w,s',⟨ts',ds,rfl,r4,r2,rfl⟩,r6⟩:=kQ kc ⟨bs++[row],tk⟩ hs' (by omega) Ml (Cu (env R) 59 0 0 0) rfl rfl (D7 rZ gC) (D7 rZ gV);have g1:=Ah h1 row;have g2:=Ah h2 row;have g3:=Ah h3 row;have g3':((bs++[row]).set C [AA (kc-BH (·==(v:Int)) t)])[s0.bs.length+3]?=some [AA k,SS n,AA i,acc]:=Bm g3 (by omega);refine AW (Ak g3) (Ag g3 rfl (Af (Am bs row) hrl (Af g1 hyl ⟨_,_,r6,Gj r4 ⟨by decide,Mq (r2.keep hb (λ_ h=>by cases h)) rfl ?_ ?_⟩⟩)))
  .grind[Bf]
  .intro b' Hx hb' HM
   have er:Bq done++[ren (gX (·==(v:Int)) b t kc)]=Bq (done++[gX (·==(v:Int)) b t kc]):=by simp[Bf]
   rw[er] at hb';refine AW (Ak g3') (Dr g3' (by simp) hb'.A9.cells (AK _) hb'.A9.ok (.inl (AK _)) ?_);refine⟨AW (Ak g3') (Ec _ _),Ag g3' rfl (IG hb),AOS (CO (by omega) (by omega) ?_)⟩;have hTs:(((bs++[row]).set C [AA (kc-BH (·==(v:Int)) t)]).set (s0.bs.length+3) [AA k,SS n,AA i,b']).take s0.bs.length=s0.bs.set C [AA (kc-BH (·==(v:Int)) t)]:=by simp[*,DV,Gk]
   have hs2:Bj ⟨(bs++[row]).set C [AA (kc-BH (·==(v:Int)) t)],ts'⟩:=Bj.set (s:=⟨bs++[row],tk⟩) hs' rfl _
   have fin:=Et (q+1) (kc-BH (·==(v:Int)) t) (done++[gX (·==(v:Int)) b t kc]) _ Hx b' (by omega) (by simp[*]) (by simp[*]) (by omega) (by omega) (by omega)
    (Bj.set (s:=⟨(bs++[row]).set C [AA (kc-BH (·==(v:Int)) t)],ts'⟩) hs2 (by simp[Ab,Ai,hb'.A9.Ai]) _) hTs (Bm (Bm g1 (by omega)) (by omega)) (Bm (Bm g2 (by omega)) (by omega)) (Be g3')
    hb' ((hch.trans r2).side HM hfr) (hfr.WI HM (A6 hch.1 r2.1))
   assumption
end
theorem A5.agg {t:Ty} {x:AV} (h:A5 t x):∃cs,x=.agg cs:=by
 obtain⟨k,n,i,ts⟩:=t;obtain⟨a,rfl,_⟩:=h;simp
theorem AL.open {E:Env} {f:FuncId} {args args':List AV} {Post:AV->Prop} (hk:E.kind f=.rd) (hc:E.clone f=false) (hl:args.length=args'.length) (h1:AU [] 0 0 args=some args') (h2:AU [] 0 0 args'=some args') (h:AL E f args' Post):AL E f args Post:=by
 obtain⟨v,hp,hv⟩:=h;refine⟨v,hp,λL s=>?_⟩;obtain⟨n,hn⟩:=hv L s;refine⟨n,λm hm=>?_⟩;rw[<-hn m hm];cases m with
 | zero=>rfl
 | succ m=>
  grind[DG,D4]
theorem A5.LN {t:Ty} {x:AV} (h:A5 t x) (bs:List (List AV)) (n m:Nat):close bs n m x=some x:=by
 obtain⟨k,c,i,ts⟩:=t;obtain⟨a,rfl,ha⟩:=h;simp[ha.close]
section
variable {R:RT}
theorem Tk (hn:NN R) {N:Nat} (hN:N<=2 ^ 40) {k i:Int} {n:List UInt8} {ts:List Ty} (ht:Fm N (.mk k n i ts)=true) {x:AV} (hx:BM (ren (.mk k n i ts)) x) :
  AL (env R) 92 [x] λr=>r=bif k==7 then .tuple [AA i,BB true] else .tuple [AA 0,BB false]:=by
 obtain⟨x',h1,h2⟩:=hx.closed [] 0;exact AL.open (args':=[x']) (by rfl) (by rfl) rfl (by simp[*]) (by simp[AU,h2.LN]) (J8 hn hN ht h2)
theorem O6 (hn:NN R) {N:Nat} (hN:N<=2 ^ 40) (v:Nat) (t:Ty) (inv:Bool) (hs:size t<2 ^ 60) (ht:Fm N t=true) {x:AV} (hx:BM (ren t) x):AL (env R) 62 [x,AA v,BB inv] λr=>r=BB (Cz v inv t):=by
 obtain⟨x',h1,h2⟩:=hx.closed [] 0;exact AL.open (args':=[x',AA v,BB inv]) (by rfl) (by rfl) rfl (by simp[*]) (by simp[AU,h2.LN,Tel.close]) (MF hn hN v t inv hs ht x' h2)
theorem gY {rr:Bool} {C:Nat} {c:List AV} {t:Ty} {cs:List AV} {s0:AM} {bs:List (List AV)} {ts:List (Nat×Nat)} {Post:AV->AM->Prop} (h0:Bj s0) (hT:bs.take s0.bs.length=s0.bs.set C c) (hc:Ab s0.bs.length c=true) (ht:BM t (.agg cs)) (hP:∀ds,BM t (.agg ds)->Post (.agg ds) ⟨s0.bs.set C c,ts⟩):QM rr s0.bs.length Post (.agg cs) ⟨bs,ts⟩:=by
 obtain⟨ds,c1,c2⟩:=ht.Mr bs s0.bs.length ts.length
 grind[kW]
mutual
theorem kq (hn:NN R) {N:Nat} (kY:N<=2 ^ 40) {C V v:Nat} (hCV:C≠V) {b:Ty} {y:AV} (hy:A5 (ren b) y):∀(t:Ty),size t<2 ^ 38->Fm N t=true->∀(x:AV),BM (ren t) x->∀(k:Int) (s:AM),Bj s->-(2 ^ 40)-2 ^ 38<=k-size t->k<2 ^ 40->AJR R C V v b y x t k s
 | .mk k n i ts,h,ht,x,hx,kc,s,hs,VR,hk2,L,hro,GZ,hC,hV=>by
  have lC:=(BL.1 hC).1;have U3:=Bk ts;have VA:=Tk hn kY ht hx;rw[Fm] at ht;simp only[size] at h VR;obtain⟨yc,rfl⟩:=hy.agg;have hy':=hy;obtain⟨hy4,hyo,hyi,_⟩:=hy'.cells;refine m59 (by simp[Bb,Ep]) ?_;rw[hro,GZ];have same:s.bs.set C [AA kc]=s.bs:=by grind[List.set_getElem_self]
  have start:∀(k' i':Int) (nm:List UInt8) (a:AV) (rows:List (List PV)) (Post:AV->AM->Prop),BG a rows->AL (env R) 92 [.agg [AA k',SS nm,AA i',a]] (λr=>r=bif k==7 then .tuple [AA i,BB true] else .tuple [AA 0,BB false]) ->
    (∀bs,bs.take s.bs.length=s.bs.set C [AA kc]->Bj ⟨bs,s.ts⟩->bs.length=s.bs.length+3->bs[s.bs.length]?=some [AA k',SS nm,AA i',a]->bs[s.bs.length+1]?=some yc->bs[s.bs.length+2]?=some Z4 ->
     AO (BB (k==7)) (
      EK (env R) (Cu (env R) 59 0 0 0) (vD V) [AA (bif k==7 then i else 0)] ⟨bs,s.ts⟩ λa22 Yk=>
      AO a22 (
      D0 Yk (.ptr C 0) λa24=>
      EG (env R) Yk none a24 λa25=>
      Cb .i64 .sub a25 (AA 1) λa26=>
      D0 Yk (.ptr C 0) λa27=>
      CR (Cu (env R) 59 0 0 0) Yk 1 a27 a26 λTf=>
      D0 Tf (.ptr C 0) λa29=>
      EG (env R) Tf none a29 λa30=>
      Cb .i64 .eql a30 (AA (-1)) λa31=>
      AO a31 (
      EG (env R) Tf (some 4) (.ptr (s.bs.length+1) 0) λa32=>
      CR (Cu (env R) 59 0 0 0) Tf 4 (.ptr (s.bs.length+2) 0) a32 λAB5=>
      EG (env R) AB5 (some 4) (.ptr (s.bs.length+2) 0) λr=>
      QM (L.rr 59) s.bs.length Post r AB5) (
      WL R 0 0 0 (.ptr s.bs.length 0) (.ptr (s.bs.length+2) 0) Tf (QM (L.rr 59) s.bs.length Post))) (
      WL R 0 0 0 (.ptr s.bs.length 0) (.ptr (s.bs.length+2) 0) Yk (QM (L.rr 59) s.bs.length Post))) (
      vF R 0 0 0 (.ptr C 0) (vD V) (.ptr s.bs.length 0) (.ptr (s.bs.length+1) 0) (.ptr (s.bs.length+2) 0) ⟨bs,s.ts⟩ (QM (L.rr 59) s.bs.length Post))) ->
    vG R 0 0 0 (.agg [AA k',SS nm,AA i',a]) (.ptr C 0) (vD V) (.agg yc) s (QM (L.rr 59) s.bs.length Post):=by
   intro k' i' nm a rows Post ha hv hh;refine AOT (CT (cs:=[AA k',SS nm,AA i',a]) rfl (by simp[ha.ok]) (CT (cs:=yc) rfl hyo (Bi ?_)));simp only[EX,Eu,ED,B7,CI,Ce,Cg,Nat.reduceAdd];have g0:(s.bs++[[AA k',SS nm,AA i',a],yc,Z4])[s.bs.length]?=some [AA k',SS nm,AA i',a]:=IV (j:=0) rfl rfl;refine Af g0 rfl (AG hv ?_);rintro _ rfl
   have:=hh (s.bs++[[AA k',SS nm,AA i',a],yc,Z4]) (by grind) (by
    intro d hd;simp only[CM,Az,Ex,Ey] at hd
    show Ab (s.bs++_).length d=true
    rcases hd with hd|rfl|rfl|rfl
    .exact Bt (by simp) d (hs d hd)
    .simp[Ab,Ai,ha.Ai]
    .grind[Bt]
    rfl) (by simp) g0 (IV rfl rfl) (IV rfl rfl)
   cases hb7:k==7 with
   | true=>rw[hb7] at this; assumption
   | false=>simp_all
  have back:∀(k' i':Int) (nm:List UInt8) (a:AV) (u:List Ty) (kd:Int) (bs:List (List AV)) (Post:AV->AM->Prop),BG a (AP u)->bs.take s.bs.length=s.bs.set C [AA kd]->bs[s.bs.length]?=some [AA k',SS nm,AA i',a]->bs[s.bs.length+2]?=some Z4 ->
    (∀ds,BM (.mk k' nm i' u) (.agg ds)->Post (.agg ds) ⟨s.bs.set C [AA kd],s.ts⟩)->WL R 0 0 0 (.ptr s.bs.length 0) (.ptr (s.bs.length+2) 0) ⟨bs,s.ts⟩ (QM (L.rr 59) s.bs.length Post):=by
   intro k' i' nm a u kd bs Post ha hT g0 g2 hP;refine AOU (Af g0 rfl (BZ g2 rfl rfl (by decide) (AK _) (by simp[ha.ok]) (.inl (AK _)) (Af (Be g2) rfl ?_)));exact gY hs ((DV (by omega)).trans hT) rfl (t:=.mk k' nm i' u) ⟨a,rfl,ha⟩ hP
  by_cases h7:k=7
  .subst h7
   simp only[CN,AH,AD,Dx,CZ] at ht;obtain⟨hts,hi0,hiN⟩:=ht;subst hts;have er:ren (.mk 7 n i [])=.mk 2 (36::G4 i.toNat) 0 []:=rfl;rw[er] at hx;obtain⟨a,rfl,ha⟩:=hx;have erz:gX (·==(v:Int)) b (.mk 7 n i []) kc=bif (i==(v:Int))&&kc==0 then b else .mk 7 n i []:=by rfl
   have ecn:BH (·==(v:Int)) (.mk 7 n i [])=bif i==(v:Int) then 1 else 0:=by rfl
   rw[erz,ecn];refine start 2 0 (36::G4 i.toNat) a _ _ ha VA λbs hT hok hl g0 g1 g2=>?_
   have gV:bs[V]?=some [AA v]:=D7 hT (by grind);have gC:bs[C]?=some [AA kc]:=D7 hT (by grind);refine BP ⟨_,_,vE (i:=i) hok gV _,?_⟩;cases hiv:i==(v:Int) with
   | false=>
    grind[BE,ES.refl]
   | true=>
    simp only[CU,AH];refine BP (FG (Ak gC) (Ag gC rfl (Gi (by omega) (by omega) (FG (Ak gC) (Dr gC (by simp) rfl (AK _) rfl (.inl (AK _)) ?_)))));have gC':(bs.set C [AA (kc-1)])[C]?=some [AA (kc-1)]:=by rw[Fy (by omega)]
    have rZ:(bs.set C [AA (kc-1)]).take s.bs.length=s.bs.set C [AA (kc-1)]:=by simp[*,Gk]
    refine FG (Ak gC') (Ag gC' rfl (Bd ?_));have e0:(kc-1==-1)=(kc==0):=by grind
    rw[e0];cases hk0:kc==0 with
    | true=>
     simp only[AH];refine BP (Af (Bm g1 (by omega)) hy4 (BZ (Bm g2 (by omega)) hy4 rfl (by decide) (AK _) hyo (.inl (AK _)) (Af (Be (Bm g2 (by omega))) hy4 ?_)));refine gY hs ((DV (by omega)).trans rZ) rfl hy'.Km λds hds=>⟨s.ts,ds,rfl,hds,ES.refl _ _,rfl⟩
    | false=>
     simp only[AE];refine BE (back 2 0 _ a [] (kc-1) _ _ ha rZ (Bm g0 (by omega)) (Bm g2 (by omega)) λds hds=>⟨s.ts,ds,rfl,by grind,ES.refl _ _,rfl⟩)
  .have b7:(k==7)=false:=by grind
   have er:=Ga k n i ts h7;rw[er] at hx;rw[b7] at ht;simp only[AE,AD] at ht;obtain⟨a,rfl,ha⟩:=hx;refine start k i n a _ _ ha VA λbs hT hok hl g0 g1 g2=>?_
   rw[b7];refine BE (AOX (AW (Ak g0) (Ag g0 rfl (Fl ?_))));cases h3:k==3 with
   | false=>
    have hne:(k != 3)=true:=by grind
    rw[hne];have erz:gX (·==(v:Int)) b (.mk k n i ts) kc=.mk k n i ts:=by grind[gX]
    have ecn:BH (·==(v:Int)) (.mk k n i ts)=0:=by grind[BH]
    rw[erz,ecn];have:=back k i n a (Bq ts) kc bs (λw s'=>∃ts' ds,w=.agg ds/\BM (ren (.mk k n i ts)) (.agg ds)/\ES (.AB []) (.AB []) s.ts ts'/\s'=⟨s.bs.set C [AA (kc-(0:Nat))],ts'⟩) ha hT g0 g2 λds hds=>⟨s.ts,ds,rfl,by grind,ES.refl _ _,by simp⟩
    exact BP (Af g0 rfl (BZ g2 rfl rfl (by decide) (AK _) (by simp[ha.ok]) (.inl (AK _)) (Af (Be g2) rfl (gY hs ((DV (by omega)).trans hT) rfl (t:=.mk k n i (Bq ts)) ⟨a,rfl,ha⟩ λds hds=>⟨s.ts,ds,rfl,by grind,ES.refl _ _,by simp⟩))))
   | true=>
    have hne:(k != 3)=false:=by grind
    rw[hne];have erz:gX (·==(v:Int)) b (.mk k n i ts) kc=.mk k n i (QE (·==(v:Int)) b ts kc):=by grind[gX]
    have ecn:BH (·==(v:Int)) (.mk k n i ts)=CW (·==(v:Int)) ts:=by grind[BH]
    rw[erz,ecn,Ga k n i _ h7];refine BE (AOY (Af g0 rfl (Bi ?_)));simp only[hl];have gl:(bs++[Z4])[s.bs.length+3]?=some Z4:=by grind
    refine BZ gl rfl rfl (by decide) (AK _) (by simp[ha.ok]) (.inl (AK _)) ?_;have gl2:((bs++[Z4]).set (s.bs.length+3) [AA k,SS n,AA i,a])[s.bs.length+3]?=some [AA k,SS n,AA i,a]:=Be gl;refine AW (Ak gl2) (Dr (off:=3) gl2 (AN 4) rfl (AK _) rfl (.inl (AK _)) ?_);have eb:((bs++[Z4]).set (s.bs.length+3) [AA k,SS n,AA i,a]).set (s.bs.length+3) ([AA k,SS n,AA i,a].set 3 (.AB []))=bs++[[AA k,SS n,AA i,.AB []]]:=by grind
    show BD ⟨((bs++[Z4]).set (s.bs.length+3) [AA k,SS n,AA i,a]).set (s.bs.length+3) ([AA k,SS n,AA i,a].set 3 (.AB [])),s.ts⟩ _ _ _
    rw[eb];have q0:=Ah g0 [AA k,SS n,AA i,.AB []];refine AW (Ak q0) (Ag q0 rfl (BI (n:=ts.length) (by rw[ha.BN,AR,Bf,Bn]) ?_))
    exact AB9 (C:=C) (V:=V) hCV (yc:=yc) ha (by omega) h7 (k0:=kc) (by omega) hk2 hs lC hV hy4 (λt hm k s hs h1 h2=>bX hn kY hCV hy' ts (by omega) ht.2.2 t hm k s hs h1 h2) (λts' ds h1 h2=>⟨ts',ds,rfl,h2,h1,rfl⟩) ts.length 0 kc [] _ s.ts (.AB []) (by omega) (by simp) rfl (by simp) (by simp) hk2
     (Bj.app (s:=⟨bs,s.ts⟩) hok (by rfl)) ((Gb (by omega) _).trans hT) (Ah g1 _) (Ah g2 _) (by grind) (.inl rfl) (ES.refl _ _) (D2.AB _ _)
theorem bX (hn:NN R) {N:Nat} (kY:N<=2 ^ 40) {C V v:Nat} (hCV:C≠V) {b:Ty} {y:AV} (hy:A5 (ren b) y):∀(ts:List Ty),AQ ts<2 ^ 38->GD N ts=true->∀t∈ts,∀(k:Int) (s:AM),Bj s->-(2 ^ 40)-2 ^ 38<=k-size t->k<2 ^ 40->AJR R C V v b y (.agg ((Aa (ren t)).map .pv)) t k s
 | [],_,_,_,h=>by cases h
 | u::l,h,ht,t,hm=>by
  simp only[AQ] at h;simp only[GD,AD] at ht;rcases Az.1 hm with h' | h'
  .rw[h']
   exact kq hn kY hCV hy u (by omega) ht.1 _ (A5.Bu _).Km
  .exact bX hn kY hCV hy l (by omega) ht.2 t h'
end
end
def Res (v:AV) (r:Option (List Ty)):Prop:=match r with
 | none=>v=.tuple [.AB [],BB false]
 | some l=>∃a,v=.tuple [a,BB true]/\BG a (AP (Bq l))
abbrev Ac (Aj:Nat):Nat->Bool:=λn=>decide (Aj<n)
theorem Ek {rr:Bool} {e Aj:Nat} {v d':AV} {r:Option (List Ty)} {s0:AM} {bs:List (List AV)} {ts:List (Nat×Nat)} {Post:AV->AM->Prop} (h0:Bj s0) (hT:bs.take s0.bs.length=s0.bs.set e [d',AA Aj]) (hd:Ai s0.bs.length d'=true) (hr:Res v r) (hP:∀w,Res w r->Post w ⟨s0.bs.set e [d',AA Aj],ts⟩):QM rr s0.bs.length Post v ⟨bs,ts⟩:=by
 have hok:((bs.take s0.bs.length).all (Ab s0.bs.length))=true:=by
  have:=Bj.set h0 (c:=[d',AA Aj]) (by grind[Ab,Ai]) ts (j:=e);rw[De];intro b hb;have:=this b (by grind)
  grind
 cases r with
 | none=>
  cases hr;refine JU (ds:=[.AB [],BB false]) hok rfl ?_
  show Post _ ⟨bs.take _,ts⟩
  rw[hT];exact hP _ rfl
 | some l=>
  obtain⟨a,rfl,ha⟩:=hr;obtain⟨a',h1,h2⟩:=ha.close bs s0.bs.length ts.length;refine JU (ds:=[a',BB true]) hok (by simp[*]) ?_
  show Post _ ⟨bs.take _,ts⟩
  rw[hT];exact hP _ ⟨a',rfl,h2⟩
theorem BM.cells {t:Ty} {y:List AV} (h:BM t (.agg y)):y.length=4/\y.all A1=true/\∀n,Ab n y=true:=by
 obtain⟨k,n,i,ts⟩:=t;obtain⟨a,hy,ha⟩:=h;cases hy;exact⟨rfl,by simp[ha.ok],λn=>by simp[Ab,Ai,ha.Ai]⟩
theorem BM.agg {t:Ty} {x:AV} (h:BM t x):∃cs,x=.agg cs:=by
 obtain⟨k,n,i,ts⟩:=t;obtain⟨a,rfl,_⟩:=h;simp
mutual
theorem Mt (N:Nat):∀t:Ty,Fm N t=Ej (λi=>decide (0<=i)&&decide (i<N)) t
 | .mk k n i ts=>by rw[Fm,Ej,bZ N ts]
theorem bZ (N:Nat):∀l:List Ty,GD N l=Du (λi=>decide (0<=i)&&decide (i<N)) l
 | []=>rfl
 | t::l=>by rw[GD,Du,Mt N t,bZ N l]
end
theorem JV {L:A3} {s:AM} {a y:AV} {es l:List Ty} {K:AV->AM->Prop} (ha:EM 0 s.ts 25 a (AP es)) (GZ:L.rt=0) (hl:es.length+l.length<2 ^ 39) (hy:BG y (AP l)) (h:∀a' ts',EM 0 ts' 25 a' (AP (es++l))->ES a a' s.ts ts'->K a' ⟨s.bs,ts'⟩) :
  EL false L s 25 4 56 a y K:=by
 have h1:=AR es;have h2:=AR l;refine Yi (m:=AP l) ha GZ (λr hr=>Gw hr) (λr hr=>Gw hr) (by omega) (ER hy λr hr=>Gw hr) ?_ (by omega) (by omega) λa' ts' h3 h4=>h a' ts' (by grind[E8]) h4
 grind[HD,Ct]
theorem bq {α:Type} {Aj:Nat} {g:α->List Ty->FV}:∀(l:List α) (out B r:List Ty),out.length<=Aj->(CX (Ac Aj) g l out B).1=some r->r.length<=Aj
 | [],out,B,r,ho,h=>by grind[CX]
 | a::l,out,B,r,ho,h=>by
  rw[CX] at h;rcases hr:g a B with ⟨_|s,B1⟩
  .grind
  .rw[hr] at h
   simp only at h;cases hb:Ac Aj (out++s).length with
   | true=>grind
   | false=>
    rw[hb] at h;exact bq l (out++s) B1 r (by grind) h
theorem QF {Aj:Nat} {ex:List Ty->FV} {v:Nat}:∀(f:Nat) (t:Ty) (B r:List Ty),(CB (Ac Aj) ex v f t B).1=some r->r.length<=Aj+1
 | 0,t,B,r,h=>by grind[CB]
 | f+1,t,B,r,h=>by
  rw[CB] at h;cases ho:Cz v false t with
  | false=>grind
  | true=>
   rw[ho] at h;simp only[AH] at h;rcases he:ex B with ⟨_|cs,B1⟩
   .grind
   .rw[he] at h
    have:=bq cs [] B1 r (by simp) h;omega
section
variable {R:RT}
def Ui (R:RT) (e Aj f:Nat) (args:List AV) (o:FV) (B:List Ty) (s:AM):Prop:=∀(L:A3) (d:AV),L.ro=0->L.rt=0->s.bs[e]?=some [d,AA Aj]->EM 0 s.ts 25 d (AP B) ->
 ∃v s',(∃d' ts',Res v o.1/\EM 0 ts' 25 d' (AP o.2)/\ES d d' s.ts ts'/\s'=⟨s.bs.set e [d',AA Aj],ts'⟩)/\A8 (env R) L f (.ptr e 0::args) s v s'
end
mutual
theorem Mu:∀t:Ty,(Al t).length<=size t
 | .mk k n i ts=>by
  have:=Tl ts
  grind[Al,size]
theorem Tl:∀l:List Ty,(CL l).length<=AQ l
 | []=>by simp[CL]
 | t::l=>by
  have:=Mu t;have:=Tl l
  grind[CL,AQ]
end
mutual
theorem bt (N:Nat):∀(t:Ty) (o:List Nat),size (KE N t o).1<=size t
 | .mk k n i ts,o=>by
  have:=WM N ts o
  grind[KE,size,AQ]
theorem WM (N:Nat):∀(l:List Ty) (o:List Nat),AQ (Gh N l o).1<=AQ l
 | [],_=>by grind[Gh]
 | t::l,o=>by
  have h1:=bt N t o;have h2:=WM N l (KE N t o).2
  grind[Gh,AQ]
end
theorem b9 (B:List Ty) (p:Ty):size (IY B p).body<=size p/\(IY B p).bounds.length<=size p:=by grind[bt,R5,IY]
def Uj (b:Br):Bool:=decide (b.bounds.length<=6)&&decide ((Al b.body).length<=3)
def FD (o:List Br×Int):Bool:=o.2==0&&decide (o.1.length<=4)
def xP:Nat->Ty->List Br×Int
 | 0,_=>([],2)
 | f+1,t=>bif !(verdict t==0)||!(BW 0 t) then([],2) else match Ao (Ac 32) (depth t) t [] with
  | (none,_)=>([],4)
  | (some ps,B)=>bif (ps.map (IY B)).all Uj&&(((ps.map (IY B)).flatMap Br.bounds).all λb=>FD (xP f b)) then(ps.map (IY B),0) else([],4)
def xR:Nat->Ty->List Br×Int
 | 0,_=>([],2)
 | f+1,t=>bif !(verdict t==0)||!(BW 0 t) then([],2) else match HQ (Ac 32) (depth t) t with
  | none=>([],4)
  | some l=>bif (l.map IA).all λb=>Uj b&&b.bounds.all λb=>FD (xR f b) then(l.map IA,0) else([],4)
theorem ET {t:Ty} (h:verdict t=0):valid t=true/\size t<=200/\depth t<=12:=by grind[verdict]
mutual
def EE (P:Ty->Prop):Ty->Prop
 | .mk k _ _ ts=>(k=6->∀b body,ts=[b,body]->P b)/\(k=3\/k=4\/k=6->MJ P ts)
def MJ (P:Ty->Prop):List Ty->Prop
 | []=>True
 | t::l=>EE P t/\MJ P l
end
theorem WN {P:Ty->Prop}:∀{l:List Ty} {t:Ty},MJ P l->t∈l->EE P t
 | a::l,t,h,ht=>by
  rw[MJ] at h;rcases Az.1 ht with rfl|ht
  .grind
  .exact WN h.2 ht
mutual
theorem WO {P Q:Ty->Prop} (h:∀b,P b->Q b):∀t:Ty,EE P t->EE Q t
 | .mk k n i ts,ht=>by
  rw[EE] at ht ⊢;exact⟨λh6 b body e=>h b (ht.1 h6 b body e),λhk=>Tm h ts (ht.2 hk)⟩
theorem Tm {P Q:Ty->Prop} (h:∀b,P b->Q b):∀l:List Ty,MJ P l->MJ Q l
 | [],_=>trivial
 | t::l,hl=>by
  rw[MJ] at hl ⊢;exact⟨WO h t hl.1,Tm h l hl.2⟩
end
def Gs (P:Ty->Prop) (ex:List Ty->FV):Prop:=∀B,(∀b∈B,P b)->∀b∈(ex B).2,P b
section
variable {Au:Nat->Bool} {P:Ty->Prop}
theorem QG {α:Type} {g:α->List Ty->FV} (hg:∀a,Gs P (g a)):∀(l:List α) (out:List Ty),Gs P (CX Au g l out)
 | [],out,B,h=>h
 | a::l,out,B,h=>by
  have h1:=hg a B h;rw[CX];rcases hr:g a B with ⟨_|r,B1⟩
  .grind
  .rw[hr] at h1
   simp only;cases Au (out++r).length with
   | true=>grind
   | false=>exact QG hg l _ B1 h1
theorem Tn {ex:List Ty->FV} (hx:Gs P ex) (v:Nat):∀(f:Nat) (t:Ty),Gs P (CB Au ex v f t)
 | 0,_,B,h=>h
 | f+1,t,B,h=>by
  have h1:=hx B h;rw[CB];cases Cz v false t with
  | false=>exact h
  | true=>
   simp only[AH];rcases hr:ex B with ⟨_|r,B1⟩
   .grind
   .rw[hr] at h1
    exact QG (λc=>Tn hx v f _) r [] B1 h1
theorem gZ {ex:List Ty->FV} (hx:Gs P ex) (v:Nat) (t:Ty):Gs P (Bl Au ex v t):=by
 intro B h;rw[Bl];cases Cz v true t with
 | true=>exact h
 | false=>exact Tn hx v _ t B h
theorem QH {ex:Ty->List Ty->FV}:∀(l out:List Ty) (ok:Bool),(∀t∈l,Gs P (ex t))->∀B,(∀b∈B,P b)->∀b∈(G3 ex l out ok B).2,P b
 | [],_,_,_,_,h=>h
 | t::l,out,ok,hx,B,h=>by
  have h1:=hx t (by simp) B h;rw[G3];rcases hr:ex t B with ⟨_|r,B1⟩
  .rw[hr] at h1
   exact QH l out false (λa ha=>hx a (by grind)) B1 h1
  .rw[hr] at h1
   exact QH l _ ok (λa ha=>hx a (by grind)) B1 h1
theorem WQ {ex:Ty->List Ty->FV}:∀(l:List Ty) (out:List (List Ty)),(∀t∈l,Gs P (ex t))->∀B,(∀b∈B,P b)->∀b∈(EI ex l out B).2,P b
 | [],_,_,_,h=>h
 | t::l,out,hx,B,h=>by
  have h1:=hx t (by simp) B h;rw[EI];rcases hr:ex t B with ⟨_|r,B1⟩
  .grind
  .rw[hr] at h1
   exact WQ l _ (λa ha=>hx a (by grind)) B1 h1
theorem WR:∀(f:Nat) (t:Ty) (σ:List Nat),valid t=true->BW σ.length t=true->EE P t->Gs P (Ao Au f (inst σ 0 t))
 | 0,_,_,_,_,_=>λB h=>h
 | f+1,.mk k n i ts,σ,hv,hc,ha=>by
  intro B h;have ih:=λt σ=>WR f t σ
  have Lj:=hv;simp only[valid,AD] at hv;rw[EE] at ha
  have mem:∀(hk:k≠6) (ZX:k≠5),(k=3\/k=4\/k=6)->∀t∈ts.map (inst σ 0),Gs P (Ao Au f t):=by
   intro hk ZX Ml t ht;obtain⟨t0,Uk,rfl⟩:=Cp.1 ht;exact ih t0 σ (Bs hv.2 Uk) (FF hk (DI hc ZX) Uk) (WN (ha.2 Ml) Uk)
  rcases Dk σ 0 Lj with ⟨rfl,rfl,rfl,_,_,⟨v,h2,h3⟩|h3⟩|⟨b5,h3⟩
  .grind[Ao]
  .grind[Ao]
  .rw[h3,Ao]
   cases hk0:k==0||k==2||k==7 with
   | true=>exact h
   | false=>
    simp only[AE];cases h4:k==4 with
    | true=>
     have:k=4:=by grind
     subst this;simp only[AH];rw[Ei (k:=4) (by decide)];have:=QH (ts.map (inst σ 0)) [] true (mem (by decide) (by decide) (by simp)) B h;omega
    | false=>
     simp only[AE];cases Ml:k==3 with
     | true=>
      have:k=3:=by grind
      subst this;simp only[AH];rw[Ei (k:=3) (by decide)];have:=WQ (ts.map (inst σ 0)) [] (mem (by decide) (by decide) (by simp)) B h;generalize EI (Ao Au f) (ts.map (inst σ 0)) [] B=o at this ⊢;rcases o with ⟨_|ls,B1⟩
      .omega
      .simp only
       cases ls.any List.isEmpty with
       | true=>grind
       | false=>
        grind
     | false=>
      simp only[AE];cases YN:k==6 with
      | false=>exact h
      | true=>
       have:k=6:=by grind
       subst this;rcases Jr hv.1 with h' | h' | h' | h' | h' | h' | ⟨_,rfl,rfl,b,body,rfl,hcb⟩
       iterate 6 exact absurd h' (by simp)
       have hPb:=ha.1 rfl b body rfl;have S1:=ha.2 (by simp);rw[MJ,MJ] at S1;simp only[Ar,AD] at hv;obtain⟨_,J9,Lp,_⟩:=hv;have eb:inst σ (0+EW 6 0) b=b:=HF σ b 0 J9 hcb
       have hcy:BW (1+σ.length) body=true:=by
        have:=DI hc (by decide);simp only[C7,AD] at this;have h2:=this.2.1;rw[Kv];exact h2
       have O4:sub B.length 0 (inst σ 1 body)=inst (B.length::σ) 0 body:=H9 B.length σ body 0 Lp (by omega)
       have hkb:Gs P (Ao Au f b):=by
        have:=ih b [] J9 hcb S1.1
        grind[DT]
       have hky:=ih body (B.length::σ) Lp (by grind) S1.2.1;simp only[AH,C9,eb,eE];have e1:inst σ (0+EW 6 (0+1)) body=inst σ 1 body:=rfl;rw[e1,O4];have h1:=hky (B++[b]) (by grind);generalize Ao Au f (inst (B.length::σ) 0 body) (B++[b])=o at h1 ⊢;rcases o with ⟨_|l,B1⟩
       .omega
       .simp only at h1 ⊢
        have h2:=QG (Au:=Au) (g:=Bl Au (Ao Au f b) B.length) (λa=>gZ hkb B.length a) l [] B1 h1
        grind
end
section
variable {R:RT}
theorem ACA (hn:NN R) {e Aj v M S f:Nat} {B0:List Ty} {q:Int->Bool} (hq:∀i,q i=true->0<=i/\i<2 ^ 40) (Hg:Aj<2 ^ 20) (hS:S<2 ^ 37) {ex:List Ty->FV} (gj:∀B,B<+:(ex B).2)
  {t:Ty} (htq:Ej q t=true) (U7:0<BH (·==(v:Int)) t) (htS:size t<=S) {xc:List AV} (hx:BM (ren t) (.agg xc)) {cs:List Ty} (Ba:cs.length<=Aj) {a:AV} (ha:BG a (AP (Bq cs)))
  (ih:∀c∈cs,∀(B:List Ty),B0<+:B->(CB (Ac Aj) ex v f (J5 (·==(v:Int)) c t 0) B).2.length<=M->∀x,BM (ren (J5 (·==(v:Int)) c t 0)) x->∀s,Bj s->Ui R e Aj 114 [x,AA v] (CB (Ac Aj) ex v f (J5 (·==(v:Int)) c t 0) B) B s)
  {s0:AM} (hs0:Bj s0) (he:e<s0.bs.length) {d0:AV} {o:FV} (od:o.2.length<=M) {rr:Bool} {Post:AV->AM->Prop}
  (hP:∀w d' ts',Res w o.1->EM 0 ts' 25 d' (AP o.2)->ES d0 d' s0.ts ts'->Post w ⟨s0.bs.set e [d',AA Aj],ts'⟩) :
  ∀(j p:Nat) (out Bc:List Ty) (bs:List (List AV)) (tk:List (Nat×Nat)) (d acc:AV),p+j=cs.length->CX (Ac Aj) (λc B=>CB (Ac Aj) ex v f (J5 (·==(v:Int)) c t 0) B) (cs.drop p) out Bc=o->B0<+:Bc->out.length<=Aj ->
   Bj ⟨bs,tk⟩->bs.take s0.bs.length=s0.bs.set e [d,AA Aj]->bs[s0.bs.length]?=some xc->bs[s0.bs.length+1]?=some [AA v] ->
   EM 0 tk 25 d (AP Bc)->EM 0 tk 25 acc (AP (Bq out))->ES d0 d s0.ts tk->D2 acc s0.ts->RU d acc ->
   Yl R 0 0 0 (.ptr e 0) (.ptr s0.bs.length 0) (.ptr (s0.bs.length+1) 0) acc a (AA cs.length) (AA p) ⟨bs,tk⟩ (QM rr s0.bs.length Post):=by
 obtain⟨hx4,hxo,hxi⟩:=hx.cells;intro j
 induction j with
 | zero=>
  intro p out Bc bs tk d acc hi FH hlo hout hs hT h0 h1 hd hacc hch hfr Jd;refine vH (A2 ?_);rw[BF (by omega)];rw[Cj (by omega),CX] at FH;subst FH;exact BE (AJT (Ek hs0 hT (hd.A9.Ai _) (r:=some out) ⟨acc,rfl,hacc.A9⟩ λw hw=>hP w d tk hw hd hch))
 | succ j Et=>
  intro p out Bc bs tk d acc hi FH hlo hout hs hT h0 h1 hd hacc hch hfr Jd;refine vH (A2 ?_);rw[Aq (by omega)];obtain⟨c,hc⟩:∃c,cs[p]?=some c:=⟨_,Ap (by omega)⟩;have hrc:(Bq cs)[p]?=some (ren c):=by grind[Bf]
  have KD:=BA hc;have hrl:((Aa (ren c)).map AV.pv).length=4:=by grind[Ad]
  have hro:=Ct (ren c)
  have K6:Ab (bs.length+1) ((Aa (ren c)).map AV.pv)=true:=by
   obtain⟨k1,n1,i1,t1⟩:=ren c;rfl
  have Iv:=A5.Bu (ren c);refine BP (AJU (CH ha (row:=Aa (ren c)) (by omega) (by grind[BJ]) (Ad _) (by omega) (Di (Bi ?_))));have hdr:cs.drop p=c::cs.drop (p+1):=drop_cons hc;rw[hdr,CX] at FH;generalize (Aa (ren c)).map AV.pv=row at hrl hro K6 Iv;refine BZ (Am bs Z4) hrl rfl (by decide) (AK _) hro (.inl (AK _)) ?_;have e1:(bs++[Z4]).set bs.length row=bs++[row]:=by simp
  rw[e1];have l1:=(BL.1 h1).1;have N4:s0.bs.length<=bs.length:=by omega
  refine Bi ?_;have ebl:(bs++[row]).length=bs.length+1:=by simp
  have gC:(bs++[row]++[[AA 0]])[bs.length+1]?=some [AA 0]:=by simp
  simp only[ebl];refine Dr gC (by decide) rfl (AK _) rfl (.inl (AK _)) ?_;have e2:(bs++[row]++[[AA 0]]).set (bs.length+1) ([AA 0].set 0 (AA 0))=bs++[row]++[[AA 0]]:=by simp
  show EG _ ⟨(bs++[row]++[[AA 0]]).set (bs.length+1) ([AA 0].set 0 (AA 0)),tk⟩ _ _ _
  rw[e2];have hs1:Bj ⟨bs++[row],tk⟩:=Bj.app (s:=⟨bs,tk⟩) hs K6;have hs2:Bj ⟨bs++[row]++[[AA 0]],tk⟩:=Bj.app (s:=⟨bs++[row],tk⟩) hs1 rfl;have g0:=Ah (Ah h0 row) [AA 0];have g1:=Ah (Ah h1 row) [AA 0];have gr:=Ah (Am bs row) [AA 0];have R6:=(Gb (n:=s0.bs.length) (by omega) [AA 0]).trans ((Gb N4 row).trans hT);generalize hB2:bs++[row]++[[AA 0]]=b2 at gC hs2 g0 g1 gr R6;have lb2:b2.length=bs.length+2:=by grind
  refine Af g0 hx4 (Af gr hrl ?_);obtain⟨w1,s1',⟨Sj,ds,rfl,r1,r2,rfl⟩,r3⟩:=kq hn (N:=2 ^ 40) (AN _) (C:=bs.length+1) (V:=s0.bs.length+1) (v:=v) (by omega) (b:=c) Iv t (by omega) (by grind[Mt,F7]) (.agg xc) hx 0 ⟨b2,tk⟩ hs2 (by omega) (by omega) (Cu (env R) 114 0 0 0) rfl rfl gC g1;have ez:gX (·==(v:Int)) c t 0=J5 (·==(v:Int)) c t 0:=vC (·==(v:Int)) c t 0 U7;rw[ez] at r1;have hs3:Bj ⟨b2.set (bs.length+1) [AA (0-BH (·==(v:Int)) t)],Sj⟩:=Bj.set (s:=⟨b2,tk⟩) hs2 rfl _;have hT3:(b2.set (bs.length+1) [AA (0-BH (·==(v:Int)) t)]).take s0.bs.length=s0.bs.set e [d,AA Aj]:=(DV (by omega)).trans R6;have k0:(b2.set (bs.length+1) [AA (0-BH (·==(v:Int)) t)])[s0.bs.length]?=some xc:=Bm g0 (by omega);have k1:(b2.set (bs.length+1) [AA (0-BH (·==(v:Int)) t)])[s0.bs.length+1]?=some [AA v]:=Bm g1 (by omega);have gE:(s0.bs.set e [d,AA Aj])[e]?=some [d,AA Aj]:=by rw[Fy he]
  refine⟨_,_,r3,Ag k1 rfl ?_⟩;have lb3:(b2.set (bs.length+1) [AA (0-BH (·==(v:Int)) t)]).length=bs.length+2:=by rw[List.length_set,lb2]
  generalize b2.set (bs.length+1) [AA (0-BH (·==(v:Int)) t)]=b3 at hs3 hT3 k0 k1 lb3;have hdk:=r2.keep hd (λ_ h=>by cases h);have AEF:=r2.keep hacc (λ_ h=>by cases h);have vI:=hch.side r2 (D2.AB _ _);have gu:=ih c KD Bc hlo;have hlen:=Hf (Au:=Ac Aj) gj v f (J5 (·==(v:Int)) c t 0) Bc;have hrb:=QF (Aj:=Aj) (ex:=ex) (v:=v) f (J5 (·==(v:Int)) c t 0) Bc;have hfp:∀(l:List Ty) out B,B<+:(CX (Ac Aj) (λc B=>CB (Ac Aj) ex v f (J5 (·==(v:Int)) c t 0) B) l out B).2:=λl out B=>ID (λc B=>Hf gj v f _ B) l out B
  rcases hg:CB (Ac Aj) ex v f (J5 (·==(v:Int)) c t 0) Bc with ⟨r,B1⟩
  rw[hg] at gu hlen hrb FH;simp only at gu hlen hrb FH
  have VC:B1.length<=M:=by
   cases r with
   | none=>grind
   | some r=>
    simp only at FH;cases hb:Ac Aj (out++r).length with
    | true=>grind
    | false=>
     grind
  obtain⟨w2,s2',⟨d2,O5,q1,q2,q3,rfl⟩,q4⟩:=gu VC (.agg ds) r1 ⟨b3,Sj⟩ hs3 (Cu (env R) 114 0 0 0) d rfl rfl (D7 hT3 gE) hdk;have hT4:(b3.set e [d2,AA Aj]).take s0.bs.length=s0.bs.set e [d2,AA Aj]:=by simp[*,Gk]
  have kE:(b3.set e [d2,AA Aj])[e]?=some [d2,AA Aj]:=by rw[Fy (by omega)]
  have Ki:RU d2 acc:=Jd.WI q3 AEF;have MK:=q3.keep AEF Jd;have Nr:=vI.trans q3;have heq:Tel.CQ (AA v) (AA v)=true:=by simp[Tel.CQ,PX,F5]
  cases r with
  | none=>
   cases q1;simp only at FH;subst FH;refine⟨_,_,q4,CC rfl (CC rfl ⟨Ag g1 rfl heq,by decide,JV (l:=[]) MK rfl (by rw[Bf,Bn]; grind) (.inl (.AB _)) λacc' Q6 _ Un=>?_⟩)⟩;exact nt (Cq (Cq (Cq (Cq (Cq (Cq (Cq (pk (BP (Ek hs0 hT4 (q2.A9.Ai _) (r:=none) rfl λw hw=>hP w d2 Q6 hw (Un.keep q2 Ki.symm) (Nr.side Un hfr)))))))))))
  | some r=>
   obtain⟨a2,rfl,S1⟩:=q1;have AU5:=hrb r rfl;refine⟨_,_,q4,CC rfl (CC rfl ⟨Ag g1 rfl heq,by decide,JV MK rfl (by rw[Bf,Bf,Bn,Bn]; omega) S1 λacc' Q6 NP Un=>?_⟩)⟩;have er:Bq out++Bq r=Bq (out++r):=by simp[Bf]
   rw[er] at NP;have hd3:=Un.keep q2 Ki.symm;have Ym:=Nr.side Un hfr;refine nt (Ax (b:=false) (Ax (b:=false) (BI (n:=(out++r).length) (by rw[NP.A9.BN,AR,Bf,Bn]) (Ax (b:=false) (Ax (b:=false) (FG (Ak kE) (Ax (b:=false) (AW (Ak kE) (Ax (b:=false) (Ag (off:=1) kE rfl (Ax (b:=false) (JS (pk ?_)))))))))))))
   have eb:decide (((out++r).length:Int)>(Aj:Nat))=Ac Aj (out++r).length:=by
    simp only[Ac];rw[OB];simp only[CZ];omega
   rw[eb];simp only at FH;cases hb:Ac Aj (out++r).length with
   | true=>
    rw[hb] at FH;simp only[AH] at FH;subst FH;exact BP (Ek hs0 hT4 (q2.A9.Ai _) (r:=none) rfl λw hw=>hP w d2 Q6 hw hd3 Ym)
   | false=>
    rw[hb] at FH;simp only[AE] at FH;refine BE (AJV (CO (by omega) (by omega) ?_));have hs4:Bj ⟨b3.set e [d2,AA Aj],Q6⟩:=Bj.set (s:=⟨b3,Sj⟩) hs3 (by simp[Ab,Ai,q2.A9.Ai]) _;have fin:=Et (p+1) (out++r) B1 (b3.set e [d2,AA Aj]) Q6 d2 acc' (by omega) FH (hlo.trans hlen) (by grind) hs4 hT4 (Bm k0 (by omega)) (Bm k1 (by omega)) hd3 NP Ym (hfr.WI Un (A6 vI.1 q3.1)) (Ki.symm.WI Un q2).symm
    grind
end
structure ExB (Aj v M W:Nat) (B0:List Ty) (q:Int->Bool) (ex:List Ty->FV):Prop where
 pre:∀B,B<+:(ex B).2
 res:∀B r,B0<+:B->(ex B).1=some r->(ex B).2.length<=M->r.length<=Aj/\∀c∈r,Ej q c=true/\(∀inv,Cz v inv c=false)/\BH (·==(v:Int)) c=0/\size c<=W/\pat c=true
section
variable {R:RT}
def og (R:RT) (e Aj v M W S:Nat) (B0:List Ty) (q:Int->Bool) (ex:List Ty->FV) (f:Nat):Prop:=∀(t:Ty),Ej q t=true->pat t=true->Cz v true t=false->BH (·==(v:Int)) t<=f->size t+BH (·==(v:Int)) t*W<=S->∀(B:List Ty),B0<+:B->(CB (Ac Aj) ex v f t B).2.length<=M ->
 ∀x,BM (ren t) x->∀s,Bj s->Ui R e Aj 114 [x,AA v] (CB (Ac Aj) ex v f t B) B s
theorem kr (hn:NN R) {e Aj v M W S:Nat} {B0:List Ty} {q:Int->Bool} (hq:∀i,q i=true->0<=i/\i<2 ^ 40) (Hg:Aj<2 ^ 20) (hS:S<2 ^ 37) {ex:List Ty->FV} {b:Ty} (hx:ExB Aj v M W B0 q ex) (hv:B0[v]?=some b)
  (hex:∀(B:List Ty) (s:AM),Bj s->B0<+:B->(ex B).2.length<=M->Ui R e Aj 44 [.agg ((Aa b).map .pv)] (ex B) B s)
  {f:Nat} (hih:f=0\/∃f',f=f'+1/\og R e Aj v M W S B0 q ex f'):og R e Aj v M W S B0 q ex f:=by
 intro t ht hp hoc hf htS B hB hM x hxr s hs L d hro GZ hE hd;obtain⟨xc,rfl⟩:=hxr.agg;obtain⟨hx4,hxo,hxi⟩:=hxr.cells;have le:=(BL.1 hE).1;have same:s.bs.set e [d,AA Aj]=s.bs:=by grind[List.set_getElem_self]
 refine AU7 (by rfl) ?_;rw[hro,GZ];have g0:(s.bs++[xc,[AA v]])[s.bs.length]?=some xc:=IV (j:=0) rfl rfl;have g1:(s.bs++[xc,[AA v]])[s.bs.length+1]?=some [AA v]:=IV rfl rfl;have hT:(s.bs++[xc,[AA v]]).take s.bs.length=s.bs.set e [d,AA Aj]:=by grind
 have hok:Bj ⟨s.bs++[xc,[AA v]],s.ts⟩:=by
  intro c hc;simp only[CM,Az,Ex,Ey] at hc
  show Ab (s.bs++_).length c=true
  rcases hc with hc|rfl|rfl
  .exact Bt (by simp) c (hs c hc)
  .grind
  rfl
 refine AJW (CT (cs:=xc) rfl hxo (CT (cs:=[AA v]) rfl rfl ?_));simp only[EX,Eu,ED,B7,CI,Ce,Cg];generalize s.bs++[xc,[AA v]]=bs at g0 g1 hT hok;have Zz:Fm (2 ^ 40) t=true:=by grind[Mt,F7]
 have gE:bs[e]?=some [d,AA Aj]:=D7 hT (by rw[Fy le]);refine Af g0 hx4 (Ag g1 rfl (AG (O6 hn (AN _) v t false (by omega) Zz hxr) ?_));rintro _ rfl;have AOZ:=YW t hp hoc;rw[AOZ]
 by_cases hc0:0<BH (·==(v:Int)) t
 .obtain⟨f,rfl,ihf⟩:∃f',f=f'+1/\og R e Aj v M W S B0 q ex f':=by grind
  rw[CB,AOZ,Aq hc0] at hM ⊢;simp only[AH] at hM ⊢;have hBv:B[v]?=some b:=Mo hB hv;refine nt (BE (AJX (FG (Ak gE) (AW (Ak gE) (Ag (off:=0) gE rfl (Ag g1 rfl (CH hd.A9 (row:=Aa b) (by omega) (by grind[BJ]) (Ad _) (by omega) (Di ?_))))))));have AJY:=hex B ⟨bs,s.ts⟩ hok hB;have hxB:=hx.res B;have hpre:=hx.pre B;have hfp:∀(l:List Ty) B,B<+:(CX (Ac Aj) (λc B=>CB (Ac Aj) ex v f (J5 (·==(v:Int)) c t 0) B) l [] B).2:=λl B=>ID (λc B=>Hf hx.pre v f _ B) l [] B
  rcases he:ex B with ⟨r,B1⟩
  rw[he] at hM AJY hxB hpre;simp only at hM AJY hxB hpre;have hB1:B1.length<=M:=by grind
  obtain⟨w,s',⟨d1,Sj,q1,q2,q3,rfl⟩,q4⟩:=AJY hB1 (Cu (env R) 114 0 0 0) d rfl rfl gE hd;have eG:(bs.set e [d1,AA Aj]).take s.bs.length=s.bs.set e [d1,AA Aj]:=by grind[Gk]
  cases r with
  | none=>
   cases q1;exact⟨_,_,q4,CC rfl (CC rfl (nt (BP (Ek hs eG (q2.A9.Ai _) (r:=none) rfl λw hw=>⟨d1,Sj,hw,q2,q3,rfl⟩))))⟩
  | some cs=>
   obtain⟨a,rfl,ha⟩:=q1;obtain⟨Ba,hcs⟩:=hxB cs hB rfl hB1;refine⟨_,_,q4,CC rfl (CC rfl (nt (BE (AJZ (BI (n:=cs.length) (by rw[ha.BN,AR,Bf,Bn]) ?_)))))⟩;simp only at hM ⊢
   refine ACA hn (M:=M) (S:=S) (f:=f) (B0:=B0) hq Hg hS hx.pre ht hc0 (by omega) hxr Ba ha ?_ hs le hM (λw d' ts' h1 h2 h3=>⟨d',ts',h1,h2,h3,rfl⟩) cs.length 0 [] B1 _ Sj d1 (.AB []) (by omega) rfl (hB.trans hpre) (AK _)
    (Bj.set (s:=⟨bs,s.ts⟩) hok (by simp[Ab,Ai,q2.A9.Ai]) _) eG (Bm g0 (by omega)) (Bm g1 (by omega)) q2 (.inl rfl) q3 (D2.AB _ _) (RU.AB _ _)
   intro c hc B' hB' eF x' hx' s' hs';obtain⟨c1,c2,c3,c4,c5⟩:=hcs c hc;obtain⟨r1,r2⟩:=R1 (b:=c) t 0 hc0;have:BH (·==(v:Int)) t*W=BH (·==(v:Int)) (J5 (·==(v:Int)) c t 0)*W+W:=by grind
   exact ihf _ (TL c1 t 0 ht) (R3 c5 t 0 hp) (YX (c2 true) t 0 hoc) (by omega) (by omega) B' hB' eF x' hx' s' hs'
 .have ef:CB (Ac Aj) ex v f t B=(some [t],B):=by grind[CB]
  rw[ef,BF hc0];refine nt (BP (Af g0 hx4 (Gj hxr ?_)));exact Ek hs hT (hd.A9.Ai _) (r:=some [t]) ⟨.AB [Aa (ren t)],rfl,.inl (by grind[Bq,AP,Av.AB])⟩ λw hw=>⟨d,s.ts,hw,hd,ES.refl _ _,rfl⟩
theorem ku (hn:NN R) {e Aj v M W S:Nat} {B0:List Ty} {q:Int->Bool} (hq:∀i,q i=true->0<=i/\i<2 ^ 40) (Hg:Aj<2 ^ 20) (hS:S<2 ^ 37) {ex:List Ty->FV} {b:Ty} (hx:ExB Aj v M W B0 q ex) (hv:B0[v]?=some b)
  (hex:∀(B:List Ty) (s:AM),Bj s->B0<+:B->(ex B).2.length<=M->Ui R e Aj 44 [.agg ((Aa b).map .pv)] (ex B) B s):∀f,og R e Aj v M W S B0 q ex f
 | 0=>kr hn hq Hg hS hx hv hex (.inl rfl)
 | f+1=>kr hn hq Hg hS hx hv hex (.inr ⟨f,rfl,ku hn hq Hg hS hx hv hex f⟩)
end
section
variable {R:RT}
theorem ACD (hn:NN R) {e Aj v M W S:Nat} {B0:List Ty} {q:Int->Bool} (hq:∀i,q i=true->0<=i/\i<2 ^ 40) (Hg:Aj<2 ^ 20) (hS:S<2 ^ 37) {ex:List Ty->FV} (gj:∀B,B<+:(ex B).2) {cs:List Ty} (Ba:cs.length<=Aj) {a:AV} (ha:BG a (AP (Bq cs)))
  (hcs:∀t∈cs,Ej q t=true/\pat t=true/\size t+BH (·==(v:Int)) t*W<=S) (ih:∀f,og R e Aj v M W S B0 q ex f)
  {s0:AM} (hs0:Bj s0) (he:e<s0.bs.length) {d0:AV} {o:FV} (od:o.2.length<=M) {rr:Bool} {Post:AV->AM->Prop}
  (hP:∀w d' ts',Res w o.1->EM 0 ts' 25 d' (AP o.2)->ES d0 d' s0.ts ts'->Post w ⟨s0.bs.set e [d',AA Aj],ts'⟩) :
  ∀(j p:Nat) (out Bc:List Ty) (bs:List (List AV)) (tk:List (Nat×Nat)) (d acc:AV),p+j=cs.length->CX (Ac Aj) (Bl (Ac Aj) ex v) (cs.drop p) out Bc=o->B0<+:Bc->out.length<=Aj ->
   Bj ⟨bs,tk⟩->bs.take s0.bs.length=s0.bs.set e [d,AA Aj]->s0.bs.length<=bs.length ->
   EM 0 tk 25 d (AP Bc)->EM 0 tk 25 acc (AP (Bq out))->ES d0 d s0.ts tk->D2 acc s0.ts->RU d acc ->
   kz R 0 0 0 (.ptr e 0) (AA v) acc a (AA cs.length) (AA p) ⟨bs,tk⟩ (QM rr s0.bs.length Post):=by
 intro j
 induction j with
 | zero=>
  intro p out Bc bs tk d acc hi FH hlo hout hs hT N4 hd hacc hch hfr Jd;refine AEH (A2 ?_);rw[BF (by omega)];rw[Cj (by omega),CX] at FH;subst FH;exact BE (AOb (Ek hs0 hT (hd.A9.Ai _) (r:=some out) ⟨acc,rfl,hacc.A9⟩ λw hw=>hP w d tk hw hd hch))
 | succ j Et=>
  intro p out Bc bs tk d acc hi FH hlo hout hs hT N4 hd hacc hch hfr Jd;refine AEH (A2 ?_);rw[Aq (by omega)];obtain⟨c,hc⟩:∃c,cs[p]?=some c:=⟨_,Ap (by omega)⟩;have hrc:(Bq cs)[p]?=some (ren c):=by grind[Bf]
  obtain⟨c1,c2,c3⟩:=hcs c (BA hc);have hrl:((Aa (ren c)).map AV.pv).length=4:=by grind[Ad]
  have hro:=Ct (ren c)
  have K6:Ab (bs.length+1) ((Aa (ren c)).map AV.pv)=true:=by
   obtain⟨k1,n1,i1,t1⟩:=ren c;rfl
  have Iv:=(A5.Bu (ren c)).Km;refine BP (AOc (CH ha (row:=Aa (ren c)) (by omega) (by grind[BJ]) (Ad _) (by omega) (Di (Bi ?_))));have hdr:cs.drop p=c::cs.drop (p+1):=drop_cons hc;rw[hdr,CX] at FH;have Zz:Fm (2 ^ 40) c=true:=by grind[Mt,F7]
  generalize (Aa (ren c)).map AV.pv=row at hrl hro K6 Iv;refine BZ (Am bs Z4) hrl rfl (by decide) (AK _) hro (.inl (AK _)) ?_;have e1:(bs++[Z4]).set bs.length row=bs++[row]:=by simp
  rw[e1];have hs1:Bj ⟨bs++[row],tk⟩:=Bj.app (s:=⟨bs,tk⟩) hs K6;have gr:=Am bs row;have eG:=(Gb N4 row).trans hT;have lb:(bs++[row]).length=bs.length+1:=by simp
  generalize bs++[row]=b1 at hs1 gr eG lb;have gE:(s0.bs.set e [d,AA Aj])[e]?=some [d,AA Aj]:=by rw[Fy he]
  have hfp:∀(l:List Ty) out B,B<+:(CX (Ac Aj) (Bl (Ac Aj) ex v) l out B).2:=λl out B=>ID (λc B=>Ka gj v c B) l out B
  have fin:∀(r:Option (List Ty)) (B1:List Ty) (b2:List (List AV)) (O5:List (Nat×Nat)) (d2 a1 a2:AV),(match r with
     | none=>((none,B1):FV)
     | some r=>bif Ac Aj (out++r).length then(none,B1) else CX (Ac Aj) (Bl (Ac Aj) ex v) (cs.drop (p+1)) (out++r) B1)=o->B0<+:B1->(∀l,r=some l->l.length<=Aj+1)->Res (.tuple [a1,a2]) r ->
    Bj ⟨b2,O5⟩->b2.take s0.bs.length=s0.bs.set e [d2,AA Aj]->s0.bs.length<=b2.length->EM 0 O5 25 d2 (AP B1)->EM 0 O5 25 acc (AP (Bq out))->ES d0 d2 s0.ts O5->RU d2 acc ->
    lB R 0 0 0 (.ptr e 0) (AA v) acc a1 a2 a (AA cs.length) (AA p) ⟨b2,O5⟩ (QM rr s0.bs.length Post):=by
   intro r B1 b2 O5 d2 a1 a2 FH hB1 hrb hres hs2 R6 hn2 Sg MK Nr Ki;have kE:b2[e]?=some [d2,AA Aj]:=D7 R6 (by rw[Fy he]);cases r with
   | none=>
    cases hres;simp only at FH;subst FH;refine AEI ⟨by decide,JV (l:=[]) MK rfl (by grind[Bf]) (.inl (.AB _)) λacc' Q6 _ Un=>?_⟩;exact nt (Cq (Cq (Cq (Cq (Cq (Cq (Cq (pk (BP (Ek hs0 R6 (Sg.A9.Ai _) (r:=none) rfl λw hw=>hP w d2 Q6 hw (Un.keep Sg Ki.symm) (Nr.side Un hfr)))))))))))
   | some r=>
    obtain⟨a3,hae,ha3⟩:=hres;cases hae;have AU5:=hrb r rfl;refine AEI ⟨by decide,JV MK rfl (by grind[Bf]) ha3 λacc' Q6 NP Un=>?_⟩;have er:Bq out++Bq r=Bq (out++r):=by simp[Bf]
    rw[er] at NP;have hd3:=Un.keep Sg Ki.symm;have Ym:=Nr.side Un hfr;refine nt (Ax (b:=false) (Ax (b:=false) (BI (n:=(out++r).length) (by rw[NP.A9.BN,AR,Bf,Bn]) (Ax (b:=false) (Ax (b:=false) (FG (Ak kE) (Ax (b:=false) (AW (Ak kE) (Ax (b:=false) (Ag (off:=1) kE rfl (Ax (b:=false) (JS (pk ?_)))))))))))));have eb:decide (((out++r).length:Int)>(Aj:Nat))=Ac Aj (out++r).length:=by grind
    rw[eb];simp only at FH;cases hb:Ac Aj (out++r).length with
    | true=>
     rw[hb] at FH;simp only[AH] at FH;subst FH;exact BP (Ek hs0 R6 (Sg.A9.Ai _) (r:=none) rfl λw hw=>hP w d2 Q6 hw hd3 Ym)
    | false=>
     rw[hb] at FH;simp only[AE] at FH;refine BE (AOd (CO (by omega) (by omega) ?_));have fin:=Et (p+1) (out++r) B1 b2 Q6 d2 acc' (by omega) FH hB1 (by grind) hs2 R6 hn2 hd3 NP Ym (hfr.WI Un Nr.1) (Ki.symm.WI Un Sg).symm
     grind
  have gI:=O6 (R:=R) hn (AN _) v c true (by omega) Zz Iv;refine Af gr hrl (Gj Iv (Af gr hrl (AG gI ?_)));rintro _ rfl;refine nt ?_;cases ho:Cz v true c with
  | true=>
   have eg:Bl (Ac Aj) ex v c Bc=(some [c],Bc):=by grind[Bl]
   rw[eg] at FH;refine BE (fin (some [c]) Bc b1 tk d (.AB [Aa (ren c)]) (BB true) FH hlo (λl hl=>by grind) ⟨_,rfl,.inl (by grind[Bq,AP,Av.AB])⟩ hs1 eG (by omega) hd hacc hch Jd)
  | false=>
   have eg:Bl (Ac Aj) ex v c Bc=CB (Ac Aj) ex v (BH (·==(v:Int)) c) c Bc:=by grind[Bl]
   rw[eg] at FH;have hrb:=QF (Aj:=Aj) (ex:=ex) (v:=v) (BH (·==(v:Int)) c) c Bc;have hlen:=Hf (Au:=Ac Aj) gj v (BH (·==(v:Int)) c) c Bc;have gu:=ih (BH (·==(v:Int)) c) c c1 c2 ho (AN _) c3 Bc hlo;rcases hg:CB (Ac Aj) ex v (BH (·==(v:Int)) c) c Bc with ⟨r,B1⟩
   rw[hg] at gu hlen hrb FH;simp only at gu hlen hrb;have VC:B1.length<=M:=by grind
   obtain⟨w2,s2',⟨d2,O5,q1,q2,q3,rfl⟩,q4⟩:=gu VC (.agg row) Iv ⟨b1,tk⟩ hs1 (Cu (env R) 81 0 0 0) d rfl rfl (D7 eG gE) hd
   obtain⟨x1,x2,rfl⟩:∃x1 x2,w2=.tuple [x1,x2]:=by
    cases r with
    | none=>exact⟨_,_,q1⟩
    | some r=>exact⟨_,_,q1.choose_spec.1⟩
   refine BP (Af gr hrl ⟨_,_,q4,CC rfl (CC rfl ?_)⟩);exact fin r B1 (b1.set e [d2,AA Aj]) O5 d2 x1 x2 (by cases r <;> omega) (hlo.trans hlen) (λl hl=>hrb l hl) q1 (Bj.set (s:=⟨b1,tk⟩) hs1 (by simp[Ab,Ai,q2.A9.Ai]) _) (by simp[*,Gk]) (by grind) q2 (q3.keep hacc Jd) (hch.trans q3) (Jd.WI q3 hacc)
theorem ACE (hn:NN R) {e Aj v M W S:Nat} {B0:List Ty} {q:Int->Bool} (hq:∀i,q i=true->0<=i/\i<2 ^ 40) (Hg:Aj<2 ^ 20) (hS:S<2 ^ 37) {ex:List Ty->FV} (gj:∀B,B<+:(ex B).2) {cs:List Ty} (Ba:cs.length<=Aj) {a:AV} (ha:BG a (AP (Bq cs)))
  (hcs:∀t∈cs,Ej q t=true/\pat t=true/\size t+BH (·==(v:Int)) t*W<=S) (ih:∀f,og R e Aj v M W S B0 q ex f)
  {B:List Ty} (hB:B0<+:B) (hM:(CX (Ac Aj) (Bl (Ac Aj) ex v) cs [] B).2.length<=M) {s:AM} (hs:Bj s):Ui R e Aj 81 [a,AA v] (CX (Ac Aj) (Bl (Ac Aj) ex v) cs [] B) B s:=by
 intro L d hro GZ hE hd;have le:=(BL.1 hE).1;have same:s.bs.set e [d,AA Aj]=s.bs:=by grind[List.set_getElem_self]
 refine m81 (by rfl) ?_;rw[hro,GZ];refine AOe (BI (n:=cs.length) (by rw[ha.BN,AR,Bf,Bn]) ?_);exact ACD hn hq Hg hS gj Ba ha hcs ih hs le hM (λw d' ts' h1 h2 h3=>⟨d',ts',h1,h2,h3,rfl⟩) cs.length 0 [] B s.bs s.ts d (.AB []) (by omega) rfl hB (AK _) hs (by grind) (AN _) hd (.inl rfl) (ES.refl _ _) (D2.AB _ _) (RU.AB _ _)
end
def Dd (ls:List (List Ty)):List (List PV):=ls.map λl=>[.list (AP (Bq l))]
theorem Hh (ls:List (List Ty)):(Dd ls).length=ls.length:=by simp[Dd]
theorem gv {ls:List (List Ty)}:∀r∈Dd ls,r.length=1:=by grind[Dd]
section
variable {R:RT}
theorem gw (rows:List (List PV)):AL (env R) 145 [.pv (.list rows)] λr=>r=BB (rows.length==0):=by
 refine AU9 (by rfl) (AJa (BI (n:=rows.length) rfl (Bd ⟨_,rfl,?_⟩)));have e:(((rows.length:Nat):Int)==0)=(rows.length==0):=by grind
 rw[e]
theorem cB {ls:List (List Ty)} {y:AV} (hy:BG y (Dd ls)) (hl:ls.length<2 ^ 60) {n0 ro rt:Nat} {s:AM} {QR:QT} :
  ∀(j p:Nat),p+j=ls.length->(∀i:Int,decide (0<=i)=(ls.drop p).any List.isEmpty->QR (AA i) s)->Yn R n0 ro rt y (.func (.func 145) [] []) (AA ls.length) (AA p) s QR:=by
 intro j
 induction j with
 | zero=>
  intro p hi hP;refine vJ (A2 ?_);rw[BF (by omega)];rw[Cj (by omega)] at hP;exact BE (AJb (hP (-1) (by simp)))
 | succ j Et=>
  intro p hi hP;refine vJ (A2 ?_);rw[Aq (by omega)];obtain⟨l,ht⟩:∃l,ls[p]?=some l:=⟨_,Ap (by omega)⟩;rw[drop_cons ht] at hP;refine BP (AJc (CH hy (row:=[.list (AP (Bq l))]) (by omega) (by simp[*,Dd]) rfl (by omega) (LM (AG (gw _) ?_))));rintro _ rfl;have el:((AP (Bq l)).length==0)=l.isEmpty:=by grind[AR,Bf]
  rw[el];cases hg:l.isEmpty with
  | true=>exact BP (hP p (by simp[hg]))
  | false=>
   refine BE (AJd (CO (by omega) (by omega) ?_));simp only[OD,hg,GU] at hP;have:=Et (p+1) (by omega) hP;simpa using this
theorem WS {ls:List (List Ty)} {y:AV} (hy:BG y (Dd ls)) (hl:ls.length<2 ^ 60) {s:AM} (hs:Bj s) (L:A3):∃i:Int,decide (0<=i)=ls.any List.isEmpty/\A8 (env R) L 166 [y,.func (.func 145) [] []] s (AA i) s:=by
 have hlen:∀s,BN s y=some ls.length:=λs=>by rw[hy.BN,Hh]
 cases hn:Ep y with
 | true=>
  obtain⟨v,⟨i,rfl,h⟩,hc⟩:=AVA (R:=R) (t0:=y) (t1:=.func (.func 145) [] []) (Post:=λv=>∃i:Int,v=AA i/\decide (0<=i)=ls.any List.isEmpty) (by grind[Bb,Ep]) (vK (BI (hlen _) (cB hy hl ls.length 0 (by omega) λi h=>⟨AA i,rfl,i,rfl,by grind⟩)))
  grind
 | false=>
  obtain⟨v,s',⟨i,rfl,rfl,h⟩,hc⟩:=AVB (R:=R) (L:=L) (s:=s) (t0:=y) (t1:=.func (.func 145) [] []) (Post:=λv s'=>∃i:Int,v=AA i/\s'=s/\decide (0<=i)=ls.any List.isEmpty) (by grind[Bb]) (vK (BI (hlen _) (cB hy hl ls.length 0 (by omega) λi h=>by
   have:=Iu (rr:=L.rr 166) hs (m:=[]) (p:=.sc (.int .i64 i)) (Post:=λv s'=>∃i:Int,v=AA i/\s'=s/\decide (0<=i)=ls.any List.isEmpty) ⟨i,rfl,rfl,by grind⟩
   simp_all)))
  grind
theorem oh {ls:List (List Ty)} {y:AV} (hy:BG y (Dd ls)) (hl:ls.length<2 ^ 60) {s:AM} (hs:Bj s) (L:A3):A8 (env R) L 144 [y,.func (.func 145) [] []] s (BB (ls.any List.isEmpty)) s:=by
 have h0:Bj ⟨[],[]⟩:=λb hb=>by grind
 cases hn:Ep y with
 | true=>
  obtain⟨i,h,hc⟩:=WS (R:=R) hy hl h0 (Cu (env R) 144 0 0 0);obtain⟨v,rfl,hc⟩:=AVC (R:=R) (t0:=y) (t1:=.func (.func 145) [] []) (Post:=λv=>v=BB (ls.any List.isEmpty)) (by grind[Bb,Ep]) (vL ⟨_,_,hc,JT ⟨_,rfl,by rw[<-h]⟩⟩)
  grind
 | false=>
  obtain⟨i,h,hc⟩:=WS (R:=R) hy hl hs (Cu (env R) 144 0 L.ro L.rt)
  obtain⟨v,s',⟨rfl,rfl⟩,hc⟩:=AVD (R:=R) (L:=L) (s:=s) (t0:=y) (t1:=.func (.func 145) [] []) (Post:=λv s'=>v=BB (ls.any List.isEmpty)/\s'=s) (by grind[Bb]) (vL ⟨_,_,hc,JT (by
   have:=Iu (rr:=L.rr 144) hs (m:=[]) (p:=.sc (.bool (decide (i>=0)))) (Post:=λv s'=>v=BB (ls.any List.isEmpty)/\s'=s) ⟨by rw[<-h],rfl⟩
   simp_all)⟩)
  omega
end
theorem cC {E:Env} {f:FuncId} {fn:Func} {body:Code} {args:List AV} {L:A3} {s:AM} {Post:AV->AM->Prop} (hfn:E.P.funcs[f]?=some fn) (hb:fn.body=some body) (hk:E.kind f=.esc) (hc:E.clone f=true) (ht:E.told f=none) (hne:JE args=false) (hl:args.length<=fn.ntmps)
  (h:Wp E (Cu E f L.n0 L.ro L.rt) fn.ntmps fn.results.toList body [] (Fo 0 args) s Post):∃v s',Post v s'/\A8 E L f args s v s':=by
 obtain⟨r,s',n,h1,h2⟩:=O7 hb h;refine⟨r,s',h2,⟨n+1,λm hm=>?_⟩⟩;obtain⟨m,rfl⟩:∃m',m=m'+1:=⟨m-1,by omega⟩;simp only[DG,hfn,hc,AH,OL,ht,hne,AE];unfold D4;have:=h1 m (by omega);unfold Cu at this;simp only[if_pos hl,hk];exact this
theorem vM {E:Env} {f:FuncId} {fn:Func} {args:List AV} (hfn:E.P.funcs[f]?=some fn) (hc:E.clone f=true) (ht:E.told f=none) (hne:JE args=true):AL E f args λv=>v=.AB []:=by
 refine⟨_,rfl,λL s=>⟨1,λm hm=>?_⟩⟩;obtain⟨m,rfl⟩:∃m',m=m'+1:=⟨m-1,by omega⟩
 grind[DG,OL]
section
variable {R:RT}
theorem Yo {l:List Ty} (hl:l.length<2 ^ 38) {a:AV} (ha:BG a (AP l)) {L:A3} (GZ:L.rt=0) (s:AM):∃v s',(∃ts',s'=⟨s.bs,ts'⟩/\EM 0 ts' 25 v (AP l)/\ES (.AB []) v s.ts ts')/\A8 (env R) L 57 [a] s v s':=by
 cases l with
 | nil=>
  have he:JE [a]=true:=by
   rcases ha with (rfl|rfl)|⟨t,rfl⟩ <;> rfl
  obtain⟨v,rfl,hc⟩:=vM (E:=env R) (f:=57) (args:=[a]) Tryz.func57 (by rfl) (by rfl) he;exact⟨_,s,⟨s.ts,rfl,.inl rfl,ES.refl _ _⟩,hc L s⟩
 | cons x l=>
  have he:JE [a]=false:=by
   rcases ha with (rfl|rfl)|⟨t,rfl⟩ <;> rfl
  have qW:∀K:AV->Prop,K (BB false)->vN s (some 1) (RR a) (some 1) .eql a (.AB []) K:=by
   intro K hK;obtain⟨k1,n1,i1,t1⟩:=x;rcases ha with (rfl|rfl)|⟨t,rfl⟩ <;> exact⟨by rfl,hK⟩
  refine cC (fn:=Tryz.f57) (body:=b57) Tryz.func57 (by rfl) (by rfl) (by rfl) (by rfl) he (Cr (by rfl)) ?_
  show AEJ R L.n0 L.ro L.rt a s _
  refine AOf (qW _ (BE (AOg ?_)))
  have hb:∀K:AV->AM->Prop,K (.AB []) s->Dc false s 4 [(AA 0),(SS []),(AA 0),(.AB [])] 0 [] K:=by
   intro K hK;simpa[Dc,Fz,CD] using hK
  exact hb _ ⟨by decide,JV (es:=[]) (.inl rfl) GZ (by grind) ha λa' ts' h1 h2=>⟨ts',rfl,by grind,h2⟩⟩
end
theorem AOh {a:AV} {rows:List (List PV)} (h:BG a rows):Ja a=some (.list rows):=by
 rcases h with (rfl|rfl)|⟨t,rfl⟩ <;> rfl
theorem hO {l:List Ty} {a:AV} (ha:BG a (AP l)) {s:AM} {K:AV->AM->Prop} (hK:K (.AB [[.list (AP l)]]) s):Dc false s 1 [(.AB [])] 1 [(0,1,a)] K:=by
 simp[Dc,Fz,CD,ha.ok,AOh ha,ha.cells];omega
theorem lD {L:A3} {s:AM} {a:AV} {os:List (List Ty)} {p:List Ty} {K:AV->AM->Prop} (ha:EM 0 s.ts 23 a (Dd os)) (GZ:L.rt=0) (hl:os.length<2 ^ 38) (h:∀a' ts',EM 0 ts' 23 a' (Dd (os++[p]))->ES a a' s.ts ts'->K a' ⟨s.bs,ts'⟩) :
  EL false L s 23 1 24 a (.AB [[.list (AP (Bq p))]]) K:=by
 have h1:=Hh os;have hm:∀r∈[[PV.list (AP (Bq p))]],r.length=1:=by simp
 refine Yi (m:=[[.list (AP (Bq p))]]) ha GZ gv hm (by omega) (ER (.inl (.AB _)) hm) (by simp) (by grind) (by grind) λa' ts' h3 h4=>h a' ts' ?_ h4
 grind[Dd]
theorem ES.AJe {r:List (List PV)} {v:AV} {ts ts':List (Nat×Nat)} (h:ES (.AB r) v ts ts'):D2 v ts:=by
 intro t ht;rcases h.2.2 with h1|⟨u,h1,h2⟩
 .rw[h1] at ht
  cases ht
 grind
theorem D2.dis {v b:AV} {ts:List (Nat×Nat)} {lo k:Nat} {rows:List (List PV)} (h:D2 v ts) (hb:EM lo ts k b rows):RU v b:=by
 intro t ht hbt;have h1:=h t ht;have h2:=EM.u7 hb hbt;omega
section
variable {R:RT}
theorem vO {l pre:List Ty} {xa:AV} (hxa:BG xa (AP (Bq l))) (hl:l.length<2 ^ 37) (hpre:pre.length<2 ^ 37) {n:Nat} {X:List (List AV)} {t0 t8 t17 t18 t19 t33 t34 t35:AV} {QR:QT} :
  ∀(j p:Nat) (out:List (List Ty)) (bs:List (List AV)) (tk:List (Nat×Nat)) (acc:AV),p+j=l.length->out.length+j<2 ^ 38->Bj ⟨bs,tk⟩->bs.take n=X->n<=bs.length->EM 0 tk 23 acc (Dd out) ->
   (∀bs' Hx acc',Bj ⟨bs',Hx⟩->bs'.take n=X->n<=bs'.length->EM 0 Hx 23 acc' (Dd (out++(l.drop p).map λx=>pre++[x]))->ES acc acc' tk Hx->Yp R 0 0 0 t0 t8 acc' t17 t18 t19 t33 t34 t35 ⟨bs',Hx⟩ QR) ->
   Yq R 0 0 0 t0 t8 acc (.pv (.list (AP (Bq pre)))) t17 t18 t19 t33 t34 t35 xa (AA l.length) (AA p) ⟨bs,tk⟩ QR:=by
 intro j
 induction j with
 | zero=>
  intro p out bs tk acc hi ho hs hT hn hacc hK;refine vQ (A2 ?_);rw[BF (by omega)];rw[Cj (by omega)] at hK;exact BE (hK bs tk acc hs hT hn (by simpa using hacc) (ES.refl _ _))
 | succ j Et=>
  intro p out bs tk acc hi ho hs hT hn hacc hK;refine vQ (A2 ?_);rw[Aq (by omega)];obtain⟨c,hc⟩:∃c,l[p]?=some c:=⟨_,Ap (by omega)⟩;have hrc:(Bq l)[p]?=some (ren c):=by grind[Bf]
  have hrl:((Aa (ren c)).map AV.pv).length=4:=by grind[Ad]
  have hro:=Ct (ren c)
  have K6:Ab (bs.length+1) ((Aa (ren c)).map AV.pv)=true:=by
   obtain⟨k1,n1,i1,t1⟩:=ren c;rfl
  have Iv:=(A5.Bu (ren c)).Km;have Ji:=O2 (ren c);refine BP (ACF (CH hxa (row:=Aa (ren c)) (by omega) (by grind[BJ]) (Ad _) (by omega) (Di (Bi ?_))));rw[drop_cons hc] at hK;generalize (Aa (ren c)).map AV.pv=row at hrl hro K6 Iv Ji;refine BZ (Am bs Z4) hrl rfl (by decide) (AK _) hro (.inl (AK _)) ?_;have e1:(bs++[Z4]).set bs.length row=bs++[row]:=by simp
  rw[e1];have hs1:Bj ⟨bs++[row],tk⟩:=Bj.app (s:=⟨bs,tk⟩) hs K6;have gr:=Am bs row;have lp:(Bq pre).length=pre.length:=by grind[Bf]
  obtain⟨v,s',⟨Sj,rfl,v1,v2⟩,v3⟩:=Yo (R:=R) (l:=Bq pre) (by omega) (a:=.pv (.list (AP (Bq pre)))) (.inl (.list _)) (L:=Cu (env R) 120 0 0 0) rfl ⟨bs++[row],tk⟩;have hfv:=v2.AJe;have AOi:=v2.keep hacc (λ_ h=>by cases h);refine⟨_,_,v3,Af gr hrl (Gj Iv ⟨by decide,Mq v1 rfl (by omega) λv' O5 w1 w2=>?_⟩)⟩;have ep:Bq pre++[ren c]=Bq (pre++[c]):=by simp[Bf]
  rw[ep] at w1;have MK:=w2.keep AOi (hfv.dis hacc);refine hO w1.A9 ⟨by decide,lD MK rfl (by omega) λacc' Q6 x1 x2=>?_⟩;refine⟨Af gr hrl Ji,ACG (CO (by omega) (by omega) ?_)⟩;have hch:ES acc acc' tk Q6:=(((ES.refl acc tk).side v2 (D2.AB _ _)).side w2 hfv).trans x2;have:=Et (p+1) (out++[pre++[c]]) (bs++[row]) Q6 acc' (by omega) (by grind) hs1 ((Gb hn row).trans hT) (by grind) x1 (λbs' Hx Ns k1 k2 k3 k4 k5=>hK bs' Hx Ns k1 k2 k3 (by grind) (hch.trans k5))
  grind
end
section
variable {R:RT}
theorem AJg {l:List Ty} {xa ya:AV} {outs:List (List Ty)} (hxa:BG xa (AP (Bq l))) (Yr:BG ya (Dd outs)) (hl:l.length<2 ^ 37) (hpre:∀pre∈outs,pre.length<2 ^ 37) (hol:outs.length<2 ^ 37) {n:Nat} {X:List (List AV)} {t0 t17 t18 t19:AV} {QR:QT} :
  ∀(j p:Nat) (next:List (List Ty)) (bs:List (List AV)) (tk:List (Nat×Nat)) (acc:AV),p+j=outs.length->next.length+j*l.length<2 ^ 38->Bj ⟨bs,tk⟩->bs.take n=X->n<=bs.length->EM 0 tk 23 acc (Dd next) ->
   (∀bs' Hx acc',Bj ⟨bs',Hx⟩->bs'.take n=X->n<=bs'.length->EM 0 Hx 23 acc' (Dd (next++(outs.drop p).flatMap λpre=>l.map λx=>pre++[x]))->ES acc acc' tk Hx->Ys R 0 0 0 t0 acc' t17 t18 t19 ⟨bs',Hx⟩ QR) ->
   Yt R 0 0 0 t0 xa acc t17 t18 t19 ya (AA outs.length) (AA p) ⟨bs,tk⟩ QR:=by
 intro j
 induction j with
 | zero=>
  intro p next bs tk acc hi ho hs hT hn hacc hK
  refine vR (A2 ?_);rw[BF (by omega)];rw[Cj (by omega)] at hK;exact BE (AJh (hK bs tk acc hs hT hn (by simpa using hacc) (ES.refl _ _)))
 | succ j Et=>
  intro p next bs tk acc hi ho hs hT hn hacc hK
  refine vR (A2 ?_);rw[Aq (by omega)];obtain⟨pre,hc⟩:∃c,outs[p]?=some c:=⟨_,Ap (by omega)⟩;rw[drop_cons hc] at hK;rw[Md] at ho;refine BP (AJi (CH Yr (row:=[.list (AP (Bq pre))]) (by omega) (by grind[Dd]) rfl (by omega) (LM (BI (n:=l.length) (by rw[hxa.BN,AR,Bf,Bn]) ?_))));refine vO hxa hl (hpre pre (BA hc)) l.length 0 next bs tk acc (by omega) (by omega) hs hT hn hacc λbs1 lF AJj k1 k2 k3 k4 k5=>?_
  refine ACH (CO (by omega) (by omega) ?_);rw[Ku] at k4;have:=Et (p+1) (next++l.map λx=>pre++[x]) bs1 lF AJj (by omega) (by grind) k1 k2 k3 k4 (λbs' Hx Ns m1 m2 m3 m4 m5=>hK bs' Hx Ns m1 m2 m3 (by grind) (k5.trans m5))
  grind
end
theorem AJk {a b:Nat} {K:AV->Prop} (hb:b≠0) (ha:a<2 ^ 62) (h:K (AA ((a / b:Nat):Int))):Cb .i64 .quo (AA a) (AA b) K:=by
 have e:(a:Int).tdiv b=((a / b:Nat):Int):=(Int.ofNat_tdiv a b).symm;have hl:=Nat.div_le_self a b;refine⟨⟨rfl,rfl⟩,by omega,?_⟩;rw[e];generalize a / b=c at hl h;exact B9 (by omega) (by omega) h
theorem cD (outs:List (List Ty)) (l:List Ty):(outs.flatMap λp=>l.map λx=>p++[x]).length=outs.length*l.length:=by
 induction outs with
 | nil=>simp
 | cons o os ih=>grind
def cE (v:AV) (r:Option (List (List Ty))):Prop:=match r with
 | none=>v=.tuple [.AB [],BB false]
 | some o=>∃a,v=.tuple [a,BB true]/\BG a (Dd o)
section
variable {R:RT}
theorem vS {e Aj:Nat} (Hg:Aj<2 ^ 20) {d:AV} {ls:List (List Ty)} {ya:AV} (Yr:BG ya (Dd ls)) (hll:ls.length<2 ^ 36) (hls:∀l∈ls,l≠[]/\l.length<2 ^ 37) {n:Nat} {X:List (List AV)} (hX:X[e]?=some [d,AA Aj]) {oo:List (Nat×Nat)} {r:Option (List (List Ty))} {QR:QT}
  (hK:∀v bs' Hx,cE v r->Bj ⟨bs',Hx⟩->bs'.take n=X->ES (.AB []) (.AB []) oo Hx->QR v ⟨bs',Hx⟩) :
  ∀(j p:Nat) (outs:List (List Ty)) (bs:List (List AV)) (tk:List (Nat×Nat)) (acc:AV),p+j=ls.length->DR (Ac Aj) (ls.drop p) outs=r->outs.length<=Aj+1->(∀o∈outs,o.length<=p)->Bj ⟨bs,tk⟩->bs.take n=X->n<=bs.length->BG acc (Dd outs)->ES (.AB []) (.AB []) oo tk ->
   Yu R 0 0 0 (.ptr e 0) acc ya (AA ls.length) (AA p) ⟨bs,tk⟩ QR:=by
 intro j
 induction j with
 | zero=>
  intro p outs bs tk acc hi hc ho hp hs hT hn hacc hch;refine vT (A2 ?_);rw[BF (by omega)];rw[Cj (by omega),DR] at hc;subst hc;exact BE (AJl (hK _ _ _ ⟨acc,rfl,hacc⟩ hs hT hch))
 | succ j Et=>
  intro p outs bs tk acc hi hc ho hp hs hT hn hacc hch;refine vT (A2 ?_);rw[Aq (by omega)];obtain⟨l,hl⟩:∃c,ls[p]?=some c:=⟨_,Ap (by omega)⟩;obtain⟨hne,hlen⟩:=hls l (BA hl);have hpos:0<l.length:=List.length_pos_iff.2 hne;rw[drop_cons hl,DR,cD] at hc;have gE:=D7 hT hX;have hxa:BG (.pv (.list (AP (Bq l)))) (AP (Bq l)):=.inl (.list _);refine BP (AJm (CH Yr (row:=[.list (AP (Bq l))]) (by omega) (by grind[Dd]) rfl (by omega) (LM (BI (n:=outs.length) (by rw[hacc.BN,Hh]) (FG (Ak gE) (AW (Ak gE) (Ag (off:=1) gE rfl (BI (n:=l.length) (by rw[hxa.BN,AR,Bf,Bn]) (AJk (by omega) (by omega) (JS ?_))))))))))
  have eb:decide ((outs.length:Int)>((Aj / l.length:Nat):Int))=Ac Aj (outs.length*l.length):=by
   simp only[Ac];rw[OB];simp only[CZ,gt_iff_lt,Int.ofNat_lt]
   grind[Nat.div_lt_iff_lt_mul]
  rw[eb];cases hb:Ac Aj (outs.length*l.length) with
  | true=>
   rw[hb] at hc;simp only[AH] at hc;subst hc;exact BP (hK _ _ _ rfl hs hT hch)
  | false=>
   rw[hb] at hc;simp only[AE] at hc;have Oa:outs.length*l.length<=Aj:=by grind
   refine BE (AJn (BI (n:=outs.length) (by rw[hacc.BN,Hh]) ?_));refine AJg hxa hacc hlen (λo hm=>by grind) (by omega) outs.length 0 [] bs tk (.AB []) (by omega) (by grind) hs hT hn (.inl rfl) λbs1 lF AJj k1 k2 k3 k4 k5=>?_
   refine ACI (CO (by omega) (by omega) ?_);rw[Ku,ED] at k4;have:=Et (p+1) (outs.flatMap λpre=>l.map λx=>pre++[x]) bs1 lF AJj (by omega) hc (by grind[cD]) (by grind) k1 k2 k3 k4.A9 (hch.side k5 (D2.AB _ _))
   grind
end
theorem AEK {rr:Bool} {v:AV} {r:Option (List (List Ty))} {s0:AM} {bs:List (List AV)} {ts:List (Nat×Nat)} {Post:AV->AM->Prop} (h0:Bj s0) (hT:bs.take s0.bs.length=s0.bs) (hr:cE v r) (hP:∀w,cE w r->Post w ⟨s0.bs,ts⟩):QM rr s0.bs.length Post v ⟨bs,ts⟩:=by
 have hok:((bs.take s0.bs.length).all (Ab s0.bs.length))=true:=by
  rw[De];intro b hb;exact h0 b (by grind)
 cases r with
 | none=>
  cases hr;refine JU (ds:=[.AB [],BB false]) hok rfl ?_
  show Post _ ⟨bs.take _,ts⟩
  rw[hT];exact hP _ rfl
 | some l=>
  obtain⟨a,rfl,ha⟩:=hr;obtain⟨a',h1,h2⟩:=ha.close bs s0.bs.length ts.length;refine JU (ds:=[a',BB true]) hok (by grind[AU,Tel.close]) ?_
  show Post _ ⟨bs.take _,ts⟩
  rw[hT];exact hP _ ⟨a',rfl,h2⟩
section
variable {R:RT}
theorem ACJ {e Aj:Nat} (Hg:Aj<2 ^ 20) {d:AV} {ls:List (List Ty)} {ya:AV} (Yr:BG ya (Dd ls)) (hll:ls.length<2 ^ 36) (hls:∀l∈ls,l.length<2 ^ 37) {s:AM} (hs:Bj s) (hE:s.bs[e]?=some [d,AA Aj]) {L:A3} (hro:L.ro=0) (GZ:L.rt=0) :
  ∃v s',(∃ts',cE v (bif ls.any List.isEmpty then some [] else DR (Ac Aj) ls [[]])/\ES (.AB []) (.AB []) s.ts ts'/\s'=⟨s.bs,ts'⟩)/\A8 (env R) L 120 [.ptr e 0,ya] s v s':=by
 refine AVG (by rfl) ?_;rw[hro,GZ];refine AJo ⟨_,_,oh Yr (by omega) hs _,?_⟩;cases ha:ls.any List.isEmpty with
 | true=>exact BP (AEK hs (by simp) (r:=some []) ⟨.AB [],rfl,.inl (.AB _)⟩ λw hw=>⟨s.ts,hw,ES.refl _ _,rfl⟩)
 | false=>
  refine BE (AJp (hO (l:=[]) (.inl (.AB _)) (BI (n:=ls.length) (by rw[Yr.BN,Hh]) ?_)));refine vS (n:=s.bs.length) (X:=s.bs) (oo:=s.ts) (r:=DR (Ac Aj) ls [[]]) Hg Yr hll ?_ hE (λv bs' Hx h1 h2 h3 h4=>AEK hs h3 h1 λw hw=>⟨Hx,hw,h4,rfl⟩) ls.length 0 [[]] s.bs s.ts (.AB [[.list (AP [])]]) (by omega) rfl (by simp) (by simp) hs (by simp) (AN _) (.inl (.AB _)) (ES.refl _ _)
  grind
end
section
variable {R:RT}
theorem AJq {all:List (List Ty)} {ya:AV} (Yr:BG ya (Dd all)) (hl:all.length<2 ^ 37) {t12:AV} {bs:List (List AV)} {oo:List (Nat×Nat)} {QR:QT}
  (hK:∀acc Hx,EM 0 Hx 25 acc (AP (Bq (all.map (.mk 3 [] 0))))->ES (.AB []) acc oo Hx->vU R 0 0 0 t12 acc ⟨bs,Hx⟩ QR) :
  ∀(j p:Nat) (tk:List (Nat×Nat)) (acc:AV),p+j=all.length->EM 0 tk 25 acc (AP (Bq ((all.take p).map (.mk 3 [] 0))))->ES (.AB []) acc oo tk ->
   cG R 0 0 0 t12 acc ya (AA all.length) (AA p) ⟨bs,tk⟩ QR:=by
 intro j
 induction j with
 | zero=>
  intro p tk acc hi hacc hch;refine vV (A2 ?_);rw[BF (by omega)];rw[Cv (by omega)] at hacc;exact BE (hK acc tk hacc hch)
 | succ j Et=>
  intro p tk acc hi hacc hch;refine vV (A2 ?_);rw[Aq (by omega)];obtain⟨o,hc⟩:∃c,all[p]?=some c:=⟨_,Ap (by omega)⟩;have ht:BM (ren (.mk 3 [] 0 o)) (.agg [AA 3,SS [],AA 0,.pv (.list (AP (Bq o)))]):=⟨_,rfl,.inl (.list _)⟩;refine BP (AOj (CH Yr (row:=[.list (AP (Bq o))]) (by omega) (by grind[Dd]) rfl (by omega) (LM (NM (cs:=[AA 3,SS [],AA 0,.pv (.list (AP (Bq o)))]) rfl (Gj ht ⟨by decide,Mq hacc rfl (by grind[Bf]) λacc' Hx h1 h2=>AOl (CO (by omega) (by omega) ?_)⟩)))));have er:Bq ((all.take p).map (.mk 3 [] 0))++[ren (.mk 3 [] 0 o)]=Bq ((all.take (p+1)).map (.mk 3 [] 0)):=by grind[List.take_add_one,Bf]
  rw[er] at h1;have:=Et (p+1) Hx acc' (by omega) h1 (hch.trans h2)
  grind
end
section
variable {R:RT}
theorem ACK {e Aj M:Nat} (Hg:Aj<2 ^ 20) {ex:Ty->List Ty->FV} {B0:List Ty} (gj:∀t B,B<+:(ex t B).2) {ts:List Ty} {ya:AV} (Yr:BG ya (AP (Bq ts))) (hl:ts.length<2 ^ 37)
  (ih:∀t∈ts,∀B,B0<+:B->(ex t B).2.length<=M->∀x,BM (ren t) x->∀s,Bj s->Ui R e Aj 44 [x] (ex t B) B s)
  {s0:AM} (he:e<s0.bs.length) {d0:AV} {o:Option (List (List Ty))×List Ty} (od:o.2.length<=M) {QR:QT}
  (hN:o.1=none->∀bs tk d,bs.take s0.bs.length=s0.bs.set e [d,AA Aj]->EM 0 tk 25 d (AP o.2)->ES d0 d s0.ts tk->QR (.tuple [.AB [],BB false]) ⟨bs,tk⟩)
  (hS:∀ls,o.1=some ls->∀bs tk d acc,Bj ⟨bs,tk⟩->bs.take s0.bs.length=s0.bs.set e [d,AA Aj]->s0.bs.length<=bs.length->EM 0 tk 25 d (AP o.2)->ES d0 d s0.ts tk->BG acc (Dd ls)->vW R 0 0 0 (.ptr e 0) acc ⟨bs,tk⟩ QR) :
  ∀(j p:Nat) (out:List (List Ty)) (Bc:List Ty) (bs:List (List AV)) (tk:List (Nat×Nat)) (d acc:AV),p+j=ts.length->EI ex (ts.drop p) out Bc=o->B0<+:Bc->out.length<=p ->
   Bj ⟨bs,tk⟩->bs.take s0.bs.length=s0.bs.set e [d,AA Aj]->s0.bs.length<=bs.length ->
   EM 0 tk 25 d (AP Bc)->EM 0 tk 23 acc (Dd out)->ES d0 d s0.ts tk->D2 acc s0.ts->RU d acc ->
   lG R 0 0 0 (.ptr e 0) acc ya (AA ts.length) (AA p) ⟨bs,tk⟩ QR:=by
 intro j
 induction j with
 | zero=>
  intro p out Bc bs tk d acc hi hseq hB hop hs hT N4 hd hacc hch hfr Jd;refine AEL (A2 ?_);rw[BF (by omega)];rw[Cj (by omega),EI] at hseq;subst hseq;exact BE (hS out rfl bs tk d acc hs hT N4 hd hch hacc.A9)
 | succ j Et=>
  intro p out Bc bs tk d acc hi hseq hB hop hs hT N4 hd hacc hch hfr Jd;refine AEL (A2 ?_);rw[Aq (by omega)];obtain⟨c,hc⟩:∃c,ts[p]?=some c:=⟨_,Ap (by omega)⟩;have hrc:(Bq ts)[p]?=some (ren c):=by grind[Bf]
  have hrl:((Aa (ren c)).map AV.pv).length=4:=by grind[Ad]
  have hro:=Ct (ren c)
  have K6:Ab (bs.length+1) ((Aa (ren c)).map AV.pv)=true:=by
   obtain⟨k1,n1,i1,t1⟩:=ren c;rfl
  have Iv:=(A5.Bu (ren c)).Km;refine BP (AOm (CH Yr (row:=Aa (ren c)) (by omega) (by grind[BJ]) (Ad _) (by omega) (Di (Bi ?_))));rw[drop_cons hc,EI] at hseq;generalize (Aa (ren c)).map AV.pv=row at hrl hro K6 Iv;refine BZ (Am bs Z4) hrl rfl (by decide) (AK _) hro (.inl (AK _)) ?_;have e1:(bs++[Z4]).set bs.length row=bs++[row]:=by simp
  rw[e1];have hs1:Bj ⟨bs++[row],tk⟩:=Bj.app (s:=⟨bs,tk⟩) hs K6;have gr:=Am bs row;have eG:=(Gb N4 row).trans hT;have lb:(bs++[row]).length=bs.length+1:=by simp
  generalize bs++[row]=b1 at hs1 gr eG lb;have gE:(s0.bs.set e [d,AA Aj])[e]?=some [d,AA Aj]:=by rw[Fy he]
  have hfp:∀(l:List Ty) out B,B<+:(EI ex l out B).2:=λl out B=>TP gj l out B
  have gu:=ih c (BA hc) Bc hB;have hpre:=gj c Bc;rcases hg:ex c Bc with ⟨r,B1⟩
  rw[hg] at hseq gu hpre;simp only at hseq gu hpre;have VC:B1.length<=M:=by grind
  obtain⟨w2,s2',⟨d2,O5,q1,q2,q3,rfl⟩,q4⟩:=gu VC (.agg row) Iv ⟨b1,tk⟩ hs1 (Cu (env R) 88 0 0 0) d rfl rfl (D7 eG gE) hd;have R6:(b1.set e [d2,AA Aj]).take s0.bs.length=s0.bs.set e [d2,AA Aj]:=by simp[*,Gk]
  refine Af gr hrl ⟨_,_,q4,?_⟩;cases r with
  | none=>
   cases q1;simp only at hseq;subst hseq;exact CC rfl (CC rfl (nt (BP (hN rfl _ O5 d2 R6 q2 (hch.trans q3)))))
  | some r=>
   obtain⟨a2,rfl,S1⟩:=q1;simp only at hseq;have MK:=q3.keep hacc Jd;have Ki:RU d2 acc:=Jd.WI q3 hacc;refine CC rfl (CC rfl (nt (BE (AOn (hO S1 ⟨by decide,lD MK rfl (by omega) λacc' Q6 h3 h4=>AOo (CO (by omega) (by omega) ?_)⟩)))));have Nr:=hch.trans q3;have hd3:=h4.keep q2 Ki.symm;have Ym:=Nr.side h4 hfr;have hs2:Bj ⟨b1.set e [d2,AA Aj],Q6⟩:=Bj.set (s:=⟨b1,tk⟩) hs1 (by simp[Ab,Ai,q2.A9.Ai]) _;have:=Et (p+1) (out++[r]) B1 (b1.set e [d2,AA Aj]) Q6 d2 acc' (by omega) hseq (hB.trans hpre) (by grind) hs2 R6 (by grind) hd3 h3 Ym (hfr.WI h4 Nr.1) (Ki.symm.WI h4 q2).symm
   grind
def Lo (Aj:Nat) (ex:Ty->List Ty->FV) (ts B:List Ty):FV:=match EI ex ts [] B with
 | (none,B)=>(none,B)
 | (some ls,B)=>bif ls.any List.isEmpty then(some [],B) else match DR (Ac Aj) ls [[]] with
  | none=>(none,B)
  | some all=>(some (all.map (.mk 3 [] 0)),B)
theorem WT {Aj:Nat}:∀(ls out r:List (List Ty)),DR (Ac Aj) ls out=some r->r.length<=Aj\/r=out
 | [],out,r,h=>by grind[DR]
 | l::ls,out,r,h=>by
  rw[DR] at h;cases hb:Ac Aj (out.flatMap λp=>l.map λx=>p++[x]).length with
  | true=>grind
  | false=>
   rw[hb] at h;have hb':(out.flatMap λp=>l.map λx=>p++[x]).length<=Aj:=by grind
   rcases WT ls _ r h with h1|h1
   all_goals grind
end
theorem WU {Aj:Nat} {ex:Ty->List Ty->FV}:∀(l:List Ty) (out:List (List Ty)) (B:List Ty) (r:List (List Ty)),(∀t∈l,∀B r,(ex t B).1=some r->r.length<=Aj)->(EI ex l out B).1=some r->(∀o∈out,o.length<=Aj)->(∀o∈r,o.length<=Aj)/\r.length=out.length+l.length
 | [],out,B,r,_,h,ho=>by grind[EI]
 | t::l,out,B,r,hx,h,ho=>by
  have h1:=hx t (by simp) B;rw[EI] at h;rcases hr:ex t B with ⟨_|s,B1⟩
  .grind
  .rw[hr] at h h1
   have:=WU l (out++[s]) B1 r (λa ha=>hx a (by grind)) h (by grind)
   grind
section
variable {R:RT}
theorem ACL {e Aj M:Nat} (Hg:Aj<2 ^ 20) {ex:Ty->List Ty->FV} {B0:List Ty} (gj:∀t B,B<+:(ex t B).2) {ts:List Ty} (hxl:∀t∈ts,∀B r,(ex t B).1=some r->r.length<=Aj) {ya:AV} (Yr:BG ya (AP (Bq ts))) (hl:ts.length<2 ^ 36)
  (ih:∀t∈ts,∀B,B0<+:B->(ex t B).2.length<=M->∀x,BM (ren t) x->∀s,Bj s->Ui R e Aj 44 [x] (ex t B) B s)
  {B:List Ty} (hB:B0<+:B) (hM:(Lo Aj ex ts B).2.length<=M) {s:AM} (hs:Bj s):Ui R e Aj 88 [ya] (Lo Aj ex ts B) B s:=by
 intro L d hro GZ hE hd;have le:=(BL.1 hE).1;have same:s.bs.set e [d,AA Aj]=s.bs:=by grind[List.set_getElem_self]
 refine m88 (by rfl) ?_;rw[hro,GZ];refine AOp (BI (n:=ts.length) (by rw[Yr.BN,AR,Bf,Bn]) ?_);have AEM:=WU (Aj:=Aj) ts [] B (ex:=ex);rcases ho:EI ex ts [] B with ⟨r,B1⟩
 rw[ho] at AEM;have ho2:(Lo Aj ex ts B).2=B1:=by grind[Lo]
 rw[ho2] at hM;refine ACK (M:=M) Hg gj Yr (by omega) ih le (o:=(r,B1)) hM ?_ ?_ ts.length 0 [] B s.bs s.ts d (.AB []) (by omega) (by grind) hB (AK _) hs (by grind) (AN _) hd (.inl rfl) (ES.refl _ _) (D2.AB _ _) (RU.AB _ _)
 .rintro h bs tk d' hT hd' hch
  simp only at h;subst h;have e1:Lo Aj ex ts B=(none,B1):=by rw[Lo,ho]
  rw[e1];exact Ek hs hT (hd'.A9.Ai _) (r:=none) rfl λw hw=>⟨d',tk,hw,hd',hch,rfl⟩
 .rintro ls h bs tk d' acc hs1 hT N4 hd' hch hacc
  simp only at h hd';subst h
  have e1:Lo Aj ex ts B=bif ls.any List.isEmpty then(some [],B1) else match DR (Ac Aj) ls [[]] with
   | none=>(none,B1)
   | some all=>(some (all.map (.mk 3 [] 0)),B1):=by grind[Lo]
  obtain⟨Ug,Rq⟩:=AEM ls hxl rfl (by simp);have gE:bs[e]?=some [d',AA Aj]:=D7 hT (by rw[Fy le]);simp only[Ce,Cg] at Rq;obtain⟨v,s',⟨ts',r1,r2,rfl⟩,r3⟩:=ACJ (R:=R) (L:=Cu (env R) 88 0 0 0) Hg hacc (by omega) (λl hl=>by grind) hs1 gE rfl rfl;have Sg:=r2.keep hd' (λ_ h=>by cases h);have Nr:=hch.side r2 (D2.AB _ _);refine AOq ⟨_,_,r3,?_⟩
  have fin:∀(r:Option (List (List Ty))) ,cE v r->(r.map (List.map (Ty.mk 3 [] 0)),B1)=Lo Aj ex ts B->(∀all,r=some all->all.length<=Aj+1) ->
    DC v 0 λa39=>DC v 1 λa40=>BV ⟨bs,ts'⟩ a39 λa42=>cG R 0 0 0 a40 (.AB []) a39 a42 (AA 0) ⟨bs,ts'⟩ (QM (L.rr 88) s.bs.length (λv s'=>∃d' ts',Res v (Lo Aj ex ts B).1/\EM 0 ts' 25 d' (AP (Lo Aj ex ts B).2)/\ES d d' s.ts ts'/\s'=⟨s.bs.set e [d',AA Aj],ts'⟩)):=by
   intro r hr he hle;rw[<-he];cases r with
   | none=>
    cases hr;refine CC rfl (CC rfl (BI (n:=0) rfl (vV (A2 ?_))));rw[BF (by omega)];exact BE (AEN (Ek hs hT (Sg.A9.Ai _) (r:=none) rfl λw hw=>⟨d',ts',hw,Sg,Nr,rfl⟩))
   | some all=>
    obtain⟨a,rfl,ha⟩:=hr;have hle':=hle all rfl;refine CC rfl (CC rfl (BI (n:=all.length) (by rw[ha.BN,Hh]) ?_));refine AJq ha (by omega) (oo:=ts') ?_ all.length 0 ts' (.AB []) (by omega) (.inl rfl) (ES.refl _ _);intro Ns tk2 h5 h6;refine AEN (Ek hs hT (Sg.A9.Ai _) (r:=some (all.map (.mk 3 [] 0))) ⟨Ns,rfl,h5.A9⟩ λw hw=>⟨d',tk2,hw,h6.keep Sg (λ_ h=>by cases h),Nr.side h6 (D2.AB _ _),rfl⟩)
  refine fin _ r1 ?_ ?_
  .grind
  .intro all h
   cases hb:ls.any List.isEmpty with
   | true=>grind
   | false=>
    rw[hb] at h;simp only[AE] at h;rcases WT ls [[]] all h with h1|h1
    all_goals grind
end
section
variable {R:RT}
theorem R7 {e:Nat} {t6:AV} {s:AM} {QR:QT} (h:QR (.tuple [.AB [],BB false]) s):NQ R 0 0 0 (.ptr e 0) t6 (BB false) s QR:=
 AEO (nt (Cq (Cq (Cq (Cq (Cq (Cq (Cq (pk (BP h))))))))))
theorem cH {e Aj:Nat} {d a:AV} {l:List Ty} {s:AM} {QR:QT} (ha:BG a (AP (Bq l))) (kE:s.bs[e]?=some [d,AA Aj]) (h:∀w,Res w (bif Ac Aj l.length then none else some l)->QR w s):NQ R 0 0 0 (.ptr e 0) a (BB true) s QR:=by
 refine AEO (nt (Ax (b:=false) (Ax (b:=false) (BI (n:=l.length) (by rw[ha.BN,AR,Bf,Bn]) (Ax (b:=false) (Ax (b:=false) (FG (Ak kE) (Ax (b:=false) (AW (Ak kE) (Ax (b:=false) (Ag (off:=1) kE rfl (Ax (b:=false) (JS (pk ?_))))))))))))));have eb:decide ((l.length:Int)>(Aj:Nat))=Ac Aj l.length:=by simp
 rw[eb];cases hb:Ac Aj l.length with
 | true=>rw[hb] at h; exact BP (h _ rfl)
 | false=>rw[hb] at h; exact BE (AOr (h _ ⟨a,rfl,ha⟩))
theorem ACN {e Aj M:Nat} {ex:Ty->List Ty->FV} {B0:List Ty} (gj:∀t B,B<+:(ex t B).2) {ts:List Ty} (hxl:∀t∈ts,∀B r,(ex t B).1=some r->r.length<=Aj) {ya:AV} (Yr:BG ya (AP (Bq ts))) (hl:ts.length*Aj<2 ^ 38) (Rq:ts.length<2 ^ 38)
  (ih:∀t∈ts,∀B,B0<+:B->(ex t B).2.length<=M->∀x,BM (ren t) x->∀s,Bj s->Ui R e Aj 44 [x] (ex t B) B s)
  {s0:AM} (he:e<s0.bs.length) {d0:AV} {o:(List Ty×Bool)×List Ty} (od:o.2.length<=M) {QR:QT}
  (hK:∀bs tk d acc,Bj ⟨bs,tk⟩->bs.take s0.bs.length=s0.bs.set e [d,AA Aj]->EM 0 tk 25 d (AP o.2)->ES d0 d s0.ts tk->BG acc (AP (Bq o.1.1))->NQ R 0 0 0 (.ptr e 0) acc (BB o.1.2) ⟨bs,tk⟩ QR) :
  ∀(j p:Nat) (out:List Ty) (ok:Bool) (Bc:List Ty) (bs:List (List AV)) (tk:List (Nat×Nat)) (d acc:AV),p+j=ts.length->G3 ex (ts.drop p) out ok Bc=o->B0<+:Bc->out.length+j*Aj<=ts.length*Aj ->
   Bj ⟨bs,tk⟩->bs.take s0.bs.length=s0.bs.set e [d,AA Aj]->s0.bs.length<=bs.length ->
   EM 0 tk 25 d (AP Bc)->EM 0 tk 25 acc (AP (Bq out))->ES d0 d s0.ts tk->D2 acc s0.ts->RU d acc ->
   lH R 0 0 0 (.ptr e 0) acc (BB ok) ya (AA ts.length) (AA p) ⟨bs,tk⟩ QR:=by
 intro j
 induction j with
 | zero=>
  intro p out ok Bc bs tk d acc hi hseq hB hop hs hT N4 hd hacc hch hfr Jd;refine AEP (A2 ?_);rw[BF (by omega)];rw[Cj (by omega),G3] at hseq;subst hseq;exact BE (hK bs tk d acc hs hT hd hch hacc.A9)
 | succ j Et=>
  intro p out ok Bc bs tk d acc hi hseq hB hop hs hT N4 hd hacc hch hfr Jd;refine AEP (A2 ?_);rw[Aq (by omega)];obtain⟨c,hc⟩:∃c,ts[p]?=some c:=⟨_,Ap (by omega)⟩;have hrc:(Bq ts)[p]?=some (ren c):=by grind[Bf]
  have hrl:((Aa (ren c)).map AV.pv).length=4:=by grind[Ad]
  have hro:=Ct (ren c)
  have K6:Ab (bs.length+1) ((Aa (ren c)).map AV.pv)=true:=by
   obtain⟨k1,n1,i1,t1⟩:=ren c;rfl
  have Iv:=(A5.Bu (ren c)).Km;rw[Md] at hop;refine BP (AOs (CH Yr (row:=Aa (ren c)) (by omega) (by grind[BJ]) (Ad _) (by omega) (Di (Bi ?_))));rw[drop_cons hc,G3] at hseq;generalize (Aa (ren c)).map AV.pv=row at hrl hro K6 Iv;refine BZ (Am bs Z4) hrl rfl (by decide) (AK _) hro (.inl (AK _)) ?_;have e1:(bs++[Z4]).set bs.length row=bs++[row]:=by simp
  rw[e1];have hs1:Bj ⟨bs++[row],tk⟩:=Bj.app (s:=⟨bs,tk⟩) hs K6;have gr:=Am bs row;have eG:=(Gb N4 row).trans hT;have lb:(bs++[row]).length=bs.length+1:=by simp
  generalize bs++[row]=b1 at hs1 gr eG lb;have gE:(s0.bs.set e [d,AA Aj])[e]?=some [d,AA Aj]:=by rw[Fy he]
  have hfp:∀(l:List Ty) out ok B,B<+:(G3 ex l out ok B).2:=λl out ok B=>Oy gj l out ok B
  have gu:=ih c (BA hc) Bc hB;have hxc:=hxl c (BA hc) Bc;have hpre:=gj c Bc;rcases hg:ex c Bc with ⟨r,B1⟩
  rw[hg] at hseq gu hpre hxc;simp only at hseq gu hpre hxc;have VC:B1.length<=M:=by grind
  obtain⟨w2,s2',⟨d2,O5,q1,q2,q3,rfl⟩,q4⟩:=gu VC (.agg row) Iv ⟨b1,tk⟩ hs1 (Cu (env R) 44 0 0 0) d rfl rfl (D7 eG gE) hd;have R6:(b1.set e [d2,AA Aj]).take s0.bs.length=s0.bs.set e [d2,AA Aj]:=by simp[*,Gk]
  have MK:=q3.keep hacc Jd;have Ki:RU d2 acc:=Jd.WI q3 hacc;have Nr:=hch.trans q3
  have pick:∀(b:Bool) (s:AM) (K:AV->AM->Prop),K (BB (ok&&b)) s->Hs (BB ok) true s (λK=>K (BB b) s) λa40 s1=>Ay (BB ok) a40 (BB false) λa41=>K a41 s1:=by
   intro b s K hK;cases ok with
   | true=>grind[Ax,pk]
   | false=>grind[Bx,pk]
  refine Af gr hrl ⟨_,_,q4,?_⟩
  have go:∀(a2:AV) (b:Bool) (AJr:List Ty) (r2:List Ty),AJr=out++r2->r2.length<=Aj->BG a2 (AP (Bq r2))->G3 ex (ts.drop (p+1)) AJr (ok&&b) B1=o ->
    DC (.tuple [a2,BB b]) 0 λa33=>DC (.tuple [a2,BB b]) 1 λa34=>(4=4/\4≠0)/\EL false (Cu (env R) 44 0 0 0) ⟨b1.set e [d2,AA Aj],O5⟩ 25 4 56 acc a33 λa37 vX=>
     Hs (BB ok) true vX (λK=>K a34 vX) λa40 Yk=>Ay (BB ok) a40 (BB false) λa41=>lI R 0 0 0 (.ptr e 0) a37 a41 ya (AA ts.length) (AA p) Yk QR:=by
   intro a2 b AJr r2 ho2 Pt S1 hseq;subst ho2;refine CC rfl (CC rfl ⟨by decide,JV MK rfl (by grind[Bf]) S1 λacc' Q6 NP Un=>pick b _ (λa41 Yk=>lI R 0 0 0 (.ptr e 0) acc' a41 ya (AA ts.length) (AA p) Yk QR) (AOu (CO (by omega) (by omega) ?_))⟩);have er:Bq out++Bq r2=Bq (out++r2):=by simp[Bf]
   rw[er] at NP;have hd3:=Un.keep q2 Ki.symm;have Ym:=Nr.side Un hfr;have hs2:Bj ⟨b1.set e [d2,AA Aj],Q6⟩:=Bj.set (s:=⟨b1,tk⟩) hs1 (by simp[Ab,Ai,q2.A9.Ai]) _;have:=Et (p+1) (out++r2) (ok&&b) B1 (b1.set e [d2,AA Aj]) Q6 d2 acc' (by omega) hseq (hB.trans hpre) (by grind) hs2 R6 (by grind) hd3 NP Ym (hfr.WI Un Nr.1) (Ki.symm.WI Un q2).symm
   grind
  cases r with
  | none=>
   cases q1;exact go (.AB []) false out [] (by simp) (by simp) (.inl (.AB _)) (by grind)
  | some r=>
   obtain⟨a2,rfl,S1⟩:=q1
   grind
end
end Go.Proofs.YtpgfpakdnijngaaGreatDoor
