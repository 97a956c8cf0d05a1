/-
  Free variables, the program.
-/
import Derived.Test.YtpgfpakdnijngaaGreatDoorTE
import Derived.Test.YtpgfpakdnijngaaGreatDoorW1
import Derived.Test.YtpgfpakdnijngaaGreatDoorTD
set_option linter.all false
namespace Go.Proofs.YtpgfpakdnijngaaGreatDoor
open Go.Tel
attribute [local simp] Ia Mt Js KW ER Fh Eo wO setCells IM D5 DF Ce E2 alive DX KF Tl gY HW JM HI Ib Lr JN oY kj okB oZ oa oc od og fP oh oo oq ot ou ow oz o5 o6 o7 o8 okF o9 pE pF pG pH V7 pI Qm Qn Qo Qp pJ pK pL pM pN pO pP pQ pR pS Hu pT kn pU pV pW pX pY pZ pg pn pq pz Cp
mutual
def RE (u:Nat):Ty->List Int
 | .mk k _ i ts=>(bif k==5&&decide ((u:Int)<=i) then [i-u] else [])++Kq u k 0 ts
def Kq (u:Nat) (k:Int) (j:Nat):List Ty->List Int
 | []=>[]
 | t::l=>RE (u+EE k j) t++Kq u k (j+1) l
end
mutual
theorem P7:∀(t:Ty) (u:Nat),RE u t=[]<->CP u t=true
 | .mk k n i ts,u=>by
  rw[RE,CP];cases k==5&&decide ((u:Int)<=i) with
  | true=>simp
  | false=>simpa using Xl ts u k 0
theorem Xl:∀(l:List Ty) (u:Nat) (k:Int) (j:Nat),Kq u k j l=[]<->EF u k j l=true
 | [],_,_,_=>by simp[Kq,EF]
 | t::l,u,k,j=>by
  rw[Kq,EF,kA,P7 t,Xl l,AH]
end
mutual
theorem jC:∀(t:Ty) (u:Nat),(RE u t).length<=size t
 | .mk k n i ts,u=>by
  have:=mL ts u k 0
  grind[RE,size]
theorem mL:∀(l:List Ty) (u:Nat) (k:Int) (j:Nat),(Kq u k j l).length<=Ac l
 | [],_,_,_=>by simp[Kq]
 | t::l,u,k,j=>by
  have:=jC t (u+EE k j);have:=mL l u k (j+1)
  grind[Kq,Ac]
end
mutual
def ixs:Ty->Bool
 | .mk k _ i ts=>(!(k==5)||(decide (-(2 ^ 60)<=i)&&decide (i<2 ^ 60)))&&qd ts
def qd:List Ty->Bool
 | []=>true
 | t::l=>ixs t&&qd l
end
theorem jD {l:List Int} {w x:Int} {i:Nat}:x∈l.take i++w::l.drop i<->x∈l\/x=w:=by grind[List.take_append_drop]
theorem jE {l:List Int} {w:Int} {i:Nat} (hi:i<=l.length):(l.take i++w::l.drop i).length=l.length+1:=AB
theorem insert_sorted {l:List Int} {w:Int} {i:Nat} (hs:l.Pairwise (·<·)) (h1:∀u∈l.take i,u<w) (h2:∀u∈l.drop i,w<u):(l.take i++w::l.drop i).Pairwise (·<·):=by grind[List.pairwise_cons]
def NS (q:Nat) (l:List Int) (bs:List (List AV)):Prop:=∃x,bs[q]?=some [x]/\wq bs l x
structure fU (q:Nat) (l l':List Int) (new:List Int) (s s':AQ):Prop where
 ns:NS q l' s'.bs
 srt:l.Pairwise (·<·)->l'.Pairwise (·<·)
 mem:∀x,x∈l'<->x∈l\/x∈new
 len:l'.length<=l.length+new.length
 ts:s'.ts=s.ts
 grow:s.bs.length<=s'.bs.length
 keep:∀(p:Nat) (k n:AV) (r:List AV),(∀i,n≠AG i)->s.bs[p]?=some (k::n::r)->s'.bs[p]?=some (k::n::r)
section
variable {R:RT}
theorem dW {w:Int} {l:List Int} {x:AV} {s:AQ} {q i:Nat} (hq:s.bs[q]?=some [x]) (hx:wq s.bs l x) (hl:l.length<2 ^ 20) (hi:i<=l.length) {L:BL} (hro:L.ro=0) :
  ∃id bs',BW (env R) L 143 [x,AG i,.AE [[.sc (.int .i64 w)]]] s (.ref id 0 (l.length+1) 1) ⟨bs',s.ts⟩/\bs'[id]?=some ((l.take i++w::l.drop i).map λn=>AG n)/\bs'[q]?=some [x]/\q≠id/\s.bs.length<=bs'.length/\q<bs'.length /\
   (∀(p:Nat) (k n:AV) (r:List AV),(∀i,n≠AG i)->s.bs[p]?=some (k::n::r)->bs'[p]?=some (k::n::r)):=by
 have hql:q<s.bs.length:=(BH.1 hq).1;have ei:(AG i)=.pv (.sc (.int .i64 (.ofNat i))):=rfl;rcases hx with ⟨rfl,rfl⟩|⟨id,rfl,hid,hne⟩
 .have sw:i=0:=by grind
  subst sw;refine⟨s.bs.length,s.bs++[[AG w]],BW.mK Tryz.func143 AR (T:=bI) AR ?_,?_,?_,AA,AD,AB,?_⟩
  .rfl
  all_goals grind
 .have hil:id<s.bs.length:=(BH.1 hid).1
  have AYp:id≠q:=by
   intro e;subst e
   simp_all
  have h1:1<=l.length:=AB;refine⟨s.bs.length,s.bs.set id []++[(l.take i++w::l.drop i).map λn=>AG n],BW.mK Tryz.func143 AR (T:=bI) AR ?_,?_,?_,AA,AD,AB,?_⟩
  .have b1:Nat.beq l.length (l.map λn=>AG n).length=true:=by simp
   have b2:Nat.ble 1 l.length=true:=by simp[*]
   have b3:Nat.ble i l.length=true:=by simp[*]
   have b4:Nat.ble l.length 1000000000=true:=by simp; omega
   grind[Nat.ble,bI,BD,List.map_take,List.map_drop]
  .simp
  .rw[CT AB,GJ AYp,hq]
  .intro p k n r sD hp
   have Kt:p<s.bs.length:=(BH.1 hp).1
   have:id≠p:=by
    intro e;subst e;rw[hp] at hid;rcases l with _|⟨a,_|⟨b,l⟩⟩
    all_goals grind
   rw[CT AB,GJ this,hp]
theorem w8 {w:Int} {l:List Int} (hsd:l.Pairwise (·<·)) {s:AQ} {q:Nat} (hns:NS q l s.bs) (hl:l.length<2 ^ 20) {L:BL} (hro:L.ro=0) (hn0:L.n0=0) :
  ∃v s',(v=.tuple []/\∃l',fU q l l' [w] s s')/\BW (env R) L 118 [.ptr q 0,AG w] s v s':=by
 obtain⟨x,hq,hx⟩:=hns;have hql:q<s.bs.length:=(BH.1 hq).1;refine AYr (AIL (C1 (AX hq) (AO (AX hq) (AZ (off:=0) hq rfl ?_))));obtain⟨v,⟨i,b,rfl,hf⟩,hc⟩:=Zm (R:=R) (w:=w) hsd hx AA;refine⟨_,_,hc _,B9 rfl (B9 rfl (nt ?_))⟩;obtain⟨hi,hb,hfb⟩:=hf;cases b with
 | true=>
  refine Ay ⟨rfl,l,⟨x,hq,hx⟩,λh=>h,λy=>⟨.inl,?_⟩,AD,rfl,AY _,λ_ _ _ _ _ h=>h⟩
  grind
 | false=>
  obtain⟨h8,h9⟩:=hfb rfl;obtain⟨id,bs',h1,h2,h3,h4,h5,h6,h7⟩:=dW (R:=R) (w:=w) hq hx hl hi (L:=Ce (env R) 118 L.n0 L.ro L.rt) hro;refine A9 (C1 (AX hq) (AO (AX hq) (AZ (off:=0) hq rfl (Pv ?_))));refine⟨_,_,h1,C1 (AX h3) (AO (AX h3) (C2 h3 AD rfl (by simp[*]) rfl (.inl (by simp[*])) ?_))⟩;have qI:∀y,(bs'.set q y)[q]?=some y:=λy=>by grind
  refine⟨rfl,l.take i++w::l.drop i,⟨_,qI _,.inr ⟨id,by rw[jE hi],AB,AD⟩⟩,λhs=>insert_sorted hs h8 h9,λy=>?_,AB,rfl,AB,?_⟩
  all_goals grind[jD]
theorem fU.refl {q:Nat} {l:List Int} {s:AQ} (h:NS q l s.bs):fU q l l [] s s:=⟨h,λh=>h,AD,AD,rfl,AY _,λ_ _ _ _ _ h=>h⟩
theorem fU.trans {q:Nat} {l l1 l2 n1 n2:List Int} {s s1 s2:AQ} (h1:fU q l l1 n1 s s1) (h2:fU q l1 l2 n2 s1 s2):fU q l l2 (n1++n2) s s2:=by
 refine⟨h2.ns,λh=>h2.srt (h1.srt h),λx=>?_,?_,by rw[h2.ts,h1.ts],BK h1.grow h2.grow,λp k n r hn h=>h2.keep p k n r hn (h1.keep p k n r hn h)⟩
 .rw[h2.mem,h1.mem,B4]
  grind
 .have:=h1.len
  have:=h2.len
  grind
theorem fU.push {q:Nat} {l:List Int} {s:AQ} (h:NS q l s.bs) (b:List AV):fU q l l [] s ⟨s.bs++[b],s.ts⟩:=by
 obtain⟨x,hq,hx⟩:=h;have hql:q<s.bs.length:=(BH.1 hq).1;refine⟨⟨x,by rw[CT hql,hq],?_⟩,λh=>h,AD,AD,rfl,AD,λp k n r _ hp=>?_⟩
 .rcases hx with ⟨h1,h2⟩|⟨id,h1,h2,h3⟩
  .exact .inl ⟨h1,h2⟩
  .exact .inr ⟨id,h1,by rw[CT (BH.1 h2).1,h2],h3⟩
 grind
def w9 (R:RT) (t:Ty):Prop:=∀(x:AV),A7 t x->∀(u:Nat),u+size t<2 ^ 30->∀(q:Nat) (l:List Int) (s:AQ) (L:BL),l.Pairwise (·<·)->NS q l s.bs->l.length+size t<2 ^ 19->L.ro=0->L.n0=0 ->
 ∃v s',(v=.tuple []/\∃l',fU q l l' (RE u t) s s')/\BW (env R) L 87 [x,AG u,.ptr q 0] s v s'
theorem xA (n:List UInt8) (i:Int):SS n≠AG i:=AD
theorem qe {k0 i0:Int} {n0':List UInt8} {ts:List Ty} {a:AV} (ha:A2 a (Ad ts)) (hl:Ac ts<2 ^ 30) (ih:∀t∈ts,w9 R t) {u q b0:Nat} (hu:u+Ac ts+1<2 ^ 30) {l0:List Int} (hs0:l0.Pairwise (·<·)) {s0:AQ} {L:BL} (hro:L.ro=0) (hn0:L.n0=0) {Post:AV->AQ->Prop} {pre:List Int}
  (hP:∀l' s',fU q l0 l' (pre++Kq u k0 0 ts) s0 s'->Post (.tuple []) s') (hlen:l0.length+pre.length+Ac ts<2 ^ 19) :
  ∀(j i:Nat) (l:List Int) (s:AQ) (don:List Int),i+j=ts.length->s.bs[b0]?=some [AG k0,SS n0',AG i0,a]->fU q l0 l (pre++don) s0 s->don++Kq u k0 i (ts.drop i)=Kq u k0 0 ts->don.length+Ac (ts.drop i)<=Ac ts->ADu R L.n0 L.ro L.rt (AG u) (.ptr q 0) (.ptr b0 0) a (AG ts.length) (AG i) s Post:=by
 have Tn:=BV ts;intro j
 induction j with
 | zero=>
  intro i l s don hi hb hs hd _;refine ADv (Ao ?_);have h1:¬ ((i:Int)<ts.length):=AA;rw[Az h1];refine Ay ?_;have h2:ts.drop i=[]:=CH AA;rw[h2] at hd;simp only[Kq,HO] at hd;rw[hd] at hs;exact hP l s hs
 | succ j D1=>
  intro i l s don hi hb hs hd hsz;refine ADv (Ao ?_);have h1:((i:Int)<ts.length):=AA;rw[Ar h1];refine A9 (APj ?_);obtain⟨t,ht⟩:∃t,ts[i]?=some t:=⟨_,Au AA⟩;rw[drop_cons ht] at hd hsz;simp only[Kq,Ac] at hd hsz;refine BM ha (row:=Aj t) AA (by grind[BJ]) (Al t) AA (Ca ?_);have D4:=A7.Bi t;have QU:=Qr k0 i;have W7:=F6 (A3 ht);have APk:=ih t (A3 ht) _ D4 (u+EE k0 i) AA;have hrl:((Aj t).map AV.pv).length=4:=by grind[Al]
  have APl:=DE t;have MN:=M7 t;have hst:=fU.push hs.ns ((Aj t).map AV.pv);have hlb:=hs.len;simp only[Bd] at hlb;have hfl:=jC t (u+EE k0 i);generalize (Aj t).map AV.pv=row at APk hrl APl MN hst;obtain⟨bs,tk⟩:=s;refine Bj (Bq (Ax bs Z4) hrl rfl AI (by simp[*]) APl (.inl (by simp[*])) ?_);have e1:(bs++[Z4]).set bs.length row=bs++[row]:=AD;simp only at hst hb hs;rw[e1];have gb:=Ai hb row;refine Ag (Ax bs row) hrl (Ag gb rfl ?_);have aO:Af (env R) 119 [.agg [AG k0,SS n0',AG i0,a],AG i] λr=>r=AG (EE k0 i):=Ls ha i
  refine AL aO ?_;rintro _ rfl;refine Ba AA AA ?_;have e2:((u:Int)+(EE k0 i:Nat))=((u+EE k0 i:Nat):Int):=AA;rw[e2];obtain⟨v,s1,⟨rfl,l1,h3⟩,hc⟩:=APk q l ⟨bs++[row],tk⟩ (Ce (env R) 87 L.n0 L.ro L.rt) (hs.srt hs0) hst.ns AA hro hn0;refine⟨_,_,hc,Ag (Ax bs row) hrl MN,?_⟩;refine APm (Ba AA AA ?_);have hall:=(hs.trans hst).trans h3;simp only[HO,Du] at hall;have:=D1 (i+1) l1 s1 (don++RE (u+EE k0 i) t) AA (h3.keep _ _ _ _ (xA _) gb) hall AB AB
  grind
mutual
theorem Xm:∀(t:Ty),ixs t=true->w9 R t
 | .mk k n i ts,TN=>by
  intro x hx u hu q l s L hsd hns hl hro hn0;obtain⟨a,rfl,ha⟩:=hx;simp only[size] at hl hu;simp only[ixs,AH] at TN;have ih:=Uw ts TN.2
  suffices H:∀Post:AV->AQ->Prop,(∀l' s',fU q l l' (RE u (.mk k n i ts)) s s'->Post (.tuple []) s')->ADw R L.n0 L.ro L.rt (.agg [AG k,SS n,AG i,a]) (AG u) (.ptr q 0) s Post from
   m87 (H _ λl' s' h=>⟨rfl,l',h⟩)
  intro Post hP;have hst:=fU.push hns [AG k,SS n,AG i,a];have g0:=Ax s.bs [AG k,SS n,AG i,a];refine APn (Bx (cs:=[AG k,SS n,AG i,a]) rfl (by simp[ha.ok]) (AO (AX g0) (AZ (off:=0) g0 rfl (A0 ?_))))
  have tail:∀(pre l1:List Int) (s1:AQ),fU q l l1 pre s s1->pre++Kq u k 0 ts=RE u (.mk k n i ts)->pre.length<=1->s1.bs[s.bs.length]?=some [AG k,SS n,AG i,a]->ADx R L.n0 L.ro L.rt (AG u) (.ptr q 0) (.ptr s.bs.length 0) s1 Post:=by
   intro pre l1 s1 h1 h2 h3 h4;refine APo (AO (AX h4) (AZ (off:=3) h4 rfl (Aq (n:=ts.length) (by rw[ha.BA,Aa]) ?_)));exact qe (R:=R) (q:=q) (l0:=l) (s0:=s) (L:=L) (pre:=pre) (Post:=Post) ha AA ih AA hsd hro hn0 (λl' s' h=>hP l' s' AB) AA ts.length 0 l1 s1 [] AA h4 AB AD AD
  cases hk:(k==5) with
  | true=>
   have e2:k=5:=AB;subst e2;have AYs:=TN.1;simp at AYs;refine Ak (AO (AX g0) (Ak (AZ (off:=2) g0 rfl (Ak (Ak (Ko (pk ?_)))))))
   by_cases hui:(u:Int)<=i
   .have:i>=(u:Int):=hui
    rw[Ar this];refine A9 (AO (AX g0) (AZ (off:=2) g0 rfl (Hf AA AA ?_)));refine Cs (w8 (R:=R) (w:=i-u) (q:=q) (s:=⟨s.bs++[[AG 5,SS n,AG i,a]],s.ts⟩) (l:=l) (L:=Ce (env R) 87 L.n0 L.ro L.rt) hsd hst.ns AA hro hn0) ?_;rintro v s1 ⟨rfl,l1,h1⟩;refine tail [i-u] l1 s1 ?_ ?_ AD (h1.keep _ _ _ _ (xA _) g0)
    .simpa using hst.trans h1
    grind[RE]
   grind[Ay,RE]
  | false=>
   grind[B8,pk,Ay,RE]
theorem Uw:∀(l:List Ty),qd l=true->∀t∈l,w9 R t
 | [],_,_,h=>by cases h
 | e::l,TN,a,h=>by
  simp only[qd,AH] at TN;rcases A5.1 h with h' | h'
  .rw[h']
   exact Xm e TN.1
  .exact Uw l TN.2 a h'
end
theorem wq.closed {bs:List (List AV)} {l:List Int} {x:AV} (h:wq bs l x):∃x',close bs 0 0 x=some x'/\A2 x' (Ab l):=by
 rcases h with ⟨rfl,rfl⟩|⟨id,rfl,hid,hne⟩
 .exact⟨.AE [],AR,by simp[Ab]; exact .AE _⟩
 .have hpv:∀l:List Int,Cp (l.map λn=>AG n)=some (l.map λw=>PV.sc (.int .i64 w)):=by
   intro l
   induction l with
   | nil=>rfl
   | cons w l ih=>simp[*]
  have hrb:∀l:List Int,CI 1 l.length (l.map λw=>PV.sc (.int .i64 w))=Ab l:=by
   intro l
   induction l with
   | nil=>rfl
   | cons w l ih=>grind[CI,Ab]
  have xB:(l.map λn=>AG n).isEmpty=false:=by simp[*]
  refine⟨.pv (.list (Ab l)),?_,.list _⟩
  grind[close,KL]
theorem WJ {t:Ty} (h:size t<2 ^ 18) (TN:ixs t=true) {x:AV} (hx:A7 t x):Af (env R) 43 [x] λr=>∃l:List Int,A2 r (Ab l)/\l.Pairwise (·<·)/\(∀w,w∈l<->w∈RE 0 t):=by
 have hc:=Xm (R:=R) t TN x hx 0 AA 1 [];have hle:=jC t 0;generalize hn:RE 0 t=N at *;generalize size t=z at *;obtain⟨k,n,i,ts⟩:=t;obtain⟨a,rfl,ha⟩:=hx;refine e43 (u0:=.agg [AG k,SS n,AG i,a]) (by simp[ha.close]) (APp ?_);refine Bx (cs:=[AG k,SS n,AG i,a]) rfl (by simp[ha.ok]) (Bj (Ag (cs:=[AG k,SS n,AG i,a]) rfl rfl ?_));refine Cs (hc ⟨[[AG k,SS n,AG i,a],[.AE []]],[]⟩ (Ce (env R) 43 0 0 0) List.Pairwise.nil ⟨.AE [],rfl,.inl ⟨rfl,rfl⟩⟩ AB rfl rfl) ?_;rintro v s1 ⟨rfl,l',h1⟩;obtain⟨y,hy,hw⟩:=h1.ns;obtain⟨y',Ff,hr⟩:=hw.closed;refine AO ?_ (AZ (off:=0) hy rfl ?_)
 .simp[*]
 .exact⟨y',Ff,l',hr,h1.srt List.Pairwise.nil,λw=>by rw[h1.mem]; simp⟩
end
theorem dX:∀l:List UInt8,Op.bytesLess l l=false
 | []=>rfl
 | c::l=>by
  rw[Op.bytesLess,dX l];simp
theorem AIM {a b:List UInt8} {K:AV->Prop} (h:K (BB (Op.bytesLess a b))):KF .lss (SS a) (SS b) K:=h
theorem AIN {a b:List UInt8} {K:AV->Prop} (h:K (BB (!(Op.bytesLess a b||(a==b))))):KF .gtr (SS a) (SS b) K:=h
theorem AIO {a b:List UInt8} {K:AV->Prop} (h:K (BB (!(a==b)))):KF .neq (SS a) (SS b) K:=h
def mM:List Int->Int
 | []=>0
 | c::l=>bif c==0 then mM l else c
theorem dY:∀l:List Int,mM l=0<->∀c∈l,c=0
 | []=>by simp[mM]
 | c::l=>by
  rw[mM];cases h:c==0 with
  | true=>
   have:c=0:=AB;simp[dY l,this]
  | false=>
   simp_all
section
variable {R:RT}
theorem Ux (w:List UInt8):Af (env R) 153 [SS w] λr=>r=BB false:=
 AYt (u0:=SS w) AD (AIP (AIO ⟨_,Hu,AD⟩))
theorem RF (a b:Int):Af (env R) 132 [AG a,AG b] λr=>∃c:Int,r=AG c/\(c=0<->a=b):=by
 refine AYu (u0:=AG a) (u1:=AG b) AD (AIQ ?_);refine AL (RD a) ?_;rintro v rfl;refine AL (RD b) ?_;rintro v rfl;refine Ay (AIR (Ay (AIS (Ao ?_))))
 by_cases h1:a<b
 .rw[Ar h1]
  exact A9 ⟨_,Hu,-1,rfl,AA⟩
 .rw[Az h1]
  refine Ay (AIT (F8 ?_))
  by_cases h2:a>b
  .rw[Ar h2]
   exact A9 ⟨_,Hu,1,rfl,AA⟩
  .rw[Az h2]
   exact Ay (AIU ⟨_,Hu,0,rfl,AA⟩)
theorem qf (a b:List UInt8):Af (env R) 133 [SS a,SS b] λr=>∃c:Int,r=AG c/\(c=0<->a=b):=by
 refine AYv (u0:=SS a) (u1:=SS b) AD (AIV ?_);refine AL (Ux a) ?_;rintro v rfl;refine AL (Ux b) ?_;rintro v rfl;refine Ay (AIW (Ay (AIX (AIM ?_))));cases h1:Op.bytesLess a b with
 | true=>
  refine A9 ⟨_,Hu,-1,rfl,?_⟩
  grind[dX]
 | false=>
  refine Ay (AIY (AIN ?_));rw[h1];cases h2:(a==b) with
  | true=>exact Ay (AIZ ⟨_,Hu,0,rfl,AB⟩)
  | false=>exact A9 ⟨_,Hu,1,rfl,AB⟩
theorem ABV {l:List Int} {y:AV} (hy:BE y (Ab l)) (hl:l.length<2 ^ 40) {Post:AV->Prop} (hP:Post (AG (mM l))) :
  ∀(j p:Nat) (s:AQ),p+j=l.length->mM (l.drop p)=mM l->xC R 0 0 0 (AG 0) y (AG l.length) (AG p) s (QP Post):=by
 intro j
 induction j with
 | zero=>
  intro p s hi ho;refine xD (Ao ?_);rw[Az AA];rw[CH AA,mM] at ho;exact Ay (AIa ⟨_,Hu,AB⟩)
 | succ j D1=>
  intro p s hi ho;refine xD (Ao ?_);rw[Ar AA];obtain⟨c,hc⟩:∃c,l[p]?=some c:=⟨_,Au AA⟩;rw[drop_cons hc,mM] at ho;refine A9 (AIb (BS hy (row:=[.sc (.int .i64 c)]) AA (by grind[Ab]) rfl AA (Dy (EM ?_))));cases h:c==0 with
  | true=>
   have:(c != 0)=false:=AB;rw[this];rw[h] at ho;refine Ay (AIc (Ba AA AA ?_));have:=D1 (p+1) s AA ho
   grind
  | false=>
   have:(c != 0)=true:=AB;rw[this];rw[h] at ho;exact A9 ⟨_,Hu,AB⟩
theorem ABW {l:List Int} {y:AV} (hy:A2 y (Ab l)) (hl:l.length<2 ^ 40):Af (env R) 131 [y] λr=>r=AG (mM l):=by
 refine AYw (u0:=y) (by simp[BR,hy.close]) (AId (Aq (n:=l.length) (by rw[hy.BA,BF]) ?_));exact ABV (Post:=λr=>r=AG (mM l)) (.inl hy) hl rfl l.length 0 _ AA rfl
theorem AYx {a b c d:Int} {s:AQ} {K:AV->AQ->Prop} (h:K (.AE (Ab [a,b,c,d])) s):HJ false s 1 [(AG 0)] 4 [(0,1,AG a),(1,1,AG b),(2,1,AG c),(3,1,AG d)] K:=by
 simp[HJ,Fu,CI];exact h
theorem qg {k i k' i':Int} {n n':List UInt8} {ts ts':List Ty} {a a':AV} (ha:A2 a (Ad ts)) (Nd:A2 a' (Ad ts')) (hl:ts.length<2 ^ 40) (he:ts.length=ts'.length)
  (ih:∀t∈ts,∀(t':Ty) (x x':AV),A7 t x->A7 t' x'->Af (env R) 104 [x,x'] λr=>∃c:Int,r=AG c/\(c=0<->t=t')) {s:AQ} (g0:s.bs[0]?=some [AG k,SS n,AG i,a]) (g1:s.bs[1]?=some [AG k',SS n',AG i',a']) {Post:AV->Prop} (hP:∀c:Int,(c=0<->ts=ts')->Post (AG c)) :
  ∀(j p:Nat) (c:Int),p+j=ts.length->(c=0->ts.take p=ts'.take p)->(c≠0->ts≠ts')->jF R 0 0 0 (.ptr 0 0) (.ptr 1 0) (AG c) (AG p) s (QP Post):=by
 intro j
 have done:∀(p:Nat) (c:Int),c≠0->(c≠0->ts≠ts')->jF R 0 0 0 (.ptr 0 0) (.ptr 1 0) (AG c) (AG p) s (QP Post):=by
  intro p c hc h;refine Zn (A0 ?_);have:(c==0)=false:=AB;rw[this];exact B8 (B8 (B8 (B8 (B8 (pk (Ay (jG ⟨_,Hu,hP c AB⟩)))))))
 induction j with
 | zero=>
  intro p c hi h0 h1
  by_cases hc:c=0
  .subst hc
   refine Zn (A0 (Ak (Ak (AO (AX g0) (Ak (AZ (off:=3) g0 rfl (Ak (Aq (n:=ts.length) (by rw[ha.BA,Aa]) (Ak (Ao (pk ?_)))))))))));rw[Az AA];have:=h0 rfl;rw[CU AA,CU AA] at this;exact Ay (jG ⟨_,Hu,hP 0 AB⟩)
  grind
 | succ j D1=>
  intro p c hi h0 h1
  by_cases hc:c=0
  .subst hc
   refine Zn (A0 (Ak (Ak (AO (AX g0) (Ak (AZ (off:=3) g0 rfl (Ak (Aq (n:=ts.length) (by rw[ha.BA,Aa]) (Ak (Ao (pk ?_)))))))))));rw[Ar AA];obtain⟨t,ht⟩:∃c,ts[p]?=some c:=⟨_,Au AA⟩;obtain⟨t',ht'⟩:∃c,ts'[p]?=some c:=⟨_,Au AA⟩;have hpre:=h0 rfl;refine A9 (AIe (AO (AX g0) (AZ (off:=3) g0 rfl (BM ha (row:=Aj t) AA (by grind[BJ]) (Al _) AA (Ca (AO (AX g1) (AZ (off:=3) g1 rfl (BM Nd (row:=Aj t') AA (by grind[BJ]) (Al _) AA (Ca ?_)))))))));refine AL (ih t (A3 ht) t' _ _ (A7.Bi t) (A7.Bi t')) ?_;rintro v ⟨c,rfl,hcc⟩;refine AIf (Ba AA AA ?_);have:=D1 (p+1) c AA (λh=>by grind[List.take_add_one]) (λh e=>by grind)
   grind
  grind
mutual
theorem Xn:∀(t:Ty),size t<2 ^ 38->∀(t':Ty) (x x':AV),A7 t x->A7 t' x'->Af (env R) 104 [x,x'] λr=>∃c:Int,r=AG c/\(c=0<->t=t')
 | .mk k n i ts,h,.mk k' n' i' ts',x,x',hx,hx'=>by
  obtain⟨a,rfl,ha⟩:=hx;obtain⟨a',rfl,Nd⟩:=hx';simp only[size] at h;have ih:=Uy ts AA;have hts:=BV ts
  suffices H:∀Post:AV->Prop,(∀c:Int,(c=0<->Ty.mk k n i ts=Ty.mk k' n' i' ts')->Post (AG c))->xE R 0 0 0 (.agg [AG k,SS n,AG i,a]) (.agg [AG k',SS n',AG i',a']) ⟨[],[]⟩ (QP Post) from
   AYy (u0:=.agg [AG k,SS n,AG i,a]) (u1:=.agg [AG k',SS n',AG i',a']) (by simp[ha.close,Nd.close]) (H _ λc hc=>⟨c,rfl,hc⟩)
  intro Post hP;simp only[Ty.mk.injEq] at hP;refine AIg (Bx (cs:=[AG k,SS n,AG i,a]) rfl (by simp[ha.ok]) (Bx (cs:=[AG k',SS n',AG i',a']) rfl (by simp[Nd.ok]) ?_));simp only[Cm,Bz,DH,Bt,CQ];have g0:(AQ.mk [[AG k,SS n,AG i,a],[AG k',SS n',AG i',a']] []).bs[0]?=some [AG k,SS n,AG i,a]:=rfl;have g1:(AQ.mk [[AG k,SS n,AG i,a],[AG k',SS n',AG i',a']] []).bs[1]?=some [AG k',SS n',AG i',a']:=rfl;generalize AQ.mk [[AG k,SS n,AG i,a],[AG k',SS n',AG i',a']] []=s at g0 g1;have sa:=BE.Dg (es:=ts) (.inl ha);have sa':=BE.Dg (es:=ts') (.inl Nd);have la:∀(s:AQ) (K:AV->Prop),K (AG ts.length)->HI s a K:=λs K h=>Aq (n:=ts.length) (by rw[ha.BA,Aa]) h
  have la':∀(s:AQ) (K:AV->Prop),K (AG ts'.length)->HI s a' K:=λs K h=>Aq (n:=ts'.length) (by rw[Nd.BA,Aa]) h
  have eqs:∀w:List UInt8,Tel.Dg (SS w) (SS w)=true:=λw=>by simp[Tel.Dg,NZ,IP]
  have eqi:∀w:Int,Tel.Dg (AG w) (AG w)=true:=λw=>by simp[Tel.Dg,NZ,FQ]
  have fa0:∀d,E2 s (.ptr 0 0) d λv=>Tel.Dg v (.ptr 0 (0+d))=true:=λd=>AO (AX g0) (EA _ _)
  have fa1:∀d,E2 s (.ptr 1 0) d λv=>Tel.Dg v (.ptr 1 (0+d))=true:=λd=>AO (AX g1) (EA _ _)
  refine AO (AX g0) (AZ (off:=0) g0 rfl (AO (AX g1) (AZ (off:=0) g1 rfl ?_)));refine AL (RF k k') ?_;rintro v ⟨c1,rfl,h1⟩;refine AO (AX g0) (AZ (off:=1) g0 rfl (AO (AX g1) (AZ (off:=1) g1 rfl ?_)));refine AL (qf n n') ?_;rintro v ⟨c2,rfl,h2⟩;refine AO (AX g0) (AZ (off:=2) g0 rfl (AO (AX g1) (AZ (off:=2) g1 rfl ?_)));refine AL (RF i i') ?_;rintro v ⟨c3,rfl,h3⟩;refine AO (AX g0) (AZ (off:=3) g0 rfl (la _ _ (AO (AX g1) (AZ (off:=3) g1 rfl (la' _ _ ?_)))));refine AL (RF ts.length ts'.length) ?_;rintro v ⟨c4,rfl,h4⟩;refine AYx (AL (ABW (l:=[c1,c2,c3,c4]) (.AE _) AD) ?_);rintro v rfl;refine⟨fa0 1,AZ (off:=1) g0 rfl (eqs n),fa1 1,AZ (off:=1) g1 rfl (eqs n'),fa0 2,fa0 2,AZ (off:=2) g0 rfl (eqi i),AZ (off:=2) g0 rfl (eqi i),fa1 2,fa1 2,AZ (off:=2) g1 rfl (eqi i'),AZ (off:=2) g1 rfl (eqi i'),fa0 3,fa0 3,fa0 3,AZ (off:=3) g0 rfl sa,AZ (off:=3) g0 rfl sa,AZ (off:=3) g0 rfl sa,la _ _ (eqi _),la _ _ (eqi _),la _ _ (eqi _),fa1 3,fa1 3,fa1 3,AZ (off:=3) g1 rfl sa',AZ (off:=3) g1 rfl sa',AZ (off:=3) g1 rfl sa',la' _ _ (eqi _),la' _ _ (eqi _),la' _ _ (eqi _),?_⟩
  have hz:mM [c1,c2,c3,c4]=0<->(k=k'/\n=n'/\i=i'/\ts.length=ts'.length):=by
   rw[dY];simp only[A5,Ep,Er,forall_eq_or_imp,forall_eq,h1,h2,h3,h4]
   grind
  by_cases hall:k=k'/\n=n'/\i=i'/\ts.length=ts'.length
  .obtain⟨rfl,rfl,rfl,hle⟩:=hall
   have h0:=hz.2 ⟨rfl,rfl,rfl,hle⟩;exact qg ha Nd AA hle ih g0 g1 (λc hc=>hP c AB) ts.length 0 _ AA (λ_=>rfl) (λh=>absurd h0 h)
  .have hne:mM [c1,c2,c3,c4]≠0:=λh=>hall (hz.1 h)
   generalize mM [c1,c2,c3,c4]=c at hne;refine Zn (A0 ?_);have:(c==0)=false:=AB;rw[this];exact B8 (B8 (B8 (B8 (B8 (pk (Ay (jG ⟨_,Hu,hP c AB⟩)))))))
theorem Uy:∀(l:List Ty),Ac l<2 ^ 38->∀t∈l,∀(t':Ty) (x x':AV),A7 t x->A7 t' x'->Af (env R) 104 [x,x'] λr=>∃c:Int,r=AG c/\(c=0<->t=t')
 | [],_,_,h=>by cases h
 | e::l,h,t,hm=>by
  simp only[Ac] at h;rcases A5.1 hm with h' | h'
  .rw[h']
   exact Xn e AA
  .exact Uy l AA t h'
end
theorem jH {t t':Ty} {x x':AV} (h:size t<2 ^ 38) (hx:A7 t x) (hx':A7 t' x'):Af (env R) 63 [x,x'] λr=>∃b:Bool,r=BB b/\(b=true<->t=t'):=by
 have hc:=Xn (R:=R) t h t' x x' hx hx';obtain⟨k,n,i,ts⟩:=t;obtain⟨k',n',i',ts'⟩:=t';obtain⟨a,rfl,ha⟩:=hx;obtain⟨a',rfl,Nd⟩:=hx';refine e63 (u0:=.agg [AG k,SS n,AG i,a]) (u1:=.agg [AG k',SS n',AG i',a']) (by simp[ha.close,Nd.close]) (APq ?_);refine Bx (cs:=[AG k,SS n,AG i,a]) rfl (by simp[ha.ok]) (Bx (cs:=[AG k',SS n',AG i',a']) rfl (by simp[Nd.ok]) (Ag (cs:=[AG k,SS n,AG i,a]) rfl rfl (Ag (cs:=[AG k',SS n',AG i',a']) rfl rfl ?_)));refine AL hc ?_;rintro v ⟨c,rfl,h⟩;exact A0 ⟨_,Hu,c==0,rfl,AB⟩
end
def EB (lo:Nat) (bs:List (List AV)) (l:List Br) (a:AV):Prop:=(a=.AE []/\l=[])\/∃id rows,lo<=id/\a=.ref id 0 l.length 5/\bs[id]?=some (List.flatten rows)/\CB (λb row=>CG b (.agg row)) l rows/\l≠[]
theorem CG.cells {b:Br} {row:List AV} (h:CG b (.agg row)):row.length=5/\row.all BD=true/\∀n,Ah n row=true:=by
 obtain⟨a,y,hy,ha,ht⟩:=h;cases hy;obtain⟨h1,h2,h3⟩:=ht.cells;exact⟨AB,by simp only[HP,ha.ok,h2]; rfl,λn=>by simp[Ah,ha.Aw,h3]⟩
theorem CG.agg {b:Br} {x:AV} (h:CG b x):∃row,x=.agg row:=by
 obtain⟨a,y,rfl,_⟩:=h;simp
theorem ID {l:List Br} {rows:List (List AV)} (h:CB (λb row=>CG b (.agg row)) l rows):rows.flatten.length=l.length*5/\rows.flatten.all BD=true/\∀n,Ah n rows.flatten=true:=by
 induction l generalizing rows with
 | nil=>
  cases rows with
  | nil=>exact⟨rfl,rfl,λ_=>rfl⟩
  | cons _ _=>exact h.elim
 | cons b l ih=>
  cases rows with
  | nil=>exact h.elim
  | cons row rows=>
   obtain⟨h1,h2⟩:=h;obtain⟨c1,c2,c3⟩:=h1.cells;obtain⟨i1,i2,i3⟩:=ih h2;refine⟨AB,AB,λn=>?_⟩;rw[NM]
   have gen:∀(a b:List AV),Ah n a=true->Ah n b=true->Ah n (a++b)=true:=by
    intro a
    induction a with
    | nil=>simp
    | cons x a jI=>
     grind[Ah]
   grind
theorem EB.BA {lo:Nat} {s:AQ} {l:List Br} {a:AV} (h:EB lo s.bs l a):BA s a=some l.length:=by
 rcases h with ⟨rfl,rfl⟩|⟨id,rows,h1,rfl,h2,h3,h4⟩
 .rfl
 .obtain⟨c1,_,_⟩:=ID h3
  have hal:alive s id=true:=by
   have:rows.flatten≠[]:=by
    intro h;rw[h] at c1;cases l with
    | nil=>grind
    | cons _ _=>grind
   obtain⟨c,r,hc⟩:=NU this;simp[*]
  grind[Tel.BA]
theorem EB.mono {lo lo':Nat} {bs bs':List (List AV)} {l:List Br} {a:AV} (h:EB lo bs l a) (hl:lo'<=lo) (hb:∀j c,lo<=j->bs[j]?=some c->bs'[j]?=some c):EB lo' bs' l a:=by
 rcases h with h|⟨id,rows,h1,h2,h3,h4,h5⟩
 .exact .inl h
 .exact .inr ⟨id,rows,BK hl h1,h2,hb id _ h1 h3,h4,h5⟩
theorem L9 {b:Br} {row:List AV} (h:CG b (.agg row)) {s:AQ} {K:AV->AQ->Prop} (hK:K (.ref s.bs.length 0 1 5) ⟨s.bs++[row],s.ts⟩):HJ true s 5 [(.AE []),(AG 0),(SS []),(AG 0),(.AE [])] 1 [(0,5,.agg row)] K:=by
 obtain⟨a,y,hy,ha,ht⟩:=h;cases hy;rcases Yp:b.body with ⟨k,n,i,ts⟩
 rw[Yp] at ht;obtain⟨a2,hy,SH⟩:=ht;cases hy;simp[HJ,Fu,CI,ha.ok,SH.ok];omega
theorem jJ {L:BL} {s:AQ} {lo id':Nat} {a:AV} {l:List Br} {b:Br} {row:List AV} (hr:CG b (.agg row)) (hid:s.bs[id']?=some row) (ha:EB lo s.bs l a) (hro:L.ro=0) (hl:l.length<2 ^ 30) {K:AV->AQ->Prop}
  (h:∀a' bs',EB lo bs' (l++[b]) a'->(∀j c,(∀n,a≠.ref j 0 n 5)->s.bs[j]?=some c->bs'[j]?=some c)->s.bs.length<=bs'.length->(BI s->BI ⟨bs',s.ts⟩)->(lo<=s.bs.length->K a' ⟨bs',s.ts⟩)) (hlo:lo<=s.bs.length) :
  Ik true L s 45 5 80 a (.ref id' 0 1 5) K:=by
 obtain⟨c1,c2,c3⟩:=hr.cells
 have hal:alive s id'=true:=by
  obtain⟨c,r,hc⟩:=NU (l:=row) AB;simp[*]
 have hsrc:C6 s 5 (.ref id' 0 1 5)=some row:=by grind[C6]
 unfold Ik;rw[hsrc];obtain⟨c,cs,hc⟩:=NU (l:=row) AB;subst hc;simp only[wO];have hdiv:(c::cs).length / 5=1:=by rw[c1]
 rw[hdiv];refine⟨c2,?_⟩;rcases ha with ⟨rfl,rfl⟩|⟨id,rows,h1,rfl,h2,h3,h4⟩
 .refine⟨⟨AD,AD,AD⟩,?_⟩
  simp only[AM,List.flatten_nil,Co,Cm];refine h (.ref s.bs.length 0 1 5) (s.bs++[c::cs]) (.inr ⟨s.bs.length,[c::cs],hlo,rfl,AD,⟨hr,Ap⟩,AD⟩) (λj c _ hj=>Ai hj _) AD (λhs=>BI.app (s:=s) hs (c3 _)) hlo
 .obtain⟨r1,r2,r3⟩:=ID h3
  have Sr:=(BH.1 h2).1
  have AIh:alive s id=true:=by
   have:rows.flatten≠[]:=by
    intro h;rw[h] at r1;cases l with
    | nil=>grind
    | cons _ _=>grind
   obtain⟨c,r,hc⟩:=NU this
   simp_all
  simp only[h2];refine⟨⟨Ap,Ap,AA,AIh,AA,AA,AA⟩,?_⟩;have et:rows.flatten.take (l.length*5)=rows.flatten:=CU AA;rw[et];have qh:CB (λb row=>CG b (.agg row)) (l++[b]) (rows++[c::cs]):=CB.append h3 ⟨hr,Ap⟩;refine h (.ref s.bs.length 0 (l.length+1) 5) (s.bs.set id []++[rows.flatten++(c::cs)]) (.inr ⟨s.bs.length,rows++[c::cs],hlo,AD,?_,qh,AD⟩) (λj c hn hj=>?_) AD (λhs=>?_) hlo
  .simp
  .grind
  .have h5:BI ⟨s.bs.set id [],s.ts⟩:=BI.set (s:=s) hs AR _
   refine BI.app (s:=⟨s.bs.set id [],s.ts⟩) h5 ?_
   have gen:∀n (a b:List AV),Ah n a=true->Ah n b=true->Ah n (a++b)=true:=by
    intro n a
    induction a with
    | nil=>simp
    | cons x a jI=>
     grind[Ah]
   grind
section
variable {R:RT}
theorem CG.closed {b:Br} {x:AV} (h:CG b x):∃x',BR [] 0 0 [x]=some [x']/\BR [] 0 0 [x']=some [x']/\MX b x':=by
 obtain⟨a,y,rfl,ha,ht⟩:=h;rcases hb:b.body with ⟨k,n,i,ts⟩
 rw[hb] at ht;obtain⟨a2,hy,SH⟩:=ht;cases hy;obtain⟨a',h1,h2⟩:=ha.closed [] 0;obtain⟨a2',h3,h4⟩:=SH.closed [] 0;refine⟨.agg [a',AG k,SS n,AG i,a2'],by simp[*],by simp[h2.close,h4.close],?_⟩;exact⟨a',[AG k,SS n,AG i,a2'],rfl,h2,by rw[hb]; exact⟨a2',rfl,h4⟩⟩
theorem Oe {b:Br} (h:size b.body<2 ^ 38) (hl:b.bounds.length<2 ^ 38) (hc:(Ae b.body).length<2 ^ 40) {x:AV} (hx:CG b x):Af (env R) 46 [x] λr=>r=BB (decide (b.bounds.length<=6)&&decide ((Ae b.body).length<=3)):=by
 obtain⟨x',h1,h2,h3⟩:=hx.closed;exact Af.open (args':=[x']) AR AR rfl h1 h2 (Px h hl hc h3)
theorem I7 {b:Br} (h:size b.body<2 ^ 38) (hc:(Ae b.body).length<2 ^ 40) {x:AV} (hx:CG b x):Af (env R) 23 [x] λr=>A2 r (Ab (Ae b.body)):=by
 obtain⟨x',h1,h2,h3⟩:=hx.closed;exact Af.open (args':=[x']) AR AR rfl h1 h2 (FV h hc h3)
end
section
variable {R:RT}
theorem xF {α:Type} {row:α->List PV} (hrow:∀a,(row a).length=4) {f:FuncId} {cs:List AV} {g:α->Bool} {ts:List α} {y:AV} (hy:BE y (ts.map row)) (hl:ts.length<2 ^ 60) {s:AQ} (hf:∀t∈ts,∀L,BW (env R) L f (.agg ((row t).map .pv)::cs) s (BB (g t)) s) {n0 ro rt:Nat} {QR:QT} :
  ∀(j q:Nat),q+j=ts.length->(∀i:Int,decide (0<=i)=(ts.drop q).any g->QR (AG i) s)->Y8 R n0 ro rt y (.func (.func f) [] cs) (AG ts.length) (AG q) s QR:=by
 intro j
 induction j with
 | zero=>
  intro q hi hP;refine Qu (Ao ?_);rw[Az AA];refine Ay (gv ?_);have h2:ts.drop q=[]:=CH AA;rw[h2] at hP;exact hP (-1) AD
 | succ j D1=>
  intro q hi hP;refine Qu (Ao ?_);rw[Ar AA];refine A9 (gw ?_);obtain⟨t,ht⟩:∃t,ts[q]?=some t:=⟨_,Au AA⟩;rw[drop_cons ht] at hP;refine BS hy (row:=row t) AA (by simp[ht]) (hrow t) AA ?_;have hc:=hf t (A3 ht)
  have e4:∀K:AV->Prop,K (.agg ((row t).map .pv))->D5 (env R) s (some 4) (.Cw (row t) 0) K:=by
   intro K hK;simp only[D5,DF,JC];refine⟨by rw[Bm,hrow]; omega,?_⟩;rw[CU (by rw[Bm,hrow]; omega)];exact hK
  refine e4 _ ?_;refine⟨BB (g t),s,hc _,?_⟩;cases hg:g t with
  | true=>grind[A9]
  | false=>
   refine Ay (hO (Ba AA AA ?_));exact D1 (q+1) AA AB
theorem WL {α:Type} {row:α->List PV} (hrow:∀a,(row a).length=4) {f:FuncId} {cs:List AV} {g:α->Bool} {ts:List α} {y:AV} (hy:BE y (ts.map row)) (hl:ts.length<2 ^ 60) {s:AQ} (hs:BI s) (hcs:DK cs=false) (hf:∀t∈ts,∀L,BW (env R) L f (.agg ((row t).map .pv)::cs) s (BB (g t)) s) (L:BL) :
  BW (env R) L 94 [y,.func (.func f) [] cs] s (BB (ts.any g)) s:=by
 have hi:∀L,∃i:Int,decide (0<=i)=ts.any g/\BW (env R) L 125 [y,.func (.func f) [] cs] s (AG i) s:=by
  intro L
  obtain⟨v,s',⟨i,rfl,rfl,h⟩,hc⟩:=AOd (R:=R) (L:=L) (s:=s) (t0:=y) (t1:=.func (.func f) [] cs) (Post:=λv s'=>∃i:Int,v=AG i/\s'=s/\decide (0<=i)=ts.any g) (by grind[DK,Fx]) (hY (Aq (n:=ts.length) (by rw[hy.BA,Bm]) (xF hrow hy hl hf ts.length 0 AA λi h=>by
   have:=JR (rr:=L.rr 125) hs (m:=[]) (p:=.sc (.int .i64 i)) (Post:=λv s'=>∃i:Int,v=AG i/\s'=s/\decide (0<=i)=ts.any g) ⟨i,rfl,rfl,AB⟩
   simp_all)))
  grind
 obtain⟨v,s',⟨rfl,rfl⟩,hc⟩:=m94 (R:=R) (L:=L) (s:=s) (t0:=y) (t1:=.func (.func f) [] cs) (Post:=λv s'=>v=BB (ts.any g)/\s'=s) (by grind[DK,Fx]) (ue (by
  obtain⟨i,h,hc⟩:=hi (Ce (env R) 94 0 L.ro L.rt);refine⟨AG i,s,hc,Ko ?_⟩;have:=JR (rr:=L.rr 94) hs (m:=[]) (p:=.sc (.bool (ts.any g))) (Post:=λv s'=>v=BB (ts.any g)/\s'=s) ⟨rfl,rfl⟩
  simp_all))
 omega
theorem AIj {t u:Ty} (hsz:size t<2 ^ 38) {p:Nat} {s:AQ} (hs:BI s) (hp:s.bs[p]?=some ((Aj u).map .pv)) (L:BL):∃b:Bool,(b=true<->t=u)/\BW (env R) L 95 [.agg ((Aj t).map .pv),.ptr p 0] s (BB b) s:=by
 have heq:=jH (R:=R) hsz (A7.Bi t) (A7.Bi u);have hrl:((Aj t).map AV.pv).length=4:=by grind[Al]
 have sB:((Aj u).map AV.pv).length=4:=by grind[Al]
 have hro:=DE t;obtain⟨v0,⟨b,rfl,hb⟩,P8⟩:=heq;refine⟨b,hb,?_⟩;generalize (Aj t).map AV.pv=r at P8 hrl hro;generalize (Aj u).map AV.pv=r2 at P8 sB hp;obtain⟨v,s',⟨rfl,rfl⟩,hc⟩:=m95 (R:=R) (L:=L) (s:=s) (t0:=.agg r) (t1:=.ptr p 0) (Post:=λv s'=>v=BB b/\s'=s) (by simp[DK,Fx]) (APr (Bx (cs:=r) rfl hro (Ag (Ax s.bs r) hrl (Ag (Ai hp r) sB ⟨_,_,P8 _ _,JR hs (m:=[r]) (p:=.sc (.bool b)) ⟨rfl,rfl⟩⟩))));omega
def XOk (R:RT) (t:Ty) (o:List Br×Int):Prop:=∀x,BP t x->∀s,BI s->∀L:BL,L.n0=0->L.ro=0->L.rt=0 ->
 ∃v s',(∃a,v=.tuple [a,AG o.2]/\EB s.bs.length s'.bs o.1 a/\s'.bs.take s.bs.length=s.bs/\s.bs.length<=s'.bs.length/\Cd (.AE []) (.AE []) s.ts s'.ts/\BI s')/\BW (env R) L 14 [x] s v s'
theorem ABX {X:Ty->List Br×Int} {ts:List Ty} {y:AV} (hy:A2 y (Ad ts)) (hl:ts.length<2 ^ 30) (hsz:∀t∈ts,Cg (X t)=true->size t<2 ^ 38) (hx:∀t∈ts,XOk R t (X t)) {Post:AV->Prop} (hP:Post (BB (ts.all λt=>Cg (X t)))) :
  ∀(j p:Nat) (ck:List Ty) (s:AQ) (b:AV),p+j=ts.length->ck.length<=p->(∀t∈ck,t∈ts/\Cg (X t)=true)->(ts.all λt=>Cg (X t))=((ts.drop p).all λt=>Cg (X t))->BI s->Dl 0 s.ts 25 b (Ad ck) ->
   ADy R 0 0 0 b y (AG ts.length) (AG p) s (QP Post):=by
 classical
 intro j
 induction j with
 | zero=>
  intro p ck s b hi Ff hck hall hs hb;refine ADz (Ao ?_);rw[Az AA];rw[CH AA] at hall;rw[hall] at hP;exact Ay (APt ⟨_,Hu,hP⟩)
 | succ j D1=>
  intro p ck s b hi Ff hck hall hs hb;refine ADz (Ao ?_);rw[Ar AA];obtain⟨t,ht⟩:∃t,ts[p]?=some t:=⟨_,Au AA⟩;have Pz:=A3 ht;rw[drop_cons ht,HP] at hall;have hrl:((Aj t).map AV.pv).length=4:=by grind[Al]
  have hro:=DE t
  have Ku:Ah (s.bs.length+1) ((Aj t).map AV.pv)=true:=by
   obtain⟨k1,n1,i1,t1⟩:=t;rfl
  refine A9 (APu (BM hy (row:=Aj t) AA (by simp[*,BJ]) (Al _) AA (Ca (Bj ?_))));obtain⟨bs,tk⟩:=s;refine Bq (Ax bs Z4) hrl rfl AI (AN _) hro (.inl (AN _)) ?_;have e1:(bs++[Z4]).set bs.length ((Aj t).map AV.pv)=bs++[(Aj t).map AV.pv]:=AD;rw[e1];have hs1:BI ⟨bs++[(Aj t).map AV.pv],tk⟩:=BI.app (s:=⟨bs,tk⟩) hs Ku;have gr:=Ax bs ((Aj t).map AV.pv)
  have APv:∀u∈ck,∀L,BW (env R) L 95 [.agg ((Aj u).map .pv),.ptr bs.length 0] ⟨bs++[(Aj t).map AV.pv],tk⟩ (BB (decide (u=t))) ⟨bs++[(Aj t).map AV.pv],tk⟩:=by
   intro u hu L;obtain⟨b',h1,h2⟩:=AIj (R:=R) (t:=u) (u:=t) (hsz u (hck u hu).1 (hck u hu).2) hs1 gr L
   grind
  have dZ:=hb.A1;rw[Ic] at dZ;refine⟨_,_,WL (λt=>Al t) dZ AA hs1 rfl APv _,?_⟩;cases hm:ck.any (λu=>decide (u=t)) with
  | true=>
   obtain⟨u,hu,hut⟩:=Lb.1 hm;have:u=t:=AB;subst this;have hok:=(hck u hu).2;refine A9 (AD0 (Ba AA AA ?_));have:=D1 (p+1) ck ⟨bs++[(Aj u).map AV.pv],tk⟩ b AA AA hck (by rw[hall,hok,CZ]) hs1 hb
   grind
  | false=>
   refine Ay (APw (Ag gr hrl (E9 (A7.Bi t).Fj ⟨AI,JS hb rfl AA λb' GH hb' K7=>Ag gr hrl ?_⟩)));have hs2:BI ⟨bs++[(Aj t).map AV.pv],GH⟩:=hs1;obtain⟨v,s',⟨a,rfl,x1,x2,x3,x4,x5⟩,x6⟩:=hx t Pz _ (A7.Bi t).Fj ⟨bs++[(Aj t).map AV.pv],GH⟩ hs2 (Ce (env R) 47 0 0 0) rfl rfl rfl;refine⟨_,_,x6,B9 rfl (B9 rfl (EM ?_))⟩
   have fail:Cg (X t)=false->(QP Post) (BB false) s':=λh=>by
    rw[hall,h,Gt] at hP;exact⟨_,Hu,hP⟩
   cases h0:(X t).2==0 with
   | false=>
    grind[Cr,pk,A9,Cg]
   | true=>
    have:((X t).2 != 0)=false:=AB;rw[this];refine Ak (Ak (Aq x1.BA (Ak (F8 (pk ?_)))))
    by_cases h4:(X t).1.length<=4
    .rw[Az AA]
     refine Ay (AD0 (Ba AA AA ?_));have AYz:Cg (X t)=true:=by grind[Cg]
     have:=D1 (p+1) (ck++[t]) s' b' AA AB (λu hu=>by
      rcases B4.1 hu with hu|hu
      all_goals grind) (by rw[hall,AYz,CZ]) x5 (x4.keep hb' λ_ h=>by cases h)
     grind
    grind[A9,Cg]
theorem LQ {X:Ty->List Br×Int} {ts:List Ty} {y:AV} (hy:A2 y (Ad ts)) (hl:ts.length<2 ^ 30) (hsz:∀t∈ts,Cg (X t)=true->size t<2 ^ 38) (hx:∀t∈ts,XOk R t (X t)):Af (env R) 47 [y] λr=>r=BB (ts.all λt=>Cg (X t)):=by
 refine e47 (u0:=y) (by simp[BR,hy.close]) (APx (Aq (n:=ts.length) (by rw[hy.BA,Aa]) ?_));exact ABX (Post:=λr=>r=BB (ts.all λt=>Cg (X t))) hy hl hsz hx rfl ts.length 0 [] ⟨[],[]⟩ (.AE []) AA (AN _) (λt h=>by cases h) rfl (λb hb=>by grind) (.inl rfl)
theorem P9 {X:Ty->List Br×Int} {ts:List Ty} {y:AV} (hy:BE y (Ad ts)) (hl:ts.length<2 ^ 30) (hsz:∀t∈ts,Cg (X t)=true->size t<2 ^ 38) (hx:∀t∈ts,XOk R t (X t)):Af (env R) 47 [y] λr=>r=BB (ts.all λt=>Cg (X t)):=by
 obtain⟨y',h1,h2⟩:=hy.closed [] 0;exact Af.open (args':=[y']) AR AR rfl (by grind[BR]) (by simp[BR,h2.close]) (LQ h2 hl hsz hx)
end
theorem QA {L:BL} {s:AQ} {id:Nat} {cs:List AV} {K:AQ->Prop} (hb:s.bs[id]?=some Z5) (hk:cs.length=5) (hro:L.ro<=id) (hok:cs.all BD=true) (hn:L.n0<=id) (h:K ⟨s.bs.set id cs,s.ts⟩):IM L s 5 (.ptr id 0) (.agg cs) K:=
 Bq hb hk rfl AI hro hok (.inl hn) h
theorem ABY {B:List Ty} {p:Ty} (ht:FH B.length p=true):∀b∈(HY B p).bounds,b∈B:=by
 intro b hb;have hb:b∈(LG B.length p []).2.map λx=>B.getD x aN:=hb
 grind[iZ]
section
variable {R:RT}
theorem ABZ (hn:Pc R) {B:List Ty} (iY:B.length<=2 ^ 37) (hB:∀t∈B,size t<2 ^ 38/\R3 t=true) {ps:List Ty} (Kt:ps.length<=32) (hps:∀p∈ps,size p<2 ^ 37/\FH B.length p=true) {a:AV} (ha:BE a (Ad (CA ps))) {n e:Nat} {X:List (List AV)} {d:AV} (hX:X[e]?=some [d,AG 32]) (hd:BE d (Ad B)) {Np:List (Nat×Nat)} {QR:QT}
  (hF:(ps.map (HY B)).all Nx=false->∀bs tk,BI ⟨bs,tk⟩->bs.take n=X->n<=bs.length->Cd (.AE []) (.AE []) Np tk->QR (.tuple [.AE [],AG 4]) ⟨bs,tk⟩)
  (hS:(ps.map (HY B)).all Nx=true->∀bs tk t7 t8,BI ⟨bs,tk⟩->bs.take n=X->n<=bs.length->Cd (.AE []) (.AE []) Np tk->EB n bs (ps.map (HY B)) t7->BE t8 (Ad ((ps.map (HY B)).flatMap Br.bounds))->AD1 R 0 0 0 t7 t8 ⟨bs,tk⟩ QR) :
  ∀(j p:Nat) (bs:List (List AV)) (tk:List (Nat×Nat)) (t7 t8:AV),p+j=ps.length->BI ⟨bs,tk⟩->bs.take n=X->n<=bs.length->EB n bs ((ps.take p).map (HY B)) t7->Dl 0 tk 25 t8 (Ad (((ps.take p).map (HY B)).flatMap Br.bounds))->((ps.take p).map (HY B)).all Nx=true->(((ps.take p).map (HY B)).flatMap Br.bounds).length<=6*p->Cd (.AE []) (.AE []) Np tk->DS t8 Np ->
   AD2 R 0 0 0 (.ptr e 0) t7 t8 a (AG ps.length) (AG p) ⟨bs,tk⟩ QR:=by
 intro j
 induction j with
 | zero=>
  intro p bs tk t7 t8 hi hs hT Mi h7 h8 hw hl6 hch hfr;refine AD3 (Ao ?_);rw[Az AA];rw[CU AA] at h7 h8 hw;exact Ay (hS hw bs tk t7 t8 hs hT Mi hch h7 h8.A1)
 | succ j D1=>
  intro p bs tk t7 t8 hi hs hT Mi h7 h8 hw hl6 hch hfr;refine AD3 (Ao ?_);rw[Ar AA];obtain⟨c,hc⟩:∃c,ps[p]?=some c:=⟨_,Au AA⟩;have Kv:=A3 hc;obtain⟨c1,c2⟩:=hps c Kv;have hrc:(CA ps)[p]?=some (ren c):=by grind[Bo]
  have hrl:((Aj (ren c)).map AV.pv).length=4:=by grind[Al]
  have hro:=DE (ren c)
  have Ku:Ah (bs.length+1) ((Aj (ren c)).map AV.pv)=true:=by
   obtain⟨k1,n1,i1,t1⟩:=ren c;rfl
  have D4:=A7.Bi (ren c);have Vl:ps.take (p+1)=ps.take p++[c]:=by grind[List.take_add_one]
  refine A9 (APy (BS ha (row:=Aj (ren c)) AA (by grind[BJ]) (Al _) AA (Ca (Bj ?_))));generalize (Aj (ren c)).map AV.pv=row at hrl hro Ku D4;refine Bq (Ax bs Z4) hrl rfl AI (AN _) hro (.inl (AN _)) ?_;have e1:(bs++[Z4]).set bs.length row=bs++[row]:=AD;rw[e1];have hs1:BI ⟨bs++[row],tk⟩:=BI.app (s:=⟨bs,tk⟩) hs Ku;have gr:=Ax bs row;have Ny:=(DI Mi row).trans hT;have lb:(bs++[row]).length=bs.length+1:=AD;have h71:EB n (bs++[row]) ((ps.take p).map (HY B)) t7:=h7.mono (AY _) λj c _ hj=>Ai hj _
  generalize bs++[row]=b1 at hs1 gr Ny lb h71;have gE1:b1[e]?=some [d,AG 32]:=CD Ny hX;obtain⟨w,s',⟨KS,r1,r2,rfl⟩,r3⟩:=R5 (R:=R) hn (L:=Ce (env R) 14 0 0 0) (p:=c) (s:=⟨b1,tk⟩) AA (λt ht=>⟨.of (hB t ht).1,(hB t ht).2⟩) AA c2 D4.Fj hs1 gE1 hd rfl rfl;refine Ag gr hrl ⟨_,_,r3,?_⟩;obtain⟨dh,rfl⟩:=r1.agg;obtain⟨q1,q2,q3⟩:=r1.cells;have h81:=r2.keep h8 (λ_ h=>by cases h);have qR:=hch.trans r2;refine Bj (QA (Ax b1 Z5) q1 (AN _) q2 (AN _) ?_);have e2:(b1++[Z5]).set b1.length dh=b1++[dh]:=AD
  show D5 _ ⟨(b1++[Z5]).set b1.length dh,KS⟩ _ _ _
  rw[e2];have hs2:BI ⟨b1++[dh],KS⟩:=BI.app (s:=⟨b1,tk⟩) hs1 (q3 _);have g5:=Ax b1 dh;have Hh:=(DI (n:=n) AA dh).trans Ny;have h72:EB n (b1++[dh]) ((ps.take p).map (HY B)) t7:=h71.mono (AY _) λj c _ hj=>Ai hj _
  have lb2:(b1++[dh]).length=b1.length+1:=AD
  have h7n:∀m,t7≠.ref b1.length 0 m 5:=by
   intro m h;rcases h71 with ⟨h1,_⟩|⟨id,rows,_,h1,h2,_⟩
   all_goals grind
  generalize b1++[dh]=b2 at hs2 g5 Hh h72 lb2;have hsz:=Ul B c;have hcv:=Ea (HY B c).body;refine Ag g5 q1 (AL (Oe AA AA AA r1) ?_);rintro _ rfl;have ew:(decide ((HY B c).bounds.length<=6)&&decide ((Ae (HY B c).body).length<=3))=Nx (HY B c):=rfl;rw[ew];refine nt ?_;cases hwc:Nx (HY B c) with
  | false=>
   grind[A9]
  | true=>
   have hb6:(HY B c).bounds.length<=6:=AB;obtain⟨a5,y5,hy5,ha5,_⟩:=id r1;cases hy5;refine Ay (APz (Ag g5 q1 (L9 r1 ⟨AI,?_⟩)));have g5b:=Ai g5 (a5::y5);have hs3:BI ⟨b2++[a5::y5],KS⟩:=BI.app (s:=⟨b2,KS⟩) hs2 (q3 _);have h73:EB n (b2++[a5::y5]) ((ps.take p).map (HY B)) t7:=h72.mono (AY _) λj c _ hj=>Ai hj _
   refine jJ (s:=⟨b2++[a5::y5],KS⟩) r1 (Ax b2 _) h73 rfl AB ?_ AB;intro a' bs' QS MU hb3 hb4 _;have hs4:=hb4 hs3;have g5c:=MU b1.length _ h7n g5b
   have sK:bs'.take n=X:=by
    rw[<-Hh];refine Fm λj=>?_
    by_cases hj:j<n
    .rw[KJ hj,KJ hj]
     have hj2:j<b2.length:=AA;have h1:(b2++[a5::y5])[j]?=some b2[j]:=by rw[CT hj2,Au hj2]
     rw[MU j _ (λm h=>by
      rcases h73 with ⟨h2,_⟩|⟨id,rows,h2,h3,_⟩
      all_goals grind) h1,Au hj2]
    grind
   have xG:n<=bs'.length:=AA;refine AO (AX g5c) (AZ (off:=0) g5c rfl ⟨AI,FB (l:=(HY B c).bounds) h81 rfl AA ha5 λt8' I6 x1 x2=>?_⟩);have sa:=BE.Dg (es:=(HY B c).bounds) ha5;refine⟨AO (AX g5) (EA _ _),AO (AX g5b) (EA _ _),AZ (off:=0) g5 rfl sa,AZ (off:=0) g5b rfl sa,AP2 (Ba AA AA ?_)⟩;have em:(ps.take (p+1)).map (HY B)=(ps.take p).map (HY B)++[HY B c]:=AB;have ef:((ps.take (p+1)).map (HY B)).flatMap Br.bounds=((ps.take p).map (HY B)).flatMap Br.bounds++(HY B c).bounds:=AB;have:=D1 (p+1) bs' I6 a' t8' AA hs4 sK xG AB AB (by rw[em,YR,hw]; grind) AB (qR.side x2 hfr) (hfr.Py x2 qR.1)
   grind
end
structure Fit (t:Ty):Prop where
 bws:CM (bw t)
 wZ:wt t<=2 ^ 27
 nbs:nb t<2 ^ 36
theorem Fit.sub {t b:Ty} (h:Fit t) (hb:WI t b):Fit b:=⟨Cu h.bws hb.bws,BK hb.wZ h.wZ,Sq hb.nbs h.nbs⟩
mutual
theorem LR:∀t:Ty,valid t=true->ZC t
 | .mk k n i ts,h=>by
  have hn:=L4 h;simp only[valid,AH] at h;rw[ZC];exact⟨by grind[V7],Uz ts h.2⟩
theorem Uz:∀l:List Ty,BC l=true->SI l
 | [],_=>trivial
 | t::l,h=>by
  simp only[BC,AH] at h;rw[SI];exact⟨LR t h.1,Uz l h.2⟩
end
mutual
theorem Xo:∀t:Ty,valid t=true->ixs t=true
 | .mk k n i ts,h=>by
  have hv:=h;simp only[valid,AH] at h;rw[ixs,U3 ts h.2];cases h5:k==5 with
  | false=>rfl
  | true=>
   have:k=5:=AB;subst this;have h1:=EY hv;have h2:=LL hv
   grind
theorem U3:∀l:List Ty,BC l=true->qd l=true
 | [],_=>rfl
 | t::l,h=>by
  simp only[BC,AH] at h;rw[qd,Xo t h.1,U3 l h.2];rfl
end
theorem RG {t:Ty} (h:valid t=true) (hc:CP 0 t=true):R3 t=true:=by
 have:=UY [] t 0 h
 grind[C8]
section
variable {R:RT}
theorem U4 {t:Ty} (h:size t<2 ^ 60) (ho:ZC t) {x:AV} (hx:BP t x):Af (env R) 42 [x] λr=>r=AG (verdict t):=by
 obtain⟨x',h1,h2⟩:=hx.closed [] 0;exact Af.open (args':=[x']) AR AR rfl (by grind[BR]) (by simp[BR,h2.IU]) (WB h ho h2)
theorem U5 {t:Ty} (h:size t<2 ^ 18) (TN:ixs t=true) {x:AV} (hx:BP t x):Af (env R) 43 [x] λr=>∃l:List Int,A2 r (Ab l)/\l.Pairwise (·<·)/\(∀w,w∈l<->w∈RE 0 t):=by
 obtain⟨x',h1,h2⟩:=hx.closed [] 0;exact Af.open (args':=[x']) AR AR rfl (by grind[BR]) (by simp[BR,h2.IU]) (WJ h TN h2)
structure XH (R:RT) (X:Ty->List Br×Int) (t:Ty) (r:Option (List Ty)) (B:List Ty):Prop where
 run:∀(e:Nat) (x:AV),BP t x->∀s,BI s->WG R e 32 44 [x] (r,B) [] s
 len:B.length<2 ^ 37
 bds:∀b∈B,size b<2 ^ 38/\R3 b=true
 few:∀ps,r=some ps->ps.length<=32
 pat:∀ps,r=some ps->∀p∈ps,size p<2 ^ 37/\FH B.length p=true
 sub:∀ps,r=some ps->∀b∈(ps.map (HY B)).flatMap Br.bounds,size b<2 ^ 38/\XOk R b (X b)
def xO (X:Ty->List Br×Int) (r:Option (List Ty)) (B:List Ty):List Br×Int:=match r with
 | none=>([],4)
 | some ps=>bif (ps.map (HY B)).all Nx&&(((ps.map (HY B)).flatMap Br.bounds).all λb=>Cg (X b)) then(ps.map (HY B),0) else([],4)
theorem qi (hn:Pc R) {X:Ty->List Br×Int} {t:Ty} {r:Option (List Ty)} {B:List Ty} (hsz:size t<2 ^ 60) (hok:ZC t) (H:verdict t=0->CP 0 t=true->XH R X t r B):XOk R t (bif !(verdict t==0)||!(CP 0 t) then([],2) else xO X r B):=by
 intro x hx s hs L hn0 hro Ee;have hv1:=U4 (R:=R) hsz hok hx;have hfv:=λh1 h2=>U5 (R:=R) (t:=t) h1 h2 hx
 have hxO:=hx;obtain⟨xc,rfl⟩:=hxO.agg;obtain⟨c1,c2,c3⟩:=hxO.cells;have WM:(s.bs++[xc]).take s.bs.length=s.bs:=AD;have hs1:BI ⟨s.bs++[xc],s.ts⟩:=BI.app (s:=s) hs (c3 _);have g0:=Ax s.bs xc
 have fail:∀(n:Int) (o:List Br×Int),o=([],n)->∀bs ts,BI ⟨bs,ts⟩->bs.take s.bs.length=s.bs->s.bs.length<=bs.length->Cd (.AE []) (.AE []) s.ts ts ->
   ∃a,(AV.tuple [.AE [],AG n])=.tuple [a,AG o.2]/\EB s.bs.length bs o.1 a/\bs.take s.bs.length=s.bs/\s.bs.length<=bs.length/\Cd (.AE []) (.AE []) s.ts ts/\BI ⟨bs,ts⟩:=by
  rintro n o rfl bs ts h1 h2 h3 h4;exact⟨_,rfl,.inl ⟨rfl,rfl⟩,h2,h3,h4,h1⟩
 refine m14 ?_;rw[hn0,hro,Ee];refine AP3 (Bx (cs:=xc) rfl c2 (Ag g0 c1 (AL hv1 ?_)));rintro _ rfl;refine EM ?_;cases Sz:verdict t==0 with
 | false=>
  have:(verdict t != 0)=true:=AB;rw[this];refine Cr (Cr (Cr (Cr (pk (A9 ?_)))));exact fail 2 _ rfl _ _ hs1 WM AD (Cd.refl _ _)
 | true=>
  have:(verdict t != 0)=false:=AB;rw[this];obtain⟨hv,AD5,AP4⟩:=FX (by simpa using Sz);refine Ak (Ag g0 c1 (Ak (AL (hfv AA (Xo t hv)) ?_)));rintro v ⟨fl,hfl,hsrt,hmem⟩;refine Ak (Aq (n:=fl.length) (by rw[hfl.BA,BF]) (Ak (F8 (pk ?_))));cases hc:CP 0 t with
  | false=>
   have hne:0<fl.length:=by
    rcases fl with _|⟨w,fl⟩
    .exfalso
     have:RE 0 t=[]:=by
      rcases hf:RE 0 t with _|⟨w,l⟩
      .rfl
      .have:=(hmem w).2 AB
       grind
     grind[P7]
    simp
   rw[Ar AA];refine A9 ?_;exact fail 2 _ rfl _ _ hs1 WM AD (Cd.refl _ _)
  | true=>
   have xB:fl=[]:=by
    rcases fl with _|⟨w,fl⟩
    .rfl
    .exfalso
     have:=(hmem w).1 AD
     grind[P7]
   subst xB;rw[Az AD];simp only[NP,KH,AK];have hH:=H (by simpa using Sz) hc;refine Ay (AP5 (Hg (cs:=[.AE [],AG 32]) rfl (Bx (cs:=[.AE [],AG 32]) rfl rfl ?_)));have gE:(s.bs++[xc]++[[.AE [],AG 32]])[s.bs.length+1]?=some [.AE [],AG 32]:=AD;have sM:=Ai g0 [.AE [],AG 32];have hs2:BI ⟨s.bs++[xc]++[[.AE [],AG 32]],s.ts⟩:=BI.app (s:=⟨s.bs++[xc],s.ts⟩) hs1 rfl;have hlen:(s.bs++[xc]++[[.AE [],AG 32]]).length=s.bs.length+2:=AD;have hX:(s.bs++[xc]++[[.AE [],AG 32]]).take (s.bs.length+2)=s.bs++[xc]++[[.AE [],AG 32]]:=CU AA;have Hh:(s.bs++[xc]++[[.AE [],AG 32]]).take s.bs.length=s.bs:=AD;have fN:(s.bs++[xc]).length=s.bs.length+1:=AD;rw[fN];generalize s.bs++[xc]++[[.AE [],AG 32]]=b2 at gE sM hs2 hlen hX Hh;obtain⟨w,s',⟨d',KS,q1,q2,q3,rfl⟩,q4⟩:=hH.run (s.bs.length+1) (.agg xc) hxO ⟨b2,s.ts⟩ hs2 (Ce (env R) 14 0 0 0) (.AE []) rfl rfl gE (.inl rfl);refine Ag sM c1 ⟨_,_,q4,?_⟩;have hs3:BI ⟨b2.set (s.bs.length+1) [d',AG ((32:Nat):Int)],KS⟩:=BI.set (s:=⟨b2,s.ts⟩) hs2 (by simp[Ah,Aw,q2.A1.Aw]) _;have QV:(b2.set (s.bs.length+1) [d',AG ((32:Nat):Int)]).take s.bs.length=s.bs:=(Cj AA).trans Hh;have SU:(b2.set (s.bs.length+1) [d',AG ((32:Nat):Int)])[s.bs.length+1]?=some [d',AG ((32:Nat):Int)]:=BZ gE;have kN:(b2.set (s.bs.length+1) [d',AG ((32:Nat):Int)]).length=s.bs.length+2:=AB
   have hch:Cd (.AE []) (.AE []) s.ts KS:=by
    obtain⟨h1,h2,h3⟩:=q3;exact⟨h1,λt ht _=>h2 t ht (λh=>by cases h),.inl rfl⟩
   generalize b2.set (s.bs.length+1) [d',AG ((32:Nat):Int)]=b3 at hs3 QV SU kN;cases r with
   | none=>
    cases q1;exact B9 rfl (B9 rfl (nt (A9 (fail 4 _ rfl b3 KS hs3 QV AA hch))))
   | some ps=>
    obtain⟨ya,rfl,Vm⟩:=q1;simp only at q2;have Kt:=hH.few ps rfl;have hps:=hH.pat ps rfl;have hB:=hH.bds;refine B9 rfl (B9 rfl (nt (Ay (AP6 (Aq (n:=ps.length) (by rw[Vm.BA,Aa,Bo,Bm]) ?_)))));have hBb:=hH.len;refine ABZ hn (n:=s.bs.length+2) (X:=b3) AA hB Kt hps Vm SU q2.A1 (Np:=KS) ?_ ?_ ps.length 0 b3 KS (.AE []) (.AE []) AA hs3 (CU AA) AA (.inl ⟨rfl,rfl⟩) (.inl rfl) rfl AD (Cd.refl _ _) (DS.AE _ _)
    .intro hall bs tk h1 h2 h3 h4
     have h5:bs.take s.bs.length=s.bs:=AB;refine fail 4 _ ?_ bs tk h1 h5 AA (hch.trans h4)
     grind[xO]
    .intro hall bs tk t7 t8 h1 h2 h3 h4 h6 h7
     have h5:bs.take s.bs.length=s.bs:=AB;have td:=hH.sub ps rfl
     have hfl:((ps.map (HY B)).flatMap Br.bounds).length<=6*32:=by
      have:∀l:List Br,l.all Nx=true->(l.flatMap Br.bounds).length<=6*l.length:=by
       intro l
       induction l with
       | nil=>simp
       | cons b l ihl=>
        grind[Nx]
      grind
     refine AP7 (AL (P9 (X:=X) h7 AA (λb hb _=>(td b hb).1) (λb hb=>(td b hb).2)) ?_);rintro _ rfl;refine nt ?_;cases KA:(((ps.map (HY B)).flatMap Br.bounds).all λb=>Cg (X b)) with
     | false=>
      refine A9 (fail 4 _ ?_ bs tk h1 h5 AA (hch.trans h4))
      grind[xO]
     | true=>
      refine Ay (AP8 ?_);simp only[xO,hall,KA,Fo,AM];exact⟨t7,rfl,h6.mono AA λj c _ h=>h,h5,AA,hch.trans h4,h1⟩
theorem U6 (hn:Pc R):∀(f:Nat) (t:Ty),depth t<=f->size t<2 ^ 60->ZC t->(verdict t=0->Fit t)->XOk R t (xP f t):=by
 intro f
 induction f with
 | zero=>
  intro t hd;obtain⟨k,n,i,ts⟩:=t
  grind[depth]
 | succ f ih=>
  intro t hd hsz hok hfit;have ho:=qi (R:=R) hn (X:=xP f) (t:=t) (r:=(A4 (AU 32) (depth t) t []).1) (B:=(A4 (AU 32) (depth t) t []).2) hsz hok ?_
  .rw[xP]
   revert ho;rcases A4 (AU 32) (depth t) t [] with ⟨_|ps,B⟩
   .exact λho=>ho
   .exact λho=>ho
  intro Sz hc;obtain⟨hv,AD5,AP4⟩:=FX Sz;have hft:=hfit Sz;have xH:=λ(e:Nat) hm=>R6 (R:=R) hn (e:=e) (ml:=32) (A6:=32) (M:=nb t) AI AI (YS hft.nbs AI) (depth t) t [] (AY _) hv hc (Sq hft.wZ AI) AA [] (λx hx=>by grind) hm ⟨AI,AY _,AI,.inl rfl⟩
  have hnb:=Zh (depth t) t [] [] hv hc hft.bws (λx hx=>by grind);have hall:=Gn (A8:=AU 32) (depth t) t [] (nb t) (qM (nb t));have hbd:=Ob (f:=depth t) hv hc;have M3:=Jz (A8:=AU 32) AR (depth t) t [];rw[C8 hv hc] at xH hnb;rw[Jc t hv] at xH
  have jA:E7 (λi=>qM (nb t) i&&decide (i<(([]:List Ty).length:Nat))) t=true:=by
   have:=Gq (q:=λi=>qM (nb t) i&&decide (i<(([]:List Ty).length:Nat))) (σ:=[]) (λx hx=>by grind) t 0 hv
   grind[C8]
  rcases he:A4 (AU 32) (depth t) t [] with ⟨r,B⟩
  rw[he] at xH hnb hall hbd M3;simp only[Bz,CQ] at hnb;simp only at xH hall hbd M3
  have hB:∀b∈B,size b<2 ^ 38/\R3 b=true:=by
   intro b hb;have h1:=hbd b hb;exact⟨by have:=h1.L5; omega,RG h1.val h1.cl⟩
  have hpt:∀ps,r=some ps->∀p∈ps,size p<2 ^ 37/\FH B.length p=true:=by
   rintro ps rfl p hp;obtain⟨h1,h2⟩:=hall ps (λi h1 h2=>by grind) jA rfl hnb p hp;refine⟨by have:=hft.wZ; omega,?_⟩
   obtain⟨h3,_⟩:=Gn (A8:=AU 32) (depth t) t [] B.length (qM B.length) ps (λi h1 h2=>by grind) (by
    have:=Gq (q:=λi=>qM B.length i&&decide (i<(([]:List Ty).length:Nat))) (σ:=[]) (λx hx=>by grind) t 0 hv
    grind[C8]) (by rw[he]) AB p hp
   rw[IV];exact h3
  refine⟨λe=>xH e hnb,YS (Sq hnb hft.nbs) AI,hB,λps hps=>by grind,hpt,?_⟩
  .rintro ps rfl b hb
   have h8:WI t b:=by
    obtain⟨br,dZ,hb⟩:=NT.1 hb;obtain⟨p,hp,rfl⟩:=CR.1 dZ;have:=(hpt ps rfl p hp).2
    grind[ABY]
   exact⟨by have:=h8.L5; omega,ih b (by have:=h8.dep; omega) (by have:=h8.L5; omega) (LR b h8.val) (λ_=>hft.sub h8)⟩
end
mutual
def Xp:Ty->Bool
 | .mk k n i ts=>bif k==5 then n==[]&&(ts.isEmpty&&(decide (-(2 ^ 60)<=i)&&decide (i<2 ^ 60))) else bif k==2||k==3 then RH ts else true
def RH:List Ty->Bool
 | []=>true
 | t::l=>Xp t&&RH l
end
theorem TA {n:List UInt8} {i:Int} {ts:List Ty} (h:Xp (.mk 5 n i ts)=true):n=[]/\ts=[]/\-(2 ^ 60)<=i/\i<2 ^ 60:=by grind[Xp]
theorem U7 (f:Int->Ty):∀l:List Ty,B7 f l=l.map (Bs f)
 | []=>rfl
 | t::l=>by rw[B7,U7 f l]; rfl
section
variable {R:RT}
theorem J2 (i:Int):Af (env R) 25 [AG i] λr=>r=.agg [AG 5,SS [],AG i,.AE []]:=by
 refine e25 (u0:=AG i) AD (AP9 (Bj (Hg (cs:=[AG 5,SS [],AG i,.AE []]) rfl ?_)));refine Bq (old:=Z4) rfl rfl rfl AI (AN _) rfl (.inl (AN _)) (Ag (cs:=[AG 5,SS [],AG i,.AE []]) rfl rfl ?_);exact⟨_,AD,rfl⟩
theorem TB (i:Int):A7 (var i) (.agg [AG 5,SS [],AG i,.AE []]):=⟨_,rfl,.AE _⟩
theorem G3 {s:AQ} {id:Nat} {t:Ty} {cs old:List AV} {Post:AV->Prop} (h1:s.bs[id]?=some old) (ho:old.length=4) (hr:BP t (.agg cs)) (hP:∀r,A7 t r->Post r) {f:FuncId} :
  IM (Ce (env R) f 0 0 0) s 4 (.ptr id 0) (.agg cs) λs1=>D5 (env R) s1 (some 4) (.ptr id 0) λr=>QP Post r s1:=by
 obtain⟨c1,c2,c3⟩:=hr.cells;refine Bq h1 c1 ho AI (AN _) c2 (.inl (AN _)) (Ag (BZ h1) c1 ?_);obtain⟨r,h3,h4⟩:=hr.closed (s.bs.set id cs) 0;exact⟨r,h3,hP r h4⟩
theorem ABa {ts:List Ty} {a:AV} (ha:A2 a (Ad ts)) (hl:ts.length<2 ^ 37) {k i n m:Int} {nm:List UInt8} {g:Ty->Ty} (ih:∀t∈ts,Af (env R) 82 [.agg ((Aj t).map .pv),AG n,AG m] λr=>A7 (g t) r) {Post:AV->Prop} (hP:∀r,A7 (.mk k nm i (ts.map g)) r->Post r) :
  ∀(j q:Nat) (s:AQ) (b:AV),q+j=ts.length->s.bs[0]?=some [AG k,SS nm,AG i,a]->s.bs[1]?=some Z4->s.bs[2]?=some [AG k,SS nm,AG i,b]->Dl 0 s.ts 25 b (Ad ((ts.take q).map g)) ->
   AD6 R 0 0 0 (AG n) (AG m) (.ptr 0 0) (.ptr 1 0) (.ptr 2 0) (AG q) s (QP Post):=by
 intro j
 induction j with
 | zero=>
  intro q s b hi h0 h1 h2 hb;refine AD7 (AO (AX h0) (AZ (off:=3) h0 rfl (Aq (n:=ts.length) (by rw[ha.BA,Aa]) (Ao ?_))));rw[Az AA];rw[CU AA] at hb;exact Ay (AQA (Ag h2 rfl (G3 h1 rfl (t:=.mk k nm i (ts.map g)) ⟨b,rfl,hb.A1⟩ hP)))
 | succ j D1=>
  intro q s b hi h0 h1 h2 hb;refine AD7 (AO (AX h0) (AZ (off:=3) h0 rfl (Aq (n:=ts.length) (by rw[ha.BA,Aa]) (Ao ?_))));rw[Ar AA];obtain⟨t,ht⟩:∃t,ts[q]?=some t:=⟨_,Au AA⟩;refine A9 (AQB (AO (AX h2) (AZ (off:=3) h2 rfl (AO (AX h0) (AZ (off:=3) h0 rfl (BM ha (row:=Aj t) AA (by grind[BJ]) (Al t) AA (Ca ?_)))))));refine AL (ih t (A3 ht)) ?_;intro v hv;refine E9 hv.Fj ⟨AI,ZT hb rfl AB ?_⟩;intro b' GH hb';have hqt:(ts.take q).map g++[g t]=(ts.take (q+1)).map g:=by grind[List.take_add_one]
  rw[hqt] at hb';refine AO (AX h2) (C2 h2 AD hb'.A1.cells (AN _) hb'.A1.ok (.inl (AN _)) ?_);refine⟨AO (AX h2) (EA _ _),AZ (off:=3) h2 rfl (Gp hb),AQC (Ba AA AA ?_)⟩;have:=D1 (q+1) ⟨s.bs.set 2 [AG k,SS nm,AG i,b'],GH⟩ b' AA (BQ h0 AI) (BQ h1 AI) (BZ h2) hb'
  grind
mutual
theorem R8 (n m:Int):∀(t:Ty),size t<2 ^ 37->Xp t=true->∀(x:AV),A7 t x->Af (env R) 82 [x,AG n,AG m] λr=>A7 (I5 n m t) r
 | .mk k nm i ts,h,hv,x,hx=>by
  obtain⟨a,rfl,ha⟩:=hx;simp only[size] at h;have hln:=BV ts
  suffices H:∀Post:AV->Prop,(∀r,A7 (I5 n m (.mk k nm i ts)) r->Post r)->AD8 R 0 0 0 (.agg [AG k,SS nm,AG i,a]) (AG n) (AG m) ⟨[],[]⟩ (QP Post) from
   e82 (u0:=.agg [AG k,SS nm,AG i,a]) (u1:=AG n) (u2:=AG m) (by simp[ha.close]) (H _ λr h=>h)
  intro Post hP;refine AQD (Bx (cs:=[AG k,SS nm,AG i,a]) rfl (by simp[ha.ok]) (Bj ?_));simp only[Cm,Bz,DH,Bt,CQ];have g0:(AQ.mk [[AG k,SS nm,AG i,a],Z4] []).bs[0]?=some [AG k,SS nm,AG i,a]:=rfl;have g1:(AQ.mk [[AG k,SS nm,AG i,a],Z4] []).bs[1]?=some Z4:=rfl;refine AO (AX g0) (AZ (off:=0) g0 rfl (A0 ?_));cases h5:(k==5) with
  | true=>
   have:k=5:=AB;subst this;obtain⟨rfl,rfl,_,_⟩:=TA hv;rw[I5,Bs] at hP;refine A9 (AO (AX g0) (AZ (off:=2) g0 rfl (A0 ?_)));cases hin:(i==n) with
   | true=>
    rw[hin] at hP;refine A9 (AL (J2 m) ?_);rintro _ rfl;exact G3 g1 rfl (t:=var m) (TB m).Fj hP
   | false=>
    rw[hin] at hP;exact Ay (AQE (Ag g0 rfl (G3 g1 rfl (t:=var i) ⟨a,rfl,.inl ha⟩ hP)))
  | false=>
   rw[Xp,h5] at hv;simp only[AK] at hv;rw[I5,Bs,h5] at hP;simp only[AK] at hP;refine Ay (AQF (AO (AX g0) (AZ (off:=0) g0 rfl (EM ?_))))
   have copy:(k==2||k==3)=true->AD9 R 0 0 0 (AG n) (AG m) (.ptr 0 0) (.ptr 1 0) ⟨[[AG k,SS nm,AG i,a],Z4],[]⟩ (QP Post):=by
    intro hk;rw[hk] at hv hP;simp only[AM,U7] at hv hP;refine AQG (Ag g0 rfl (Bj (Bq (Ax _ _) rfl rfl AI (AN _) (by simp[ha.ok]) (.inl (AN _)) ?_)))
    show E2 ⟨[[AG k,SS nm,AG i,a],Z4,[AG k,SS nm,AG i,a]],[]⟩ _ _ _
    have g2:(AQ.mk [[AG k,SS nm,AG i,a],Z4,[AG k,SS nm,AG i,a]] []).bs[2]?=some [AG k,SS nm,AG i,a]:=rfl;refine AO (AX g2) (C2 (off:=3) g2 AD rfl (AN _) rfl (.inl (AN _)) ?_);exact ABa (g:=I5 n m) ha AA (QB n m ts AA hv) (λr h=>hP r h) ts.length 0 _ (.AE []) AA rfl rfl rfl (.inl rfl)
   cases h3:(k==3) with
   | true=>
    simp_all
   | false=>
    have:(k != 3)=true:=AB;rw[this];refine Ak (AO (AX g0) (Ak (AZ (off:=0) g0 rfl (Ak (EM (pk ?_))))));cases h2:(k==2) with
    | true=>
     simp_all
    | false=>
     have:(k != 2)=true:=AB;simp only[this,AM];rw[h2,h3] at hP;exact A9 (Ag g0 rfl (G3 g1 rfl (t:=.mk k nm i ts) ⟨a,rfl,.inl ha⟩ hP))
theorem QB (n m:Int):∀(l:List Ty),Ac l<2 ^ 37->RH l=true->∀t∈l,Af (env R) 82 [.agg ((Aj t).map .pv),AG n,AG m] λr=>A7 (I5 n m t) r
 | [],_,_,_,h=>by cases h
 | e::l,h,hv,t,hm=>by
  simp only[Ac] at h;simp only[RH,AH] at hv;rcases A5.1 hm with h' | h'
  .rw[h']
   exact R8 n m e AA hv.1 _ (A7.Bi e)
  .exact QB n m l AA hv.2 t h'
end
end
section
variable {R:RT}
def OpC (R:RT) (op n:Int) (g:Ty->Ty) (t:Ty):Prop:=
 (op=0/\Af (env R) 112 [.agg ((Aj t).map .pv),AG n] λr=>A7 (g t) r)\/(op=1/\Af (env R) 97 [.agg ((Aj t).map .pv)] λr=>A7 (g t) r)\/(op=2/\Af (env R) 128 [.agg ((Aj t).map .pv),AG n] λr=>A7 (g t) r)
theorem ABb {op n:Int} {ts:List Ty} {a:AV} (ha:A2 a (Ad ts)) (hl:ts.length<2 ^ 37) {k i:Int} {nm:List UInt8} {g:Ty->Ty} (ih:∀t∈ts,OpC R op n g t) {Post:AV->Prop} (hP:∀r,A7 (.mk k nm i (ts.map g)) r->Post r) :
  ∀(j q:Nat) (s:AQ) (b:AV),q+j=ts.length->s.bs[0]?=some [AG k,SS nm,AG i,a]->s.bs[1]?=some Z4->s.bs[2]?=some [AG k,SS nm,AG i,b]->Dl 0 s.ts 25 b (Ad ((ts.take q).map g)) ->
   xI R 0 0 0 (AG op) (AG n) (.ptr 0 0) (.ptr 1 0) (.ptr 2 0) (AG q) s (QP Post):=by
 intro j
 induction j with
 | zero=>
  intro q s b hi h0 h1 h2 hb;refine xJ (AO (AX h0) (AZ (off:=3) h0 rfl (Aq (n:=ts.length) (by rw[ha.BA,Aa]) (Ao ?_))));rw[Az AA];rw[CU AA] at hb;exact Ay (AIm (Ag h2 rfl (G3 h1 rfl (t:=.mk k nm i (ts.map g)) ⟨b,rfl,hb.A1⟩ hP)))
 | succ j D1=>
  intro q s b hi h0 h1 h2 hb;refine xJ (AO (AX h0) (AZ (off:=3) h0 rfl (Aq (n:=ts.length) (by rw[ha.BA,Aa]) (Ao ?_))));rw[Ar AA];obtain⟨t,ht⟩:∃t,ts[q]?=some t:=⟨_,Au AA⟩
  have fin:∀v,A7 (g t) v->HJ false s 4 [(AG 0),(SS []),(AG 0),(.AE [])] 1 [(0,4,v)] λa51 AIn=>(4=4/\4≠0)/\Ik false (Ce (env R) 127 0 0 0) s 25 4 56 b a51 λa52 AQH=>E2 AQH (.ptr 2 0) 3 λa53=>IM (Ce (env R) 127 0 0 0) AQH 1 a53 a52 λiz=>
    (E2 s (.ptr 2 0) 3 λv=>Tel.Dg v (.ptr 2 (0+3))=true)/\(D5 (env R) s none (.ptr 2 (0+3)) λvx4=>Tel.Dg vx4 b=true)/\xK R 0 0 0 (AG op) (AG n) (.ptr 0 0) (.ptr 1 0) (.ptr 2 0) (AG q) iz (QP Post):=by
   intro v hv;refine E9 hv.Fj ⟨AI,ZT hb rfl AB ?_⟩;intro b' GH hb';have hqt:(ts.take q).map g++[g t]=(ts.take (q+1)).map g:=by grind[List.take_add_one]
   rw[hqt] at hb';refine AO (AX h2) (C2 h2 AD hb'.A1.cells (AN _) hb'.A1.ok (.inl (AN _)) ?_);refine⟨AO (AX h2) (EA _ _),AZ (off:=3) h2 rfl (Gp hb),AIo (Ba AA AA ?_)⟩;have:=D1 (q+1) ⟨s.bs.set 2 [AG k,SS nm,AG i,b'],GH⟩ b' AA (BQ h0 AI) (BQ h1 AI) (BZ h2) hb'
   grind
  refine A9 (AIp (A0 ?_));rcases ih t (A3 ht) with ⟨rfl,hc⟩|⟨rfl,hc⟩|⟨rfl,hc⟩
  .exact A9 (AO (AX h2) (AZ (off:=3) h2 rfl (AO (AX h0) (AZ (off:=3) h0 rfl (BM ha (row:=Aj t) AA (by grind[BJ]) (Al t) AA (Ca (AL hc fin)))))))
  .exact Ay (A0 (A9 (AO (AX h2) (AZ (off:=3) h2 rfl (AO (AX h0) (AZ (off:=3) h0 rfl (BM ha (row:=Aj t) AA (by grind[BJ]) (Al t) AA (Ca (AL hc fin)))))))))
  .exact Ay (A0 (Ay (AO (AX h2) (AZ (off:=3) h2 rfl (AO (AX h0) (AZ (off:=3) h0 rfl (BM ha (row:=Aj t) AA (by grind[BJ]) (Al t) AA (Ca (AL hc fin)))))))))
theorem Zo {op n:Int} {g:Ty->Ty} {k i:Int} {nm:List UInt8} {ts:List Ty} (hl:ts.length<2 ^ 37) (ih:(k==2||k==3)=true->∀t∈ts,OpC R op n g t) {x:AV} (hx:A7 (.mk k nm i ts) x):Af (env R) 127 [x,AG op,AG n] λr=>A7 (bif k==2||k==3 then .mk k nm i (ts.map g) else .mk k nm i ts) r:=by
 obtain⟨a,rfl,ha⟩:=hx
 suffices H:∀Post:AV->Prop,(∀r,A7 (bif k==2||k==3 then .mk k nm i (ts.map g) else .mk k nm i ts) r->Post r)->xL R 0 0 0 (.agg [AG k,SS nm,AG i,a]) (AG op) (AG n) ⟨[],[]⟩ (QP Post) from
  AY2 (u0:=.agg [AG k,SS nm,AG i,a]) (u1:=AG op) (u2:=AG n) (by simp[ha.close]) (H _ λr h=>h)
 intro Post hP;refine AIq (Bx (cs:=[AG k,SS nm,AG i,a]) rfl (by simp[ha.ok]) (Bj ?_));simp only[Cm,Bz,DH,Bt,CQ];have g0:(AQ.mk [[AG k,SS nm,AG i,a],Z4] []).bs[0]?=some [AG k,SS nm,AG i,a]:=rfl;have g1:(AQ.mk [[AG k,SS nm,AG i,a],Z4] []).bs[1]?=some Z4:=rfl
 have copy:(k==2||k==3)=true->xM R 0 0 0 (AG op) (AG n) (.ptr 0 0) (.ptr 1 0) ⟨[[AG k,SS nm,AG i,a],Z4],[]⟩ (QP Post):=by
  intro hk;rw[hk] at hP;simp only[AM] at hP;refine AIr (Ag g0 rfl (Bj (Bq (Ax _ _) rfl rfl AI (AN _) (by simp[ha.ok]) (.inl (AN _)) ?_)))
  show E2 ⟨[[AG k,SS nm,AG i,a],Z4,[AG k,SS nm,AG i,a]],[]⟩ _ _ _
  have g2:(AQ.mk [[AG k,SS nm,AG i,a],Z4,[AG k,SS nm,AG i,a]] []).bs[2]?=some [AG k,SS nm,AG i,a]:=rfl;refine AO (AX g2) (C2 (off:=3) g2 AD rfl (AN _) rfl (.inl (AN _)) ?_);exact ABb (g:=g) ha hl (ih hk) (λr h=>hP r h) ts.length 0 _ (.AE []) AA rfl rfl rfl (.inl rfl)
 refine AO (AX g0) (AZ (off:=0) g0 rfl (EM ?_));cases h3:(k==3) with
 | true=>
  simp_all
 | false=>
  have:(k != 3)=true:=AB;rw[this];refine Ak (AO (AX g0) (Ak (AZ (off:=0) g0 rfl (Ak (EM (pk ?_))))));cases h2:(k==2) with
  | true=>
   simp_all
  | false=>
   have:(k != 2)=true:=AB;simp only[this,AM];rw[h2,h3] at hP;exact A9 (Ag g0 rfl (G3 g1 rfl (t:=.mk k nm i ts) ⟨a,rfl,.inl ha⟩ hP))
theorem RI {f:Int->Ty} {k i:Int} {nm:List UInt8} {ts:List Ty} (h5:(k==5)=false):Bs f (.mk k nm i ts)=bif k==2||k==3 then .mk k nm i (ts.map (Bs f)) else .mk k nm i ts:=by grind[Bs,U7]
theorem U8 {k i:Int} {nm:List UInt8} {ts:List Ty} (h5:(k==5)=false) (h:Xp (.mk k nm i ts)=true):(k==2||k==3)=true->RH ts=true:=by grind[Xp]
mutual
theorem Og {n:Nat} (hn:n<2 ^ 60):∀(t:Ty),size t<2 ^ 37->Xp t=true->∀(x:AV),A7 t x->Af (env R) 112 [x,AG n] λr=>A7 (G0 n t) r
 | .mk k nm i ts,h,hv,x,hx=>by
  have hx0:=hx;obtain⟨a,rfl,ha⟩:=hx;simp only[size] at h;have hln:=BV ts;have hma:=λh5:(k==5)=false=>Zo (R:=R) (op:=0) (n:=n) (g:=G0 n) AA (λhk t ht=>.inl ⟨rfl,R9 hn ts AA (U8 h5 hv hk) t ht⟩) hx0
  suffices H:∀Post:AV->Prop,(∀r,A7 (G0 n (.mk k nm i ts)) r->Post r)->xN R 0 0 0 (.agg [AG k,SS nm,AG i,a]) (AG n) ⟨[],[]⟩ (QP Post) from
   AY3 (u0:=.agg [AG k,SS nm,AG i,a]) (u1:=AG n) (by simp[ha.close]) (H _ λr h=>h)
  intro Post hP;refine AIs (Bx (cs:=[AG k,SS nm,AG i,a]) rfl (by simp[ha.ok]) (Bj ?_));simp only[Cm,Bz,DH,Bt,CQ];have g0:(AQ.mk [[AG k,SS nm,AG i,a],Z4] []).bs[0]?=some [AG k,SS nm,AG i,a]:=rfl;have g1:(AQ.mk [[AG k,SS nm,AG i,a],Z4] []).bs[1]?=some Z4:=rfl;refine AO (AX g0) (AZ (off:=0) g0 rfl (A0 ?_));cases h5:(k==5) with
  | true=>
   have:k=5:=AB;subst this;obtain⟨rfl,rfl,sw,hi1⟩:=TA hv;rw[G0,Bs] at hP;have same:(∀r,A7 (var i) r->Post r)->xQ R 0 0 0 (.ptr 0 0) (.ptr 1 0) ⟨[[AG 5,SS [],AG i,a],Z4],[]⟩ (QP Post):=λhP=>xS (Ag g0 rfl (G3 g1 rfl (t:=var i) ⟨a,rfl,.inl ha⟩ hP))
   refine A9 (AO (AX g0) (AZ (off:=2) g0 rfl (Ko ?_)))
   by_cases h0:0<=i
   .have e0:i>=0:=h0
    rw[Ar e0];rw[Ar h0] at hP;refine Ak (AO (AX g0) (Ak (AZ (off:=2) g0 rfl (Ak (EM (pk ?_))))));cases hh:(i==hole) with
    | true=>
     have:(i != 1073741824)=false:=by
      have:(i==1073741824)=true:=hh
      grind
     simp_all
    | false=>
     have:(i != 1073741824)=true:=by
      have:(i==1073741824)=false:=hh
      grind
     simp only[this,AM];rw[hh] at hP;refine A9 (AO (AX g0) (AZ (off:=2) g0 rfl (Ba AA AA (AO (AX g0) (C2 (off:=2) g0 AD rfl (AN _) rfl (.inl (AN _)) ?_)))));have sP:(AQ.mk ([[AG 5,SS [],AG i,a],Z4].set 0 ([AG 5,SS [],AG i,a].set 2 (AG (i+n)))) []).bs[0]?=some [AG 5,SS [],AG (i+n),a]:=rfl;have g1':(AQ.mk ([[AG 5,SS [],AG i,a],Z4].set 0 ([AG 5,SS [],AG i,a].set 2 (AG (i+n)))) []).bs[1]?=some Z4:=rfl;exact xS (Ag sP rfl (G3 g1' rfl (t:=var (i+n)) ⟨a,rfl,.inl ha⟩ hP))
   grind[B8,pk,Ay]
  | false=>
   rw[G0,RI h5] at hP;refine Ay (AIt (Ag g0 rfl (AL (hma h5) ?_)));intro r hr;obtain⟨rc,rfl⟩:=hr.Fj.agg;exact G3 g1 rfl hr.Fj hP
theorem R9 {n:Nat} (hn:n<2 ^ 60):∀(l:List Ty),Ac l<2 ^ 37->RH l=true->∀t∈l,Af (env R) 112 [.agg ((Aj t).map .pv),AG n] λr=>A7 (G0 n t) r
 | [],_,_,_,h=>by cases h
 | e::l,h,hv,t,hm=>by
  simp only[Ac] at h;simp only[RH,AH] at hv;rcases A5.1 hm with h' | h'
  .rw[h']
   exact Og hn e AA hv.1 _ (A7.Bi e)
  .exact R9 hn l AA hv.2 t h'
end
mutual
theorem Xq:∀(t:Ty),size t<2 ^ 37->Xp t=true->∀(x:AV),A7 t x->Af (env R) 97 [x] λr=>A7 (qD t) r
 | .mk k nm i ts,h,hv,x,hx=>by
  have hx0:=hx;obtain⟨a,rfl,ha⟩:=hx;simp only[size] at h;have hln:=BV ts;have hma:=λh5:(k==5)=false=>Zo (R:=R) (op:=1) (n:=0) (g:=qD) AA (λhk t ht=>.inr (.inl ⟨rfl,U9 ts AA (U8 h5 hv hk) t ht⟩)) hx0
  suffices H:∀Post:AV->Prop,(∀r,A7 (qD (.mk k nm i ts)) r->Post r)->AEA R 0 0 0 (.agg [AG k,SS nm,AG i,a]) ⟨[],[]⟩ (QP Post) from
   e97 (u0:=.agg [AG k,SS nm,AG i,a]) (by simp[ha.close]) (H _ λr h=>h)
  intro Post hP;refine AQI (Bx (cs:=[AG k,SS nm,AG i,a]) rfl (by simp[ha.ok]) (Bj ?_));simp only[Cm,Bz,DH,Bt,CQ];have g0:(AQ.mk [[AG k,SS nm,AG i,a],Z4] []).bs[0]?=some [AG k,SS nm,AG i,a]:=rfl;have g1:(AQ.mk [[AG k,SS nm,AG i,a],Z4] []).bs[1]?=some Z4:=rfl;refine AO (AX g0) (AZ (off:=0) g0 rfl (A0 ?_));cases h5:(k==5) with
  | true=>
   have:k=5:=AB;subst this;obtain⟨rfl,rfl,sw,hi1⟩:=TA hv;rw[qD,Bs] at hP;refine A9 (AO (AX g0) (AZ (off:=2) g0 rfl (Hf AA AA (AL (J2 (-1-i)) ?_))));rintro _ rfl;exact G3 g1 rfl (t:=var (-1-i)) (TB _).Fj hP
  | false=>
   rw[qD,RI h5] at hP;refine Ay (AQJ (Ag g0 rfl (AL (hma h5) ?_)));intro r hr;obtain⟨rc,rfl⟩:=hr.Fj.agg;exact G3 g1 rfl hr.Fj hP
theorem U9:∀(l:List Ty),Ac l<2 ^ 37->RH l=true->∀t∈l,Af (env R) 97 [.agg ((Aj t).map .pv)] λr=>A7 (qD t) r
 | [],_,_,_,h=>by cases h
 | e::l,h,hv,t,hm=>by
  simp only[Ac] at h;simp only[RH,AH] at hv;rcases A5.1 hm with h' | h'
  .rw[h']
   exact Xq e AA hv.1 _ (A7.Bi e)
  .exact U9 l AA hv.2 t h'
end
mutual
theorem Xr (n:Nat):∀(t:Ty),size t<2 ^ 37->Xp t=true->∀(x:AV),A7 t x->Af (env R) 128 [x,AG n] λr=>A7 (Hq n t) r
 | .mk k nm i ts,h,hv,x,hx=>by
  have hx0:=hx;obtain⟨a,rfl,ha⟩:=hx;simp only[size] at h;have hln:=BV ts;have hma:=λh5:(k==5)=false=>Zo (R:=R) (op:=2) (n:=n) (g:=Hq n) AA (λhk t ht=>.inr (.inr ⟨rfl,VA n ts AA (U8 h5 hv hk) t ht⟩)) hx0
  suffices H:∀Post:AV->Prop,(∀r,A7 (Hq n (.mk k nm i ts)) r->Post r)->xT R 0 0 0 (.agg [AG k,SS nm,AG i,a]) (AG n) ⟨[],[]⟩ (QP Post) from
   AY4 (u0:=.agg [AG k,SS nm,AG i,a]) (u1:=AG n) (by simp[ha.close]) (H _ λr h=>h)
  intro Post hP;refine AIu (Bx (cs:=[AG k,SS nm,AG i,a]) rfl (by simp[ha.ok]) (Bj ?_));simp only[Cm,Bz,DH,Bt,CQ];have g0:(AQ.mk [[AG k,SS nm,AG i,a],Z4] []).bs[0]?=some [AG k,SS nm,AG i,a]:=rfl;have g1:(AQ.mk [[AG k,SS nm,AG i,a],Z4] []).bs[1]?=some Z4:=rfl;refine AO (AX g0) (AZ (off:=0) g0 rfl (A0 ?_));cases h5:(k==5) with
  | true=>
   have:k=5:=AB;subst this;obtain⟨rfl,rfl,sw,hi1⟩:=TA hv;rw[Hq,Bs] at hP;refine A9 (AO (AX g0) (AZ (off:=2) g0 rfl (A0 ?_)));cases hm1:(i==-1) with
   | true=>
    rw[hm1] at hP;refine A9 (AL (J2 n) ?_);rintro _ rfl;exact G3 g1 rfl (t:=var n) (TB _).Fj hP
   | false=>
    rw[hm1] at hP;refine Ay (AO (AX g0) (AZ (off:=2) g0 rfl (Ao ?_)))
    by_cases h0:i<0
    .rw[Ar h0] at hP ⊢
     refine A9 (AO (AX g0) (AZ (off:=2) g0 rfl (Ba AA AA (AL (J2 (i+1)) ?_))));rintro _ rfl;exact G3 g1 rfl (t:=var (i+1)) (TB _).Fj hP
    .rw[Az h0] at hP ⊢
     exact Ay (AIv (Ag g0 rfl (G3 g1 rfl (t:=var i) ⟨a,rfl,.inl ha⟩ hP)))
  | false=>
   rw[Hq,RI h5] at hP;refine Ay (AIw (Ag g0 rfl (AL (hma h5) ?_)));intro r hr;obtain⟨rc,rfl⟩:=hr.Fj.agg;exact G3 g1 rfl hr.Fj hP
theorem VA (n:Nat):∀(l:List Ty),Ac l<2 ^ 37->RH l=true->∀t∈l,Af (env R) 128 [.agg ((Aj t).map .pv),AG n] λr=>A7 (Hq n t) r
 | [],_,_,_,h=>by cases h
 | e::l,h,hv,t,hm=>by
  simp only[Ac] at h;simp only[RH,AH] at hv;rcases A5.1 hm with h' | h'
  .rw[h']
   exact Xr n e AA hv.1 _ (A7.Bi e)
  .exact VA n l AA hv.2 t h'
end
end
section
variable {R:RT}
theorem ABd {ts:List Ty} {a:AV} (ha:A2 a (Ad ts)) (hl:ts.length<2 ^ 37) {n i:Int} {nm:List UInt8} {p:Int->Bool} (ih:∀t∈ts,Af (env R) 105 [.agg ((Aj t).map .pv),AG n] λr=>r=BB (oA p t)) {s:AQ} (g0:s.bs[0]?=some [AG 2,SS nm,AG i,a]) {Post:AV->Prop} (hP:Post (BB (T6 p ts))) :
  ∀(j q:Nat),q+j=ts.length->T6 p (ts.drop q)=T6 p ts->xU R 0 0 0 (AG n) (.ptr 0 0) (AG q) s (QP Post):=by
 intro j
 induction j with
 | zero=>
  intro q hi ho;refine jK (AO (AX g0) (AZ (off:=0) g0 rfl (A0 (Ak (Ak (AO (AX g0) (Ak (AZ (off:=3) g0 rfl (Ak (Aq (n:=ts.length) (by rw[ha.BA,Aa]) (Ak (Ao (pk ?_)))))))))))));rw[Az AA];rw[CH AA,T6] at ho;rw[<-ho] at hP;exact Ay (xV ⟨_,Hu,hP⟩)
 | succ j D1=>
  intro q hi ho;refine jK (AO (AX g0) (AZ (off:=0) g0 rfl (A0 (Ak (Ak (AO (AX g0) (Ak (AZ (off:=3) g0 rfl (Ak (Aq (n:=ts.length) (by rw[ha.BA,Aa]) (Ak (Ao (pk ?_)))))))))))));rw[Ar AA];obtain⟨t,ht⟩:∃t,ts[q]?=some t:=⟨_,Au AA⟩;rw[drop_cons ht,T6] at ho;refine A9 (AIx (AO (AX g0) (AZ (off:=3) g0 rfl (BM ha (row:=Aj t) AA (by simp[*,BJ]) (Al t) AA (Ca (AL (ih t (A3 ht)) ?_))))));rintro _ rfl;cases sC:oA p t with
  | true=>
   rw[sC] at ho;rw[<-ho] at hP;exact A9 ⟨_,Hu,hP⟩
  | false=>
   rw[sC] at ho;refine Ay (AIy (Ba AA AA ?_));have:=D1 (q+1) AA (by simpa using ho);simpa using this
mutual
theorem mN (n:Int):∀(t:Ty),size t<2 ^ 37->∀(x:AV),A7 t x->Af (env R) 105 [x,AG n] λr=>r=BB (oA (·==n) t)
 | .mk k nm i ts,h,x,hx=>by
  obtain⟨a,rfl,ha⟩:=hx;simp only[size] at h;have hln:=BV ts
  suffices H:∀Post:AV->Prop,Post (BB (oA (·==n) (.mk k nm i ts)))->xW R 0 0 0 (.agg [AG k,SS nm,AG i,a]) (AG n) ⟨[],[]⟩ (QP Post) from
   AY5 (u0:=.agg [AG k,SS nm,AG i,a]) (u1:=AG n) (by simp[ha.close]) (H _ rfl)
  intro Post hP;refine AIz (Bx (cs:=[AG k,SS nm,AG i,a]) rfl (by simp[ha.ok]) ?_);simp only[Cm,Bz];have g0:(AQ.mk [[AG k,SS nm,AG i,a]] []).bs[0]?=some [AG k,SS nm,AG i,a]:=rfl;refine AO (AX g0) (AZ (off:=0) g0 rfl (A0 ?_));rw[oA] at hP;cases h5:(k==5) with
  | true=>
   rw[h5] at hP;exact A9 (AO (AX g0) (AZ (off:=2) g0 rfl (A0 ⟨_,Hu,hP⟩)))
  | false=>
   rw[h5] at hP;refine Ay (AI0 ?_);cases h2:(k==2) with
   | true=>
    have:k=2:=AB;subst this;exact ABd (p:=(·==n)) ha AA (dm n ts AA) g0 hP ts.length 0 AA rfl
   | false=>
    rw[h2] at hP;refine jK (AO (AX g0) (AZ (off:=0) g0 rfl (A0 ?_)));rw[h2];exact B8 (B8 (B8 (B8 (B8 (pk (Ay (xV ⟨_,Hu,hP⟩)))))))
theorem dm (n:Int):∀(l:List Ty),Ac l<2 ^ 37->∀t∈l,Af (env R) 105 [.agg ((Aj t).map .pv),AG n] λr=>r=BB (oA (·==n) t)
 | [],_,_,h=>by cases h
 | e::l,h,t,hm=>by
  simp only[Ac] at h;rcases A5.1 hm with h' | h'
  .rw[h']
   exact mN n e AA _ (A7.Bi e)
  .exact dm n l AA t h'
end
theorem ABe {ts:List Ty} {a:AV} (ha:A2 a (Ad ts)) (hl:ts.length<2 ^ 37) {n i:Int} {nm:List UInt8} {p:Int->Bool} (ih:∀t∈ts,Af (env R) 66 [.agg ((Aj t).map .pv),AG n] λr=>r=BB (oI p t)) {s:AQ} (g0:s.bs[0]?=some [AG 3,SS nm,AG i,a]) {Post:AV->Prop} (hP:Post (BB (J9 p ts))) :
  ∀(j q:Nat),q+j=ts.length->J9 p (ts.drop q)=J9 p ts->AEB R 0 0 0 (AG n) (.ptr 0 0) (AG q) s (QP Post):=by
 intro j
 induction j with
 | zero=>
  intro q hi ho;refine xX (AO (AX g0) (AZ (off:=0) g0 rfl (A0 (Ak (Ak (AO (AX g0) (Ak (AZ (off:=3) g0 rfl (Ak (Aq (n:=ts.length) (by rw[ha.BA,Aa]) (Ak (Ao (pk ?_)))))))))))));rw[Az AA];rw[CH AA,J9] at ho;rw[<-ho] at hP;exact Ay (AEC ⟨_,Hu,hP⟩)
 | succ j D1=>
  intro q hi ho;refine xX (AO (AX g0) (AZ (off:=0) g0 rfl (A0 (Ak (Ak (AO (AX g0) (Ak (AZ (off:=3) g0 rfl (Ak (Aq (n:=ts.length) (by rw[ha.BA,Aa]) (Ak (Ao (pk ?_)))))))))))));rw[Ar AA];obtain⟨t,ht⟩:∃t,ts[q]?=some t:=⟨_,Au AA⟩;rw[drop_cons ht,J9] at ho;refine A9 (AQK (AO (AX g0) (AZ (off:=3) g0 rfl (BM ha (row:=Aj t) AA (by simp[*,BJ]) (Al t) AA (Ca (AL (ih t (A3 ht)) ?_))))));rintro _ rfl;cases sC:oI p t with
  | true=>
   rw[sC] at ho;rw[<-ho] at hP;exact A9 ⟨_,Hu,hP⟩
  | false=>
   rw[sC] at ho;refine Ay (AQL (Ba AA AA ?_));have:=D1 (q+1) AA (by simpa using ho);simpa using this
mutual
theorem mO (n:Int):∀(t:Ty),size t<2 ^ 37->∀(x:AV),A7 t x->Af (env R) 66 [x,AG n] λr=>r=BB (oI (·==n) t)
 | .mk k nm i ts,h,x,hx=>by
  have hoA:=mN (R:=R) n (.mk k nm i ts) h x hx;obtain⟨a,rfl,ha⟩:=hx;simp only[size] at h;have hln:=BV ts
  suffices H:∀Post:AV->Prop,Post (BB (oI (·==n) (.mk k nm i ts)))->AED R 0 0 0 (.agg [AG k,SS nm,AG i,a]) (AG n) ⟨[],[]⟩ (QP Post) from
   e66 (u0:=.agg [AG k,SS nm,AG i,a]) (u1:=AG n) (by simp[ha.close]) (H _ rfl)
  intro Post hP;refine AQM (Bx (cs:=[AG k,SS nm,AG i,a]) rfl (by simp[ha.ok]) ?_);simp only[Cm,Bz];have g0:(AQ.mk [[AG k,SS nm,AG i,a]] []).bs[0]?=some [AG k,SS nm,AG i,a]:=rfl;refine AO (AX g0) (AZ (off:=0) g0 rfl (A0 ?_));rw[oI] at hP;cases h2:(k==2) with
  | true=>
   rw[h2] at hP;refine A9 (Ag g0 rfl (AL hoA ?_));rintro _ rfl;exact⟨_,Hu,hP⟩
  | false=>
   rw[h2] at hP;refine Ay (AQN ?_);cases h3:(k==3) with
   | true=>
    have:k=3:=AB;subst this;exact ABe (p:=(·==n)) ha AA (dn n ts AA) g0 hP ts.length 0 AA rfl
   | false=>
    rw[h3] at hP;refine xX (AO (AX g0) (AZ (off:=0) g0 rfl (A0 ?_)));rw[h3];exact B8 (B8 (B8 (B8 (B8 (pk (Ay (AEC ⟨_,Hu,hP⟩)))))))
theorem dn (n:Int):∀(l:List Ty),Ac l<2 ^ 37->∀t∈l,Af (env R) 66 [.agg ((Aj t).map .pv),AG n] λr=>r=BB (oI (·==n) t)
 | [],_,_,h=>by cases h
 | e::l,h,t,hm=>by
  simp only[Ac] at h;rcases A5.1 hm with h' | h'
  .rw[h']
   exact mO n e AA _ (A7.Bi e)
  .exact dn n l AA t h'
end
theorem qj {L:BL} {s:AQ} {a y:AV} {l m:List Int} {K:AV->AQ->Prop} (ha:Dl 0 s.ts 3 a (Ab l)) (Ee:L.rt=0) (hl:l.length+m.length<2 ^ 40) (hy:BE y (Ab m)) (h:∀a' ts',Dl 0 ts' 3 a' (Ab (l++m))->Cd a a' s.ts ts'->K a' ⟨s.bs,ts'⟩) :
  Ik false L s 3 1 8 a y K:=by
 have h1:=BF l;have h2:=BF m;refine Q4 (m:=Ab m) ha Ee DW DW AA (Dh hy DW) ?_ AA AA λa' ts' h3 h4=>h a' ts' (by grind[Ab]) h4
 rw[C3];intro c hc;obtain⟨p,hp,rfl⟩:=CR.1 hc;obtain⟨r,hr,hpr⟩:=Sk.1 hp;simp only[Ab,CR] at hr;obtain⟨n,_,rfl⟩:=hr
 simp_all
theorem ABf {ts:List Ty} {a:AV} (ha:A2 a (Ad ts)) (hl:Ac ts<2 ^ 37) {i:Int} {nm:List UInt8} (ih:∀t∈ts,Af (env R) 76 [.agg ((Aj t).map .pv)] λr=>A2 r (Ab (Ae t))) {bs:List (List AV)} (g0:bs[0]?=some [AG 3,SS nm,AG i,a]) {Post:AV->Prop} (hP:∀r,A2 r (Ab (Bk ts))->Post r) :
  ∀(j q:Nat) (tk:List (Nat×Nat)) (b:AV) (l:List Int),q+j=ts.length->l++Bk (ts.drop q)=Bk ts->Dl 0 tk 3 b (Ab l)->AEE R 0 0 0 (.ptr 0 0) b (AG q) ⟨bs,tk⟩ (QP Post):=by
 have hln:=BV ts;have Ff:=OV ts;intro j
 induction j with
 | zero=>
  intro q tk b l hi ho hb;refine xY (AO (AX g0) (AZ (off:=0) g0 rfl (A0 (Ak (Ak (AO (AX g0) (Ak (AZ (off:=3) g0 rfl (Ak (Aq (n:=ts.length) (by rw[ha.BA,Aa]) (Ak (Ao (pk ?_)))))))))))));rw[Az AA];rw[CH AA,Bk,HO] at ho;subst ho;obtain⟨r,c1,c2⟩:=L3 hb bs 0;exact Ay (AEF ⟨r,c1,hP r c2⟩)
 | succ j D1=>
  intro q tk b l hi ho hb;refine xY (AO (AX g0) (AZ (off:=0) g0 rfl (A0 (Ak (Ak (AO (AX g0) (Ak (AZ (off:=3) g0 rfl (Ak (Aq (n:=ts.length) (by rw[ha.BA,Aa]) (Ak (Ao (pk ?_)))))))))))));rw[Ar AA];obtain⟨t,ht⟩:∃t,ts[q]?=some t:=⟨_,Au AA⟩;rw[drop_cons ht,Bk,<-Du] at ho;have hlen:(l++Ae t).length<=(Bk ts).length:=AB;rw[Bd] at hlen;refine A9 (AQO (AO (AX g0) (AZ (off:=3) g0 rfl (BM ha (row:=Aj t) AA (by grind[BJ]) (Al t) AA (Ca (AL (ih t (A3 ht)) ?_))))));intro v hv;refine⟨AI,qj hb rfl AA (.inl hv) λb' GH hb' _=>AQP (Ba AA AA ?_)⟩
  grind
mutual
theorem RJ:∀(t:Ty),size t<2 ^ 37->∀(x:AV),A7 t x->Af (env R) 76 [x] λr=>A2 r (Ab (Ae t))
 | .mk k nm i ts,h,x,hx=>by
  obtain⟨a,rfl,ha⟩:=hx;simp only[size] at h;have hln:=BV ts
  suffices H:∀Post:AV->Prop,(∀r,A2 r (Ab (Ae (.mk k nm i ts)))->Post r)->AEG R 0 0 0 (.agg [AG k,SS nm,AG i,a]) ⟨[],[]⟩ (QP Post) from
   e76 (u0:=.agg [AG k,SS nm,AG i,a]) (by simp[ha.close]) (H _ λr h=>h)
  intro Post hP;refine AQQ (Bx (cs:=[AG k,SS nm,AG i,a]) rfl (by simp[ha.ok]) ?_);simp only[Cm,Bz];have g0:(AQ.mk [[AG k,SS nm,AG i,a]] []).bs[0]?=some [AG k,SS nm,AG i,a]:=rfl;refine AO (AX g0) (AZ (off:=0) g0 rfl (A0 ?_));rw[Ae] at hP;cases h5:(k==5) with
  | true=>
   rw[h5] at hP;refine A9 (AO (AX g0) (AZ (off:=2) g0 rfl (Pv ?_)));exact⟨_,(A2.AE _).close _ _ _,hP _ (by grind[Ab,A2.AE])⟩
  | false=>
   rw[h5] at hP;refine Ay (AQR ?_);cases h3:(k==3) with
   | true=>
    have:k=3:=AB;subst this;exact ABf ha AA (VC ts AA) g0 hP ts.length 0 [] (.AE []) [] AA rfl (.inl rfl)
   | false=>
    rw[h3] at hP;refine xY (AO (AX g0) (AZ (off:=0) g0 rfl (A0 ?_)));rw[h3];exact B8 (B8 (B8 (B8 (B8 (pk (Ay (AEF ⟨_,(A2.AE _).close _ _ _,hP _ (.AE _)⟩)))))))
theorem VC:∀(l:List Ty),Ac l<2 ^ 37->∀t∈l,Af (env R) 76 [.agg ((Aj t).map .pv)] λr=>A2 r (Ab (Ae t))
 | [],_,_,h=>by cases h
 | e::l,h,t,hm=>by
  simp only[Ac] at h;rcases A5.1 hm with h' | h'
  .rw[h']
   exact RJ e AA _ (A7.Bi e)
  .exact VC l AA t h'
end
def Xs (b:Ty):Int:=match Fb b with
 | some k=>k
 | none=>-1
theorem ABg {l:List Int} {y:AV} (hy:A2 y (Ab l)) (hl:l.length<2 ^ 40) {s:AQ} {Post:AV->Prop} (hP:Post (AG (match l.findIdx? (·==hole) with
   | some k=>k
   | none=>-1))):∀(j q:Nat),q+j=l.length->(∀x∈l.take q,(x==hole)=false)->xZ R 0 0 0 y (AG q) s (QP Post):=by
 intro j
 induction j with
 | zero=>
  intro q hi ho;refine xd (Aq (n:=l.length) (by rw[hy.BA,BF]) (Ao ?_));rw[Az AA];rw[CU AA] at ho;have:l.findIdx? (·==hole)=none:=AB;rw[this] at hP;exact Ay (AI1 ⟨_,Hu,hP⟩)
 | succ j D1=>
  intro q hi ho;refine xd (Aq (n:=l.length) (by rw[hy.BA,BF]) (Ao ?_));rw[Ar AA];obtain⟨c,hc⟩:∃t,l[q]?=some t:=⟨_,Au AA⟩;refine A9 (AI2 (BM hy (row:=[.sc (.int .i64 c)]) AA (by simp[*,Ab]) rfl AA (Dy (A0 ?_))));cases hh:(c==hole) with
  | true=>
   have e1:(c==1073741824)=true:=hh;rw[e1]
   have:l.findIdx? (·==hole)=some q:=by
    obtain⟨hlt,hge⟩:=BH.1 hc;rw[kC];refine⟨hlt,AB,λj hj=>?_⟩;have:=ho l[j] (NJ.2 ⟨j,AB,by rw[List.getElem_take]⟩)
    grind
   rw[this] at hP;exact A9 ⟨_,Hu,hP⟩
  | false=>
   have e1:(c==1073741824)=false:=hh;rw[e1];refine Ay (AI3 (Ba AA AA ?_));have:=D1 (q+1) AA (λx hx=>by grind[List.take_add_one])
   grind
theorem J3 {b:Br} (h:size b.body<2 ^ 37) {x:AV} (hx:CG b x):Af (env R) 129 [x] λr=>r=AG (Xs b.body):=by
 obtain⟨x',h1,h2,h3⟩:=hx.closed;refine Af.open (args':=[x']) AR AR rfl h1 h2 ?_;obtain⟨a,y,rfl,ha,hy⟩:=h3;obtain⟨h4,hok,hid,Ff⟩:=hy.cells;refine AY6 (u0:=.agg (a::y)) AA (AI4 ?_);refine Bx (cs:=a::y) rfl (by simp[ha.ok]; grind) (AO (AX (c:=a) (cs:=y) rfl) ?_)
 show D5 _ _ _ (.ptr 0 1) _
 refine ZX rfl h4 (AL (RJ b.body h _ hy) ?_);intro v hv;have:=Ea b.body;exact ABg (Post:=λr=>r=AG (Xs b.body)) hv AA (by rw[Xs,Fb]) (Ae b.body).length 0 AA (λx hx=>by grind)
end
mutual
def qm (b:Ty):Ty->Int->Ty
 | .mk c n i ts,k=>bif c==5 then(bif k==0 then b else .mk c n i ts) else bif c==3 then .mk c n i (RK b ts k) else .mk c n i ts
def RK (b:Ty):List Ty->Int->List Ty
 | [],_=>[]
 | t::l,k=>qm b t k::RK b l (k-(Ae t).length)
end
mutual
theorem mP (b:Ty):∀(t:Ty) (k:Int),k<0\/((Ae t).length:Int)<=k->qm b t k=t
 | .mk c n i ts,k,h=>by
  rw[Ae] at h;rw[qm];cases h5:c==5 with
  | true=>
   grind
  | false=>
   cases h3:c==3 with
   | true=>
    rw[h5,h3] at h;simp only[AM,AK] at h ⊢;rw[VD b ts k h]
   | false=>rfl
theorem VD (b:Ty):∀(l:List Ty) (k:Int),k<0\/((Bk l).length:Int)<=k->RK b l k=l
 | [],_,_=>rfl
 | t::l,k,h=>by
  rw[Bk,Bd] at h;rw[RK,mP b t k AA,VD b l (k-(Ae t).length) AA]
end
mutual
theorem xe (b:Ty):∀(t:Ty) (k:Nat),k<(Ae t).length->qm b t k=MQ b t k
 | .mk c n i ts,k,h=>by
  rw[Ae] at h;rw[qm,MQ];cases h5:c==5 with
  | true=>
   grind
  | false=>
   cases hc:c==3 with
   | true=>
    rw[h5,hc] at h;simp only[AM,AK] at h ⊢;rw[mQ b ts k h]
   | false=>rfl
theorem mQ (b:Ty):∀(l:List Ty) (k:Nat),k<(Bk l).length->RK b l k=Gl b l k
 | [],_,h=>by rfl
 | t::l,k,h=>by
  rw[Bk,Bd] at h;rw[RK,Gl]
  by_cases hk:k<(Ae t).length
  .rw[Ar hk,AM,xe b t k hk,VD b l _ AA]
  .have:(k:Int)-((Ae t).length:Nat)=((k-(Ae t).length:Nat):Int):=by omega
   rw[Az hk,AK,mP b t k AA,this,mQ b l (k-(Ae t).length) AA]
end
section
variable {R:RT}
def xh (R:RT) (C:Nat) (b:Ty) (y:AV) (x:AV) (t:Ty) (k:Int) (s:AQ):Prop:=∀(L:BL),L.ro=0->L.rt=0->s.bs[C]?=some [AG k] ->
 ∃w s',(∃ts' ds,w=.agg ds/\BP (qm b t k) (.agg ds)/\Cd (.AE []) (.AE []) s.ts ts'/\s'=⟨s.bs.set C [AG (k-(Ae t).length)],ts'⟩)/\BW (env R) L 111 [x,.ptr C 0,y] s w s'
theorem ABh {C:Nat} {b:Ty} {yc:List AV} {ts:List Ty} {a:AV} (ha:BE a (Ad ts)) (hl:Ac ts<2 ^ 38) {k i k0:Int} {n:List UInt8} (TD:-(2 ^ 40)-2 ^ 38<=k0-Ac ts) (hk2:k0<2 ^ 40) {s0:AQ} (hs0:BI s0) (hC:C<s0.bs.length) (hyl:yc.length=4)
  (ih:∀t∈ts,∀(k:Int) (s:AQ),BI s->-(2 ^ 40)-2 ^ 38<=k-size t->k<2 ^ 40->xh R C b (.agg yc) (.agg ((Aj t).map .pv)) t k s)
  {rr:Bool} {Post:AV->AQ->Prop}
  (hP:∀ts' ds,Cd (.AE []) (.AE []) s0.ts ts'->BP (.mk k n i (RK b ts k0)) (.agg ds)->Post (.agg ds) ⟨s0.bs.set C [AG (k0-(Bk ts).length)],ts'⟩) :
  ∀(j q:Nat) (kc:Int) (done:List Ty) (bs:List (List AV)) (tk:List (Nat×Nat)) (acc:AV),q+j=ts.length->done++RK b (ts.drop q) kc=RK b ts k0->done.length=q->kc-(Bk (ts.drop q)).length=k0-(Bk ts).length->k0-Ac ts<=kc-Ac (ts.drop q)->kc<2 ^ 40 ->
   BI ⟨bs,tk⟩->bs.take s0.bs.length=s0.bs.set C [AG kc]->bs[s0.bs.length]?=some [AG k,SS n,AG i,a]->bs[s0.bs.length+1]?=some yc->bs[s0.bs.length+2]?=some Z4->bs[s0.bs.length+3]?=some [AG k,SS n,AG i,acc] ->
   Dl 0 tk 25 acc (Ad done)->Cd (.AE []) (.AE []) s0.ts tk->DS acc s0.ts ->
   jL R 0 0 0 (.ptr C 0) (.ptr s0.bs.length 0) (.ptr (s0.bs.length+1) 0) (.ptr (s0.bs.length+2) 0) (.ptr (s0.bs.length+3) 0) (AG q) ⟨bs,tk⟩ (QM rr s0.bs.length Post):=by
 have Tn:=BV ts;intro j
 induction j with
 | zero=>
  intro q kc done bs tk acc hi hd hdl hk hks MW hs hT h0 h1 h2 h3 hb hch hfr;refine xj (AO (AX h0) (AZ (off:=3) h0 rfl (Aq (n:=ts.length) (by rw[ha.BA,Aa]) (Ao ?_))));rw[Az AA];rw[CH AA,RK,HO] at hd;rw[CH AA,Bk] at hk;rw[hd] at hb;refine Ay (AI5 (Ag h3 rfl (Bq h2 rfl rfl AI (AN _) (by simp[hb.A1.ok]) (.inl (AN _)) (Ag (BZ h2) rfl ?_))));obtain⟨ds,c1,c2⟩:=BP.JT (v:=.mk k n i (RK b ts k0)) (cs:=[AG k,SS n,AG i,acc]) ⟨acc,rfl,hb.A1⟩ (bs.set (s0.bs.length+2) [AG k,SS n,AG i,acc]) s0.bs.length tk.length;have hkc:kc=k0-(Bk ts).length:=AB;rw[hkc] at hT;exact cr hs0 ((Cj AA).trans hT) rfl c1 (hP tk ds hch c2)
 | succ j D1=>
  intro q kc done bs tk acc hi hd hdl hk hks MW hs hT h0 h1 h2 h3 hb hch hfr;refine xj (AO (AX h0) (AZ (off:=3) h0 rfl (Aq (n:=ts.length) (by rw[ha.BA,Aa]) (Ao ?_))));rw[Ar AA];obtain⟨t,ht⟩:∃t,ts[q]?=some t:=⟨_,Au AA⟩;have Pz:=A3 ht;have fT:=ih t Pz;have hdr:ts.drop q=t::ts.drop (q+1):=drop_cons ht;rw[hdr,RK] at hd;rw[hdr,Bk,Bd] at hk;rw[hdr,Ac] at hks;have hcs:=Ea t;have l3:=(BH.1 h3).1;have gC:(s0.bs.set C [AG kc])[C]?=some [AG kc]:=by rw[CX hC]
  refine A9 (AI6 (AO (AX h3) (AZ (off:=3) h3 rfl (AO (AX h0) (AZ (off:=3) h0 rfl (BS ha (row:=Aj t) AA (by grind[BJ]) (Al _) AA (Ca (Ag h1 hyl ?_))))))));obtain⟨w,s',⟨ts',ds,rfl,r4,r2,rfl⟩,r6⟩:=fT kc ⟨bs,tk⟩ hs AA MW (Ce (env R) 111 0 0 0) rfl rfl (CD hT gC);have h0':(bs.set C [AG (kc-(Ae t).length)])[s0.bs.length]?=some [AG k,SS n,AG i,a]:=BQ h0 AA;have aM:(bs.set C [AG (kc-(Ae t).length)])[s0.bs.length+1]?=some yc:=BQ h1 AA;have h2':(bs.set C [AG (kc-(Ae t).length)])[s0.bs.length+2]?=some Z4:=BQ h2 AA;have h3':(bs.set C [AG (kc-(Ae t).length)])[s0.bs.length+3]?=some [AG k,SS n,AG i,acc]:=BQ h3 AA;refine⟨_,_,r6,E9 r4 ⟨AI,JS (r2.keep hb (λ_ h=>by cases h)) rfl AA ?_⟩⟩;intro b' GH hb' K7;refine AO (AX h3') (C2 h3' AD hb'.A1.cells (AN _) hb'.A1.ok (.inl (AN _)) ?_);refine⟨AO (AX h3') (EA _ _),AZ (off:=3) h3' rfl (Gp hb),AI7 (Ba AA AA ?_)⟩;have qP:((bs.set C [AG (kc-(Ae t).length)]).set (s0.bs.length+3) [AG k,SS n,AG i,b']).take s0.bs.length=s0.bs.set C [AG (kc-(Ae t).length)]:=by simp[*,Cj,EU]
  have hs2:BI ⟨bs.set C [AG (kc-(Ae t).length)],ts'⟩:=BI.set (s:=⟨bs,tk⟩) hs rfl _
  have fin:=D1 (q+1) (kc-(Ae t).length) (done++[qm b t kc]) _ GH b' AA (by simp[*]) AB AA AA AA
   (BI.set (s:=⟨bs.set C [AG (kc-(Ae t).length)],ts'⟩) hs2 (by simp[Ah,Aw,hb'.A1.Aw]) _) qP (BQ h0' AA) (BQ aM AA) (BQ h2' AA) (BZ h3')
   hb' ((hch.trans r2).side K7 hfr) (hfr.Py K7 (BK hch.1 r2.1))
  grind
mutual
theorem mR {C:Nat} {b:Ty} {y:AV} (hy:A7 b y):∀(t:Ty),size t<2 ^ 38->∀(x:AV),BP t x->∀(k:Int) (s:AQ),BI s->-(2 ^ 40)-2 ^ 38<=k-size t->k<2 ^ 40->xh R C b y x t k s
 | .mk k n i ts,h,x,hx,kc,s,hs,TD,hk2,L,hro,Ee,hC=>by
  have lC:=(BH.1 hC).1;have Tn:=BV ts;simp only[size] at h TD;obtain⟨yc,rfl⟩:=hy.Fj.agg;have hy':=hy;obtain⟨vn,hyo,hyi,_⟩:=hy'.cells;have hxi:=hx;obtain⟨a,rfl,ha⟩:=hx;refine AY7 (by simp[DK,Fx]) ?_;rw[hro,Ee];have same:s.bs.set C [AG kc]=s.bs:=by grind[List.set_getElem_self]
  refine AI8 (Bx (cs:=[AG k,SS n,AG i,a]) rfl (by simp[ha.ok]) (Bx (cs:=yc) rfl hyo (Bj ?_)));simp only[Du,DH,Cm,Bd,Bt,Bz,CQ,Nat.reduceAdd];have g0:(s.bs++[[AG k,SS n,AG i,a],yc,Z4])[s.bs.length]?=some [AG k,SS n,AG i,a]:=El (j:=0) rfl rfl;have g1:(s.bs++[[AG k,SS n,AG i,a],yc,Z4])[s.bs.length+1]?=some yc:=El rfl rfl;have g2:(s.bs++[[AG k,SS n,AG i,a],yc,Z4])[s.bs.length+2]?=some Z4:=El rfl rfl;have hT:(s.bs++[[AG k,SS n,AG i,a],yc,Z4]).take s.bs.length=s.bs.set C [AG kc]:=AB
  have hok:BI ⟨s.bs++[[AG k,SS n,AG i,a],yc,Z4],s.ts⟩:=by
   intro d hd;simp only[B4,A5,Ep,Er] at hd
   show Ah (s.bs++_).length d=true
   rcases hd with hd|rfl|rfl|rfl
   .exact Bp AD d (hs d hd)
   .simp[Ah,Aw,ha.Aw]
   .exact Bp (AN _) _ hyi
   rfl
  have hl:(s.bs++[[AG k,SS n,AG i,a],yc,Z4]).length=s.bs.length+3:=AD;generalize s.bs++[[AG k,SS n,AG i,a],yc,Z4]=bs at g0 g1 g2 hT hok hl;have gC:bs[C]?=some [AG kc]:=CD hT AB
  have back:∀(kd:Int) (bs:List (List AV)) (Post:AV->AQ->Prop),bs.take s.bs.length=s.bs.set C [AG kd]->bs[s.bs.length]?=some [AG k,SS n,AG i,a]->bs[s.bs.length+2]?=some Z4 ->
    (∀ds,BP (.mk k n i ts) (.agg ds)->Post (.agg ds) ⟨s.bs.set C [AG kd],s.ts⟩)->D5 (env R) ⟨bs,s.ts⟩ (some 4) (.ptr s.bs.length 0) λa26=>IM (Ce (env R) 111 0 0 0) ⟨bs,s.ts⟩ 4 (.ptr (s.bs.length+2) 0) a26 λdw=>D5 (env R) dw (some 4) (.ptr (s.bs.length+2) 0) λr=>QM (L.rr 111) s.bs.length Post r dw:=by
   intro kd bs Post hT g0 g2 hP;refine Ag g0 rfl (Bq g2 rfl rfl AI (AN _) (by simp[ha.ok]) (.inl (AN _)) (Ag (BZ g2) rfl ?_));exact Uk hs ((Cj AA).trans hT) rfl (t:=.mk k n i ts) ⟨a,rfl,ha⟩ hP
  refine AO (AX g0) (AZ (off:=0) g0 rfl (A0 ?_));cases h5:k==5 with
  | true=>
   have vp:qm b (.mk k n i ts) kc=bif kc==0 then b else .mk k n i ts:=by grind[qm]
   have vq:(Ae (.mk k n i ts)).length=1:=by grind[Ae]
   rw[vp,vq];refine A9 (C1 (AX gC) (AZ (off:=0) gC rfl (Hf AA AA (C1 (AX gC) (C2 gC AD rfl (AN _) rfl (.inl (AN _)) ?_)))));have gC':(bs.set C [AG (kc-1)])[C]?=some [AG (kc-1)]:=by rw[CX AA]
   have iV:(bs.set C [AG (kc-1)]).take s.bs.length=s.bs.set C [AG (kc-1)]:=by simp[*,EU]
   refine C1 (AX gC') (AZ (off:=0) gC' rfl (A0 ?_));have e0:(kc-1==-1)=(kc==0):=AB;rw[e0];cases sA:kc==0 with
   | true=>
    simp only[AM];refine A9 (Ag (BQ g1 AA) vn (Bq (BQ g2 AA) vn rfl AI (AN _) hyo (.inl (AN _)) (Ag (BZ (BQ g2 AA)) vn ?_)));refine Uk hs ((Cj AA).trans iV) rfl hy'.Fj λds hds=>⟨s.ts,ds,rfl,hds,Cd.refl _ _,rfl⟩
   | false=>
    simp only[AK];exact Ay (AI9 (back (kc-1) _ _ iV (BQ g0 AA) (BQ g2 AA) λds hds=>⟨s.ts,ds,rfl,hds,Cd.refl _ _,rfl⟩))
  | false=>
   refine Ay (AJA (AO (AX g0) (AZ (off:=0) g0 rfl (EM ?_))));cases h3:k==3 with
   | false=>
    have hne:(k != 3)=true:=AB;rw[hne];have vp:qm b (.mk k n i ts) kc=.mk k n i ts:=by grind[qm]
    have vq:(Ae (.mk k n i ts)).length=0:=by grind[Ae]
    rw[vp,vq];exact A9 (back kc bs _ hT g0 g2 λds hds=>⟨s.ts,ds,rfl,hds,Cd.refl _ _,AD⟩)
   | true=>
    have hne:(k != 3)=false:=AB;rw[hne];have vp:qm b (.mk k n i ts) kc=.mk k n i (RK b ts kc):=by grind[qm]
    have vq:Ae (.mk k n i ts)=Bk ts:=by grind[Ae]
    rw[vp,vq];refine Ay (AJB (Ag g0 rfl (Bj ?_)));simp only[hl];have gl:(bs++[Z4])[s.bs.length+3]?=some Z4:=AB;refine Bq gl rfl rfl AI (AN _) (by simp[ha.ok]) (.inl (AN _)) ?_;have gl2:((bs++[Z4]).set (s.bs.length+3) [AG k,SS n,AG i,a])[s.bs.length+3]?=some [AG k,SS n,AG i,a]:=BZ gl;refine AO (AX gl2) (C2 (off:=3) gl2 (AY 4) rfl (AN _) rfl (.inl (AN _)) ?_);have eb:((bs++[Z4]).set (s.bs.length+3) [AG k,SS n,AG i,a]).set (s.bs.length+3) ([AG k,SS n,AG i,a].set 3 (.AE []))=bs++[[AG k,SS n,AG i,.AE []]]:=AB
    show jL R 0 0 0 _ _ _ _ _ _ ⟨((bs++[Z4]).set (s.bs.length+3) [AG k,SS n,AG i,a]).set (s.bs.length+3) ([AG k,SS n,AG i,a].set 3 (.AE [])),s.ts⟩ _
    rw[eb]
    exact ABh (C:=C) (yc:=yc) ha AA (k0:=kc) AA hk2 hs lC vn (λt hm k s hs h1 h2=>dx hy' ts AA t hm k s hs h1 h2) (λts' ds h1 h2=>⟨ts',ds,rfl,h2,h1,rfl⟩) ts.length 0 kc [] _ s.ts (.AE []) AA AD rfl AD AD hk2
     (BI.app (s:=⟨bs,s.ts⟩) hok AR) ((DI AA _).trans hT) (Ai g0 _) (Ai g1 _) (Ai g2 _) AB (.inl rfl) (Cd.refl _ _) (DS.AE _ _)
theorem dx {C:Nat} {b:Ty} {y:AV} (hy:A7 b y):∀(ts:List Ty),Ac ts<2 ^ 38->∀t∈ts,∀(k:Int) (s:AQ),BI s->-(2 ^ 40)-2 ^ 38<=k-size t->k<2 ^ 40->xh R C b y (.agg ((Aj t).map .pv)) t k s
 | [],_,_,h=>by cases h
 | u::l,h,t,hm=>by
  simp only[Ac] at h;rcases A5.1 hm with h' | h'
  .rw[h']
   exact mR hy u AA _ (A7.Bi _).Fj
  .exact dx hy l AA t h'
end
end
end Go.Proofs.YtpgfpakdnijngaaGreatDoor
