/-
  Free variables, the program.
-/
import Derived.Test.YtpgfpakdnijngaaGreatDoorTE
import Derived.Test.YtpgfpakdnijngaaGreatDoorW1
import Derived.Test.YtpgfpakdnijngaaGreatDoorTD
set_option linter.all false
namespace Go.Proofs.YtpgfpakdnijngaaGreatDoor
open Go.Tel
open List renaming length->F
open Option renaming some->Y,none->G
open Bool renaming true->Z,false->ϴ
attribute [local simp] Hr MD Ir JL EK E3 Ee wO setCells Hw EX Dd Co Ex alive Dh Jf Qk bU Gq Iu Gl Hs K9 Iv gX fY okB gY gZ gh gi gj ag gm gp gu gv gw gx gy gz hG hJ hO okF hY iA iB iC iD Tu iE Ow Ox Oy Oz iG iH iI iJ iK iL iM iP iQ iR GG iT fZ iU iV iW iX iY iZ ia ic ie ig C0
mutual
def RN (u:Nat):Ty->Ϛ
 | .mk k _ i ts=>(bif k==5&&decide ((u:Int)<=i) then [i-u] else [])++LG u k 0 ts
def LG (u:Nat) (k:Int) (j:Nat):Ϣ->Ϛ
 | []=>[]
 | t::l=>RN (u+Dz k j) t++LG u k (j+1) l
end
mutual
theorem QO:∀(t:Ty) (u:Nat),RN u t=[]<->CJ u t=Z
 | .mk k n i ts,u=>by
  rw[RN,CJ];cases k==5&&decide ((u:Int)<=i) with
  | true=>simp
  | false=>simpa using Xu ts u k 0
theorem Xu:∀(l:Ϣ) (u:Nat) (k:Int) (j:Nat),LG u k j l=[]<->De u k j l=Z
 | [],_,_,_=>by simp[LG,De]
 | t::l,u,k,j=>by
  rw[LG,De,kX,QO t,Xu l,AK]
end
mutual
def jY:∀(t:Ty) (u:Nat),F (RN u t)<=AP t
 | .mk k n i ts,u=>by
  have:=mR ts u k 0
  grind[RN,AP]
def mR:∀(l:Ϣ) (u:Nat) (k:Int) (j:Nat),F (LG u k j l)<=Ak l
 | [],_,_,_=>by simp[LG]
 | t::l,u,k,j=>by
  have:=jY t (u+Dz k j);have:=mR l u k (j+1)
  grind[LG,Ak]
end
mutual
def ixs:Ty->Bool
 | .mk k _ i ts=>(!(k==5)||(decide (-(2 ^ 60)<=i)&&decide (i<2 ^ 60)))&&pO ts
def pO:Ϣ->Bool
 | []=>Z
 | t::l=>ixs t&&pO l
end
theorem jZ {l:Ϛ} {w x:Int} {i:Nat}:x∈l.take i++w::l.drop i<->x∈l\/x=w:=by grind[List.take_append_drop]
def ja {l:Ϛ} {w:Int} {i:Nat} (b:i<=F l):F (l.take i++w::l.drop i)=F l+1:=AB
def insert_sorted {l:Ϛ} {w:Int} {i:Nat} (hs:l.Pairwise (·<·)) (b:∀u∈l.take i,u<w) (d:∀u∈l.drop i,w<u):(l.take i++w::l.drop i).Pairwise (·<·):=by grind[List.pairwise_cons]
def NS (q:Nat) (l:Ϛ) (bs:Ϩ):Prop:=∃x,bs[q]?=Y [x]/\ur bs l x
structure fc (q:Nat) (l l':Ϛ) (new:Ϛ) (s s':AY):Prop where
 ns:NS q l' s'.bs
 srt:l.Pairwise (·<·)->l'.Pairwise (·<·)
 mem:∀x,x∈l'<->x∈l\/x∈new
 len:F l'<=F l+F new
 ts:s'.ts=s.ts
 grow:F s.bs<=F s'.bs
 keep:∀(p:Nat) (k n:AV) (r:Ϭ),(∀i,n≠AG i)->s.bs[p]?=Y (k::n::r)->s'.bs[p]?=Y (k::n::r)
section
variable {R:RT}
def di {w:Int} {l:Ϛ} {x:AV} {s:AY} {q i:Nat} (j:s.bs[q]?=Y [x]) (hx:ur s.bs l x) (C:F l<2 ^ 20) (D:i<=F l) {L:Ba} (t:L.ro=0) :
  ∃id d,Bk (env R) L 143 [x,AG i,.AE [[.sc (.int .i64 w)]]] s (.ref id 0 (F l+1) 1) ⟨d,s.ts⟩/\d[id]?=Y ((l.take i++w::l.drop i).map λn=>AG n)/\d[q]?=Y [x]/\q≠id/\F s.bs<=F d/\q<F d /\
   (∀(p:Nat) (k n:AV) (r:Ϭ),(∀i,n≠AG i)->s.bs[p]?=Y (k::n::r)->d[p]?=Y (k::n::r)):=by
 have u:q<F s.bs:=(BJ.1 j).1;have E:(AG i)=.pv (.sc (.int .i64 (.ofNat i))):=rfl;rcases hx with ⟨rfl,rfl⟩|⟨id,rfl,hid,y⟩
 .have o:i=0:=by grind
  subst o;refine⟨F s.bs,s.bs++[[AG w]],Bk.mQ Tryz.func143 AX (T:=bR) AX ?_,?_,?_,AA,AD,AB,?_⟩
  .rfl
  all_goals grind
 .have z:id<F s.bs:=(BJ.1 hid).1
  have m:id≠q:=by
   intro e;subst e
   simp_all
  have H:1<=F l:=AB;refine⟨F s.bs,s.bs.set id []++[(l.take i++w::l.drop i).map λn=>AG n],Bk.mQ Tryz.func143 AX (T:=bR) AX ?_,?_,?_,AA,AD,AB,?_⟩
  .have I:Nat.beq (F l) (F (l.map λn=>AG n))=true:=by simp
   have K:Nat.ble 1 (F l)=true:=by simp[*]
   have M:Nat.ble i (F l)=true:=by simp[*]
   have N:Nat.ble (F l) 1000000000=true:=by simp; omega
   grind[Nat.ble,bR,BS,List.map_take,List.map_drop]
  .simp
  .rw[C3 AB,Ge m,j]
  .intro p k n r A f
   have B:p<F s.bs:=(BJ.1 f).1
   have:id≠p:=by
    intro e;subst e;rw[f] at hid;rcases l with _|⟨a,_|⟨b,l⟩⟩
    all_goals grind
   rw[C3 AB,Ge this,f]
def ux {w:Int} {l:Ϛ} (m:l.Pairwise (·<·)) {s:AY} {q:Nat} (n:NS q l s.bs) (t:F l<2 ^ 20) {L:Ba} (o:L.ro=0) (E:L.n0=0) :
  ∃v f,(v=.tuple []/\∃u,fc q l u [w] s f)/\Bk (env R) L 118 [.ptr q 0,AG w] s v f:=by
 obtain⟨x,d,hx⟩:=n;have H:q<F s.bs:=(BJ.1 d).1;refine AWw (AGw (DK (Ab d) (AR (Ab d) (Ad (off:=0) d rfl ?_))));obtain⟨v,⟨i,b,rfl,hf⟩,z⟩:=Zq (R:=R) (w:=w) m hx AA;refine⟨_,_,z _,B9 rfl (B9 rfl (nt ?_))⟩;obtain⟨j,hb,p⟩:=hf;cases b with
 | true=>
  refine A4 ⟨rfl,l,⟨x,d,hx⟩,λh=>h,λy=>⟨.inl,?_⟩,AD,rfl,AU _,λ_ _ _ _ _ h=>h⟩
  grind
 | false=>
  have⟨A,B⟩:=p rfl;have⟨id,r,C,I,e,K,M,N,O⟩:=di (R:=R) (w:=w) d hx t j (L:=Co (env R) 118 L.n0 L.ro L.rt) o;refine BH (DK (Ab d) (AR (Ab d) (Ad (off:=0) d rfl (QE ?_))));refine⟨_,_,C,DK (Ab e) (AR (Ab e) (C1 e AD rfl (by simp[*]) rfl (.inl (by simp[*])) ?_))⟩;have k:∀y,(r.set q y)[q]?=Y y:=λy=>by grind
  refine⟨rfl,l.take i++w::l.drop i,⟨_,k _,.inr ⟨id,by rw[ja j],AB,AD⟩⟩,λD=>insert_sorted D A B,λy=>?_,AB,rfl,AB,?_⟩
  all_goals grind[jZ]
theorem fc.refl {q:Nat} {l:Ϛ} {s:AY} (h:NS q l s.bs):fc q l l [] s s:=⟨h,λh=>h,AD,AD,rfl,AU _,λ_ _ _ _ _ h=>h⟩
def fc.trans {q:Nat} {l e f n1 n2:Ϛ} {s i j:AY} (d:fc q l e n1 s i) (b:fc q e f n2 i j):fc q l f (n1++n2) s j:=by
 refine⟨b.ns,λh=>b.srt (d.srt h),λx=>?_,?_,by rw[b.ts,d.ts],BC d.grow b.grow,λp k n r hn h=>b.keep p k n r hn (d.keep p k n r hn h)⟩
 .rw[b.mem,d.mem,CU]
  grind
 .have:=d.len
  have:=b.len
  grind
def fc.push {q:Nat} {l:Ϛ} {s:AY} (h:NS q l s.bs) (b:Ϭ):fc q l l [] s ⟨s.bs++[b],s.ts⟩:=by
 obtain⟨x,f,hx⟩:=h;have i:q<F s.bs:=(BJ.1 f).1;refine⟨⟨x,by rw[C3 i,f],?_⟩,λh=>h,AD,AD,rfl,AD,λp k n r _ m=>?_⟩
 .rcases hx with ⟨e,d⟩|⟨id,e,d,j⟩
  .exact .inl ⟨e,d⟩
  .exact .inr ⟨id,e,by rw[C3 (BJ.1 d).1,d],j⟩
 grind
def uy (R:RT) (t:Ty):Prop:=∀(x:AV),BD t x->∀(u:Nat),u+AP t<2 ^ 30->∀(q:Nat) (l:Ϛ) (s:AY) (L:Ba),l.Pairwise (·<·)->NS q l s.bs->F l+AP t<2 ^ 19->L.ro=0->L.n0=0 ->
 ∃v b,(v=.tuple []/\∃d,fc q l d (RN u t) s b)/\Bk (env R) L 87 [x,AG u,.ptr q 0] s v b
def uz (n:Ϝ) (i:Int):SS n≠AG i:=AD
def pP {k0 i0:Int} {B:Ϝ} {ts:Ϣ} {a:AV} (D:A3 a (Aj ts)) (ο:Ak ts<2 ^ 30) (W:∀t∈ts,uy R t) {u q E:Nat} (π:u+Ak ts+1<2 ^ 30) {l0:Ϛ} (N:l0.Pairwise (·<·)) {s0:AY} {L:Ba} (O:L.ro=0) (Q:L.n0=0) {Post:Ϡ} {pre:Ϛ}
  (X:∀α H,fc q l0 α (pre++LG u k0 0 ts) s0 H->Post (.tuple []) H) (ι:F l0+F pre+Ak ts<2 ^ 19) :
  ∀(j i:Nat) (l:Ϛ) (s:AY) (e:Ϛ),i+j=F ts->s.bs[E]?=Y [AG k0,SS B,AG i0,a]->fc q l0 l (pre++e) s0 s->e++LG u k0 i (ts.drop i)=LG u k0 0 ts->F e+Ak (ts.drop i)<=Ak ts->ACT R L.n0 L.ro L.rt (AG u) (.ptr q 0) (.ptr E 0) a (AG (F ts)) (AG i) s Post:=by
 have κ:=Bl ts;intro j
 induction j with
 | zero=>
  intro i l s e β hb b k _;refine ACU (Ao ?_);have o:¬ ((i:Int)<F ts):=AA;rw[A5 o];refine A4 ?_;have γ:ts.drop i=[]:=CR AA;rw[γ] at k;simp only[LG,G9] at k;rw[k] at b;exact X l s b
 | succ j S=>
  intro i l s e β hb b k C;refine ACU (Ao ?_);have o:((i:Int)<F ts):=AA;rw[Ax o];refine BH (ANW ?_);have⟨t,p⟩:∃t,ts[i]?=Y t:=⟨_,Az AA⟩;rw[drop_cons p] at k C;simp only[LG,Ak] at k C;refine BL D (row:=Av t) AA (by grind[BK]) (Aq t) AA (Cd ?_);have M:=BD.Bo t;have μ:=Q3 k0 i;have ν:=FG (A8 p);have y:=W t (A8 p) _ M (u+Dz k0 i) AA;have m:F ((Av t).map AV.pv)=4:=by grind[Aq]
  have z:=DG t;have x:=NM t;have n:=fc.push b.ns ((Av t).map AV.pv);have T:=b.len;simp only[B6] at T;have ξ:=jY t (u+Dz k0 i);generalize (Av t).map AV.pv=f at y m z x n;obtain⟨d,tk⟩:=s;refine Bh (Bn (A0 d Z4) m rfl AH (by simp[*]) z (.inl (by simp[*])) ?_);have δ:(d++[Z4]).set (F d) f=d++[f]:=AD;simp only at n hb b;rw[δ];have I:=Am hb f;refine Ag (A0 d f) m (Ag I rfl ?_);have U:Ah (env R) 119 [.agg [AG k0,SS B,AG i0,a],AG i] λr=>r=AG (Dz k0 i):=ME D i
  refine AI U ?_;rintro _ rfl;refine Bb AA AA ?_;have ε:((u:Int)+(Dz k0 i:Nat))=((u+Dz k0 i:Nat):Int):=AA;rw[ε];obtain⟨v,ζ,⟨rfl,η,K⟩,θ⟩:=y q l ⟨d++[f],tk⟩ (Co (env R) 87 L.n0 L.ro L.rt) (b.srt N) n.ns AA O Q;refine⟨_,_,θ,Ag (A0 d f) m x,?_⟩;refine ANX (Bb AA AA ?_);have A:=(b.trans n).trans K;simp only[G9,EG] at A;have:=S (i+1) η ζ (e++RN (u+Dz k0 i) t) AA (K.keep _ _ _ _ (uz _) I) A AB AB
  grind
mutual
def Xv:∀(t:Ty),ixs t=Z->uy R t
 | .mk k n i ts,o=>by
  intro x hx u K q l s L z E M A B;obtain⟨a,rfl,p⟩:=hx;simp only[AP] at M K;simp only[ixs,AK] at o;have N:=Uz ts o.2
  suffices H:∀e:Ϡ,(∀f j,fc q l f (RN u (.mk k n i ts)) s j->e (.tuple []) j)->ACV R L.n0 L.ro L.rt (.agg [AG k,SS n,AG i,a]) (AG u) (.ptr q 0) s e from
   m87 (H _ λf j h=>⟨rfl,f,h⟩)
  intro e O;have C:=fc.push E [AG k,SS n,AG i,a];have b:=A0 s.bs [AG k,SS n,AG i,a];refine ANY (Bs (cs:=[AG k,SS n,AG i,a]) rfl (by simp[p.ok]) (AR (Ab b) (Ad (off:=0) b rfl (BE ?_))))
  have tail:∀(pre m:Ϛ) (d:AY),fc q l m pre s d->pre++LG u k 0 ts=RN u (.mk k n i ts)->F pre<=1->d.bs[F s.bs]?=Y [AG k,SS n,AG i,a]->ACW R L.n0 L.ro L.rt (AG u) (.ptr q 0) (.ptr (F s.bs) 0) d e:=by
   intro pre m d r S T y;refine ANZ (AR (Ab y) (Ad (off:=3) y rfl (Au (n:=F ts) (by rw[p.BG,Ae]) ?_)));exact pP (R:=R) (q:=q) (l0:=l) (s0:=s) (L:=L) (pre:=pre) (Post:=e) p AA N AA z A B (λf j h=>O f j AB) AA (F ts) 0 m d [] AA y AB AD AD
  cases U:(k==5) with
  | true=>
   have Q:k=5:=AB;subst Q;have D:=o.1;simp at D;refine Aw (AR (Ab b) (Aw (Ad (off:=2) b rfl (Aw (Aw (Fq (pk ?_)))))))
   by_cases I:(u:Int)<=i
   .have:i>=(u:Int):=I
    rw[Ax this];refine BH (AR (Ab b) (Ad (off:=2) b rfl (FL AA AA ?_)));refine Cr (ux (R:=R) (w:=i-u) (q:=q) (s:=⟨s.bs++[[AG 5,SS n,AG i,a]],s.ts⟩) (l:=l) (L:=Co (env R) 87 L.n0 L.ro L.rt) z C.ns AA A B) ?_;rintro v d ⟨rfl,m,r⟩;refine tail [i-u] m d ?_ ?_ AD (r.keep _ _ _ _ (uz _) b)
    .simpa using C.trans r
    grind[RN]
   grind[A4,RN]
  | false=>
   grind[B7,pk,A4,RN]
def Uz:∀(l:Ϣ),pO l=Z->∀t∈l,uy R t
 | [],_,_,h=>by cases h
 | e::l,b,a,h=>by
  simp only[pO,AK] at b;rcases BF.1 h with h' | h'
  .rw[h']
   exact Xv e b.1
  .exact Uz l b.2 a h'
end
def ur.closed {bs:Ϩ} {l:Ϛ} {x:AV} (h:ur bs l x):∃b,close bs 0 0 x=Y b/\A3 b (Ai l):=by
 rcases h with ⟨rfl,rfl⟩|⟨id,rfl,hid,f⟩
 .exact⟨.AE [],AX,by simp[Ai]; exact .AE _⟩
 .have i:∀l:Ϛ,C0 (l.map λn=>AG n)=Y (l.map λw=>PV.sc (.int .i64 w)):=by
   intro l
   induction l with
   | nil=>rfl
   | cons w l d=>simp[*]
  have j:∀l:Ϛ,CZ 1 (F l) (l.map λw=>PV.sc (.int .i64 w))=Ai l:=by
   intro l
   induction l with
   | nil=>rfl
   | cons w l d=>grind[CZ,Ai]
  have e:(l.map λn=>AG n).isEmpty=false:=by simp[*]
  refine⟨.pv (.list (Ai l)),?_,.list _⟩
  grind[close,JU]
def WU {t:Ty} (h:AP t<2 ^ 18) (e:ixs t=Z) {x:AV} (hx:BD t x):Ah (env R) 43 [x] λr=>∃l:Ϛ,A3 r (Ai l)/\l.Pairwise (·<·)/\(∀w,w∈l<->w∈RN 0 t):=by
 have j:=Xv (R:=R) t e x hx 0 AA 1 [];have A:=jY t 0;generalize hn:RN 0 t=N at *;generalize AP t=z at *;obtain⟨k,n,i,ts⟩:=t;obtain⟨a,rfl,d⟩:=hx;refine e43 (u0:=.agg [AG k,SS n,AG i,a]) (by simp[d.close]) (ANa ?_);refine Bs (cs:=[AG k,SS n,AG i,a]) rfl (by simp[d.ok]) (Bh (Ag (cs:=[AG k,SS n,AG i,a]) rfl rfl ?_));refine Cr (j ⟨[[AG k,SS n,AG i,a],[.AE []]],[]⟩ (Co (env R) 43 0 0 0) List.Pairwise.nil ⟨.AE [],rfl,.inl ⟨rfl,rfl⟩⟩ AB rfl rfl) ?_;rintro v B ⟨rfl,m,b⟩;have⟨y,o,p⟩:=b.ns;have⟨s,f,u⟩:=p.closed;refine AR ?_ (Ad (off:=0) o rfl ?_)
 .simp[*]
 .exact⟨s,f,m,u,b.srt List.Pairwise.nil,λw=>by rw[b.mem]; simp⟩
end
theorem dm:∀l:Ϝ,Op.bytesLess l l=ϴ
 | []=>rfl
 | c::l=>by
  rw[Op.bytesLess,dm l];simp
def AGx {a b:Ϝ} {K:AV->Prop} (h:K (BB (Op.bytesLess a b))):Jf .lss (SS a) (SS b) K:=h
def AGy {a b:Ϝ} {K:AV->Prop} (h:K (BB (!(Op.bytesLess a b||(a==b))))):Jf .gtr (SS a) (SS b) K:=h
def AGz {a b:Ϝ} {K:AV->Prop} (h:K (BB (!(a==b)))):Jf .neq (SS a) (SS b) K:=h
def mS:Ϛ->Int
 | []=>0
 | c::l=>bif c==0 then mS l else c
def dn:∀l:Ϛ,mS l=0<->∀c∈l,c=0
 | []=>by simp[mS]
 | c::l=>by
  rw[mS];cases h:c==0 with
  | true=>
   have:c=0:=AB;simp[dn l,this]
  | false=>
   simp_all
section
variable {R:RT}
def U1 (w:Ϝ):Ah (env R) 153 [SS w] λr=>r=BB false:=
 AWx (u0:=SS w) AD (AG0 (AGz ⟨_,GG,AD⟩))
def RO (a b:Int):Ah (env R) 132 [AG a,AG b] λr=>∃c:Int,r=AG c/\(c=0<->a=b):=by
 refine AWy (u0:=AG a) (u1:=AG b) AD (AG1 ?_);refine AI (RM a) ?_;rintro v rfl;refine AI (RM b) ?_;rintro v rfl;refine A4 (AG2 (A4 (AG3 (Ao ?_))))
 by_cases d:a<b
 .rw[Ax d]
  exact BH ⟨_,GG,-1,rfl,AA⟩
 .rw[A5 d]
  refine A4 (AG4 (Gv ?_))
  by_cases e:a>b
  .rw[Ax e]
   exact BH ⟨_,GG,1,rfl,AA⟩
  .rw[A5 e]
   exact A4 (AG5 ⟨_,GG,0,rfl,AA⟩)
def pQ (a b:Ϝ):Ah (env R) 133 [SS a,SS b] λr=>∃c:Int,r=AG c/\(c=0<->a=b):=by
 refine AWz (u0:=SS a) (u1:=SS b) AD (AG6 ?_);refine AI (U1 a) ?_;rintro v rfl;refine AI (U1 b) ?_;rintro v rfl;refine A4 (AG7 (A4 (AG8 (AGx ?_))));cases d:Op.bytesLess a b with
 | true=>
  refine BH ⟨_,GG,-1,rfl,?_⟩
  grind[dm]
 | false=>
  refine A4 (AG9 (AGy ?_));rw[d];cases e:(a==b) with
  | true=>exact A4 (AHA ⟨_,GG,0,rfl,AB⟩)
  | false=>exact BH ⟨_,GG,1,rfl,AB⟩
def AAL {l:Ϛ} {y:AV} (e:BN y (Ai l)) (k:F l<2 ^ 40) {Post:AV->Prop} (m:Post (AG (mS l))) :
  ∀(j p:Nat) (s:AY),p+j=F l->mS (l.drop p)=mS l->u6 R 0 0 0 (AG 0) y (AG (F l)) (AG p) s (QP Post):=by
 intro j
 induction j with
 | zero=>
  intro p s f b;refine u7 (Ao ?_);rw[A5 AA];rw[CR AA,mS] at b;exact A4 (AHB ⟨_,GG,AB⟩)
 | succ j d=>
  intro p s f b;refine u7 (Ao ?_);rw[Ax AA];have⟨c,i⟩:∃c,l[p]?=Y c:=⟨_,Az AA⟩;rw[drop_cons i,mS] at b;refine BH (AHC (Bc e (row:=[.sc (.int .i64 c)]) AA (by grind[Ai]) rfl AA (Ds (Ef ?_))));cases h:c==0 with
  | true=>
   have:(c != 0)=false:=AB;rw[this];rw[h] at b;refine A4 (AHD (Bb AA AA ?_));have:=d (p+1) s AA b
   grind
  | false=>
   have:(c != 0)=true:=AB;rw[this];rw[h] at b;exact BH ⟨_,GG,AB⟩
def AAM {l:Ϛ} {y:AV} (b:A3 y (Ai l)) (d:F l<2 ^ 40):Ah (env R) 131 [y] λr=>r=AG (mS l):=by
 refine AW0 (u0:=y) (by simp[BZ,b.close]) (AHE (Au (n:=F l) (by rw[b.BG,BP]) ?_));exact AAL (Post:=λr=>r=AG (mS l)) (.inl b) d rfl (F l) 0 _ AA rfl
def AW1 {a b c d:Int} {s:AY} {K:Ϡ} (h:K (.AE (Ai [a,b,c,d])) s):HJ ϴ s 1 [(AG 0)] 4 [(0,1,AG a),(1,1,AG b),(2,1,AG c),(3,1,AG d)] K:=by
 simp[HJ,GC,CZ];exact h
def pR {k i k' i':Int} {n n':Ϝ} {ts b:Ϣ} {a o:AV} (l:A3 a (Aj ts)) (z:A3 o (Aj b)) (L:F ts<2 ^ 40) (M:F ts=F b)
  (B:∀t∈ts,∀(d:Ty) (x u:AV),BD t x->BD d u->Ah (env R) 104 [x,u] λr=>∃c:Int,r=AG c/\(c=0<->t=d)) {s:AY} (g0:s.bs[0]?=Y [AG k,SS n,AG i,a]) (g1:s.bs[1]?=Y [AG k',SS n',AG i',o]) {Post:AV->Prop} (y:∀c:Int,(c=0<->ts=b)->Post (AG c)) :
  ∀(j p:Nat) (c:Int),p+j=F ts->(c=0->ts.take p=b.take p)->(c≠0->ts≠b)->jb R 0 0 0 (.ptr 0 0) (.ptr 1 0) (AG c) (AG p) s (QP Post):=by
 intro j
 have done:∀(p:Nat) (c:Int),c≠0->(c≠0->ts≠b)->jb R 0 0 0 (.ptr 0 0) (.ptr 1 0) (AG c) (AG p) s (QP Post):=by
  intro p c f h;refine Zr (BE ?_);have:(c==0)=false:=AB;rw[this];exact B7 (B7 (B7 (B7 (B7 (pk (A4 (jc ⟨_,GG,y c AB⟩)))))))
 induction j with
 | zero=>
  intro p c C m D
  by_cases f:c=0
  .subst f
   refine Zr (BE (Aw (Aw (AR (Ab g0) (Aw (Ad (off:=3) g0 rfl (Aw (Au (n:=F ts) (by rw[l.BG,Ae]) (Aw (Ao (pk ?_)))))))))));rw[A5 AA];have:=m rfl;rw[CC AA,CC AA] at this;exact A4 (jc ⟨_,GG,y 0 AB⟩)
  grind
 | succ j A=>
  intro p c C m D
  by_cases f:c=0
  .subst f
   refine Zr (BE (Aw (Aw (AR (Ab g0) (Aw (Ad (off:=3) g0 rfl (Aw (Au (n:=F ts) (by rw[l.BG,Ae]) (Aw (Ao (pk ?_)))))))))));rw[Ax AA];have⟨t,E⟩:∃c,ts[p]?=Y c:=⟨_,Az AA⟩;have⟨d,I⟩:∃c,b[p]?=Y c:=⟨_,Az AA⟩;have H:=m rfl;refine BH (AHF (AR (Ab g0) (Ad (off:=3) g0 rfl (BL l (row:=Av t) AA (by grind[BK]) (Aq _) AA (Cd (AR (Ab g1) (Ad (off:=3) g1 rfl (BL z (row:=Av d) AA (by grind[BK]) (Aq _) AA (Cd ?_)))))))));refine AI (B t (A8 E) d _ _ (BD.Bo t) (BD.Bo d)) ?_;rintro v ⟨c,rfl,K⟩;refine AHG (Bb AA AA ?_);have:=A (p+1) c AA (λh=>by grind[List.take_add_one]) (λh e=>by grind)
   grind
  grind
mutual
def Xw:∀(t:Ty),AP t<2 ^ 38->∀(α:Ty) (x Q:AV),BD t x->BD α Q->Ah (env R) 104 [x,Q] λr=>∃c:Int,r=AG c/\(c=0<->t=α)
 | .mk k n i ts,h,.mk m j f u,x,Q,hx,δ=>by
  obtain⟨a,rfl,B⟩:=hx;obtain⟨p,rfl,A⟩:=δ;simp only[AP] at h;have ζ:=U2 ts AA;have ν:=Bl ts
  suffices H:∀N:AV->Prop,(∀c:Int,(c=0<->Ty.mk k n i ts=Ty.mk m j f u)->N (AG c))->u9 R 0 0 0 (.agg [AG k,SS n,AG i,a]) (.agg [AG m,SS j,AG f,p]) ⟨[],[]⟩ (QP N) from
   AW2 (u0:=.agg [AG k,SS n,AG i,a]) (u1:=.agg [AG m,SS j,AG f,p]) (by simp[B.close,A.close]) (H _ λc β=>⟨c,rfl,β⟩)
  intro N S;simp only[Ty.mk.injEq] at S;refine AHH (Bs (cs:=[AG k,SS n,AG i,a]) rfl (by simp[B.ok]) (Bs (cs:=[AG m,SS j,AG f,p]) rfl (by simp[A.ok]) ?_));simp only[Ct,CQ,DV,CP,CY];have b:(AY.mk [[AG k,SS n,AG i,a],[AG m,SS j,AG f,p]] []).bs[0]?=Y [AG k,SS n,AG i,a]:=rfl;have e:(AY.mk [[AG k,SS n,AG i,a],[AG m,SS j,AG f,p]] []).bs[1]?=Y [AG m,SS j,AG f,p]:=rfl;generalize AY.mk [[AG k,SS n,AG i,a],[AG m,SS j,AG f,p]] []=s at b e;have T:=BN.D9 (es:=ts) (.inl B);have O:=BN.D9 (es:=u) (.inl A);have D:∀(s:AY) (K:AV->Prop),K (AG (F ts))->Gl s a K:=λs K h=>Au (n:=F ts) (by rw[B.BG,Ae]) h
  have C:∀(s:AY) (K:AV->Prop),K (AG (F u))->Gl s p K:=λs K h=>Au (n:=F u) (by rw[A.BG,Ae]) h
  have W:∀w:Ϝ,Tel.D9 (SS w) (SS w)=true:=λw=>by simp[Tel.D9,OH,Ie]
  have o:∀w:Int,Tel.D9 (AG w) (AG w)=true:=λw=>by simp[Tel.D9,OH,F7]
  have y:∀d,Ex s (.ptr 0 0) d λv=>Tel.D9 v (.ptr 0 (0+d))=true:=λd=>AR (Ab b) (D8 _ _)
  have z:∀d,Ex s (.ptr 1 0) d λv=>Tel.D9 v (.ptr 1 (0+d))=true:=λd=>AR (Ab e) (D8 _ _)
  refine AR (Ab b) (Ad (off:=0) b rfl (AR (Ab e) (Ad (off:=0) e rfl ?_)));refine AI (RO k m) ?_;rintro v ⟨E,rfl,η⟩;refine AR (Ab b) (Ad (off:=1) b rfl (AR (Ab e) (Ad (off:=1) e rfl ?_)));refine AI (pQ n j) ?_;rintro v ⟨I,rfl,θ⟩;refine AR (Ab b) (Ad (off:=2) b rfl (AR (Ab e) (Ad (off:=2) e rfl ?_)));refine AI (RO i f) ?_;rintro v ⟨L,rfl,ι⟩;refine AR (Ab b) (Ad (off:=3) b rfl (D _ _ (AR (Ab e) (Ad (off:=3) e rfl (C _ _ ?_)))));refine AI (RO (F ts) (F u)) ?_;rintro v ⟨M,rfl,κ⟩;refine AW1 (AI (AAM (l:=[E,I,L,M]) (.AE _) AD) ?_);rintro v rfl;refine⟨y 1,Ad (off:=1) b rfl (W n),z 1,Ad (off:=1) e rfl (W j),y 2,y 2,Ad (off:=2) b rfl (o i),Ad (off:=2) b rfl (o i),z 2,z 2,Ad (off:=2) e rfl (o f),Ad (off:=2) e rfl (o f),y 3,y 3,y 3,Ad (off:=3) b rfl T,Ad (off:=3) b rfl T,Ad (off:=3) b rfl T,D _ _ (o _),D _ _ (o _),D _ _ (o _),z 3,z 3,z 3,Ad (off:=3) e rfl O,Ad (off:=3) e rfl O,Ad (off:=3) e rfl O,C _ _ (o _),C _ _ (o _),C _ _ (o _),?_⟩
  have γ:mS [E,I,L,M]=0<->(k=m/\n=j/\i=f/\F ts=F u):=by
   rw[dn];simp only[BF,ER,ES,forall_eq_or_imp,forall_eq,η,θ,ι,κ]
   grind
  by_cases U:k=m/\n=j/\i=f/\F ts=F u
  .obtain⟨rfl,rfl,rfl,X⟩:=U
   have μ:=γ.2 ⟨rfl,rfl,rfl,X⟩;exact pR B A AA X ζ b e (λc β=>S c AB) (F ts) 0 _ AA (λ_=>rfl) (λh=>absurd μ h)
  .have ε:mS [E,I,L,M]≠0:=λh=>U (γ.1 h)
   generalize mS [E,I,L,M]=c at ε;refine Zr (BE ?_);have:(c==0)=false:=AB;rw[this];exact B7 (B7 (B7 (B7 (B7 (pk (A4 (jc ⟨_,GG,S c AB⟩)))))))
def U2:∀(l:Ϣ),Ak l<2 ^ 38->∀t∈l,∀(b:Ty) (x d:AV),BD t x->BD b d->Ah (env R) 104 [x,d] λr=>∃c:Int,r=AG c/\(c=0<->t=b)
 | [],_,_,h=>by cases h
 | e::l,h,t,hm=>by
  simp only[Ak] at h;rcases BF.1 hm with h' | h'
  .rw[h']
   exact Xw e AA
  .exact U2 l AA t h'
end
def jd {t d:Ty} {x e:AV} (h:AP t<2 ^ 38) (hx:BD t x) (o:BD d e):Ah (env R) 63 [x,e] λr=>∃b:Bool,r=BB b/\(b=Z<->t=d):=by
 have u:=Xw (R:=R) t h d x e hx o;obtain⟨k,n,i,ts⟩:=t;obtain⟨f,j,l,y⟩:=d;obtain⟨a,rfl,s⟩:=hx;obtain⟨m,rfl,p⟩:=o;refine e63 (u0:=.agg [AG k,SS n,AG i,a]) (u1:=.agg [AG f,SS j,AG l,m]) (by simp[s.close,p.close]) (ANb ?_);refine Bs (cs:=[AG k,SS n,AG i,a]) rfl (by simp[s.ok]) (Bs (cs:=[AG f,SS j,AG l,m]) rfl (by simp[p.ok]) (Ag (cs:=[AG k,SS n,AG i,a]) rfl rfl (Ag (cs:=[AG f,SS j,AG l,m]) rfl rfl ?_)));refine AI u ?_;rintro v ⟨c,rfl,h⟩;exact BE ⟨_,GG,c==0,rfl,AB⟩
end
def EE (lo:Nat) (bs:Ϩ) (l:Ϥ) (a:AV):Prop:=(a=.AE []/\l=[])\/∃id rows,lo<=id/\a=.ref id 0 (F l) 5/\bs[id]?=Y (List.flatten rows)/\CD (λb d=>CL b (.agg d)) l rows/\l≠[]
def CL.cells {b:Br} {row:Ϭ} (h:CL b (.agg row)):F row=5/\row.all BS=Z/\∀n,Ap n row=true:=by
 obtain⟨a,y,e,d,f⟩:=h;cases e;have⟨k,i,j⟩:=f.cells;exact⟨AB,by simp only[FX,d.ok,i]; rfl,λn=>by simp[Ap,d.A6,j]⟩
theorem CL.agg {b:Br} {x:AV} (h:CL b x):∃row,x=.agg row:=by
 obtain⟨a,y,rfl,_⟩:=h;simp
theorem IW {l:Ϥ} {rows:Ϩ} (h:CD (λb row=>CL b (.agg row)) l rows):F rows.flatten=F l*5/\rows.flatten.all BS=Z/\∀n,Ap n rows.flatten=true:=by
 induction l generalizing rows with
 | nil=>
  cases rows with
  | nil=>exact⟨rfl,rfl,λ_=>rfl⟩
  | cons _ _=>exact h.elim
 | cons b l d=>
  cases rows with
  | nil=>exact h.elim
  | cons row rows=>
   obtain⟨e,f⟩:=h;have⟨k,m,o⟩:=e.cells;have⟨p,r,i3⟩:=d f;refine⟨AB,AB,λn=>?_⟩;rw[Nh]
   have i:∀(a b:Ϭ),Ap n a=Z->Ap n b=Z->Ap n (a++b)=true:=by
    intro a
    induction a with
    | nil=>simp
    | cons x a j=>
     grind[Ap]
   grind
theorem EE.BG {lo:Nat} {s:AY} {l:Ϥ} {a:AV} (h:EE lo s.bs l a):BG s a=Y (F l):=by
 rcases h with ⟨rfl,rfl⟩|⟨id,rows,f,rfl,i,b,j⟩
 .rfl
 .have⟨d,_,_⟩:=IW b
  have e:alive s id=true:=by
   have:rows.flatten≠[]:=by
    intro h;rw[h] at d;cases l with
    | nil=>grind
    | cons _ _=>grind
   have⟨c,r,k⟩:=Nq this;simp[*]
  grind[Tel.BG]
theorem EE.mono {lo b:Nat} {bs d:Ϩ} {l:Ϥ} {a:AV} (h:EE lo bs l a) (f:b<=lo) (hb:∀j c,lo<=j->bs[j]?=Y c->d[j]?=Y c):EE b d l a:=by
 rcases h with h|⟨id,rows,e,i,k,m,n⟩
 .exact .inl h
 .exact .inr ⟨id,rows,BC f e,i,hb id _ e k,m,n⟩
theorem KH {b:Br} {row:Ϭ} (h:CL b (.agg row)) {s:AY} {K:Ϡ} (m:K (.ref (F s.bs) 0 1 5) ⟨s.bs++[row],s.ts⟩):HJ Z s 5 [(.AE []),(AG 0),(SS []),(AG 0),(.AE [])] 1 [(0,5,.agg row)] K:=by
 obtain⟨a,y,d,l,e⟩:=h;cases d;rcases f:b.AM with ⟨k,n,i,ts⟩
 rw[f] at e;obtain⟨o,d,j⟩:=e;cases d;simp[HJ,GC,CZ,l.ok,j.ok];omega
def U3 {L:Ba} {s:AY} {lo f:Nat} {a:AV} {l:Ϥ} {b:Br} {row:Ϭ} (k:CL b (.agg row)) (hid:s.bs[f]?=Y row) (D:EE lo s.bs l a) (Q:L.ro=0) (X:F l<2 ^ 30) {K:Ϡ}
  (h:∀p e,EE lo e (l++[b]) p->(∀j c,(∀n,a≠.ref j 0 n 5)->s.bs[j]?=Y c->e[j]?=Y c)->F s.bs<=F e->(BM s->BM ⟨e,s.ts⟩)->(lo<=F s.bs->K p ⟨e,s.ts⟩)) (i:lo<=F s.bs) :
  I6 Z L s 45 5 80 a (.ref f 0 1 5) K:=by
 have⟨E,H,I⟩:=k.cells
 have S:alive s f=true:=by
  have⟨c,r,m⟩:=Nq (l:=row) AB;simp[*]
 have z:DS s 5 (.ref f 0 1 5)=Y row:=by grind[DS]
 unfold I6;rw[z];have⟨c,d,m⟩:=Nq (l:=row) AB;subst m;simp only[wO];have A:F (c::d) / 5=1:=by rw[E]
 rw[A];refine⟨H,?_⟩;rcases D with ⟨rfl,rfl⟩|⟨id,rows,α,rfl,t,u,β⟩
 .refine⟨⟨AD,AD,AD⟩,?_⟩
  simp only[AQ,List.flatten_nil,DC,Ct];refine h (.ref (F s.bs) 0 1 5) (s.bs++[c::d]) (.inr ⟨F s.bs,[c::d],i,rfl,AD,⟨k,Ay⟩,AD⟩) (λj c _ y=>Am y _) AD (λo=>BM.app (s:=s) o (I _)) i
 .have⟨M,γ,δ⟩:=IW u
  have T:=(BJ.1 t).1
  have B:alive s id=true:=by
   have:rows.flatten≠[]:=by
    intro h;rw[h] at M;cases l with
    | nil=>grind
    | cons _ _=>grind
   have⟨c,r,m⟩:=Nq this
   simp_all
  simp only[t];refine⟨⟨Ay,Ay,AA,B,AA,AA,AA⟩,?_⟩;have N:rows.flatten.take (F l*5)=rows.flatten:=CC AA;rw[N];have C:CD (λb row=>CL b (.agg row)) (l++[b]) (rows++[c::d]):=CD.append u ⟨k,Ay⟩;refine h (.ref (F s.bs) 0 (F l+1) 5) (s.bs.set id []++[rows.flatten++(c::d)]) (.inr ⟨F s.bs,rows++[c::d],i,AD,?_,C,AD⟩) (λj c hn y=>?_) AD (λo=>?_) i
  .simp
  .grind
  .have O:BM ⟨s.bs.set id [],s.ts⟩:=BM.set (s:=s) o AX _
   refine BM.app (s:=⟨s.bs.set id [],s.ts⟩) O ?_
   have U:∀n (a b:Ϭ),Ap n a=Z->Ap n b=Z->Ap n (a++b)=true:=by
    intro n a
    induction a with
    | nil=>simp
    | cons x a W=>
     grind[Ap]
   grind
section
variable {R:RT}
def CL.closed {b:Br} {x:AV} (h:CL b x):∃d,BZ [] 0 0 [x]=Y [d]/\BZ [] 0 0 [d]=Y [d]/\HM b d:=by
 obtain⟨a,y,rfl,p,f⟩:=h;rcases hb:b.AM with ⟨k,n,i,ts⟩
 rw[hb] at f;obtain⟨s,r,o⟩:=f;cases r;have⟨j,t,l⟩:=p.closed [] 0;have⟨e,u,m⟩:=o.closed [] 0;refine⟨.agg [j,AG k,SS n,AG i,e],by simp[*],by simp[l.close,m.close],?_⟩;exact⟨j,[AG k,SS n,AG i,e],rfl,l,by rw[hb]; exact⟨e,rfl,m⟩⟩
def PB {b:Br} (h:AP b.AM<2 ^ 38) (d:F b.AN<2 ^ 38) (e:F (Af b.AM)<2 ^ 40) {x:AV} (hx:CL b x):Ah (env R) 46 [x] λr=>r=BB (decide (F b.AN<=6)&&decide (F (Af b.AM)<=3)):=by
 have⟨f,i,j,k⟩:=hx.closed;exact Ah.open (args':=[f]) AX AX rfl i j (QF h d e k)
def OL {b:Br} (h:AP b.AM<2 ^ 38) (d:F (Af b.AM)<2 ^ 40) {x:AV} (hx:CL b x):Ah (env R) 23 [x] λr=>A3 r (Ai (Af b.AM)):=by
 have⟨e,f,i,j⟩:=hx.closed;exact Ah.open (args':=[e]) AX AX rfl f i (Fg h d j)
end
section
variable {R:RT}
def vA {α:Type} {row:α->Ϧ} (d:∀a,F (row a)=4) {f:FuncId} {cs:Ϭ} {g:α->Bool} {ts:List α} {y:AV} (l:BN y (ts.map row)) (r:F ts<2 ^ 60) {s:AY} (hf:∀t∈ts,∀L,Bk (env R) L f (.agg ((row t).map .pv)::cs) s (BB (g t)) s) {n0 ro rt:Nat} {QR:QT} :
  ∀(j q:Nat),q+j=F ts->(∀i:Int,decide (0<=i)=(ts.drop q).any g->QR (AG i) s)->ZM R n0 ro rt y (.func (.func f) [] cs) (AG (F ts)) (AG q) s QR:=by
 intro j
 induction j with
 | zero=>
  intro q m b;refine Q6 (Ao ?_);rw[A5 AA];refine A4 (iw ?_);have n:ts.drop q=[]:=CR AA;rw[n] at b;exact b (-1) AD
 | succ j k=>
  intro q m b;refine Q6 (Ao ?_);rw[Ax AA];refine BH (iy ?_);have⟨t,e⟩:∃t,ts[q]?=Y t:=⟨_,Az AA⟩;rw[drop_cons e] at b;refine Bc l (row:=row t) AA (by simp[e]) (d t) AA ?_;have o:=hf t (A8 e)
  have e4:∀K:AV->Prop,K (.agg ((row t).map .pv))->EX (env R) s (Y 4) (.DF (row t) 0) K:=by
   intro K p;simp only[EX,Dd,Kg];refine⟨by rw[Bj,d]; omega,?_⟩;rw[CC (by rw[Bj,d]; omega)];exact p
  refine e4 _ ?_;refine⟨BB (g t),s,o _,?_⟩;cases u:g t with
  | true=>grind[BH]
  | false=>
   refine A4 (iz (Bb AA AA ?_));exact k (q+1) AA AB
def WV {α:Type} {row:α->Ϧ} (j:∀a,F (row a)=4) {f:FuncId} {cs:Ϭ} {g:α->Bool} {ts:List α} {y:AV} (e:BN y (ts.map row)) (k:F ts<2 ^ 60) {s:AY} (hs:BM s) (o:Da cs=ϴ) (hf:∀t∈ts,∀L,Bk (env R) L f (.agg ((row t).map .pv)::cs) s (BB (g t)) s) (L:Ba) :
  Bk (env R) L 94 [y,.func (.func f) [] cs] s (BB (ts.any g)) s:=by
 have l:∀L,∃i:Int,decide (0<=i)=ts.any g/\Bk (env R) L 125 [y,.func (.func f) [] cs] s (AG i) s:=by
  intro L
  obtain⟨v,b,⟨i,rfl,rfl,h⟩,d⟩:=AMY (R:=R) (L:=L) (s:=s) (t0:=y) (t1:=.func (.func f) [] cs) (Post:=λv b=>∃i:Int,v=AG i/\b=s/\decide (0<=i)=ts.any g) (by grind[Da,F9]) (jA (Au (n:=F ts) (by rw[e.BG,Bj]) (vA j e k hf (F ts) 0 AA λi h=>by
   have:=Ji (rr:=L.rr 125) hs (m:=[]) (p:=.sc (.int .i64 i)) (Post:=λv b=>∃i:Int,v=AG i/\b=s/\decide (0<=i)=ts.any g) ⟨i,rfl,rfl,AB⟩
   simp_all)))
  grind
 obtain⟨v,b,⟨rfl,rfl⟩,d⟩:=m94 (R:=R) (L:=L) (s:=s) (t0:=y) (t1:=.func (.func f) [] cs) (Post:=λv b=>v=BB (ts.any g)/\b=s) (by grind[Da,F9]) (sw (by
  have⟨i,h,d⟩:=l (Co (env R) 94 0 L.ro L.rt);refine⟨AG i,s,d,Fq ?_⟩;have:=Ji (rr:=L.rr 94) hs (m:=[]) (p:=.sc (.bool (ts.any g))) (Post:=λv b=>v=BB (ts.any g)/\b=s) ⟨rfl,rfl⟩
  simp_all))
 omega
def AHI {t u:Ty} (l:AP t<2 ^ 38) {p:Nat} {s:AY} (hs:BM s) (j:s.bs[p]?=Y ((Av u).map .pv)) (L:Ba):∃b:Bool,(b=Z<->t=u)/\Bk (env R) L 95 [.agg ((Av t).map .pv),.ptr p 0] s (BB b) s:=by
 have n:=jd (R:=R) l (BD.Bo t) (BD.Bo u);have e:F ((Av t).map AV.pv)=4:=by grind[Aq]
 have f:F ((Av u).map AV.pv)=4:=by grind[Aq]
 have i:=DG t;obtain⟨o,⟨b,rfl,hb⟩,d⟩:=n;refine⟨b,hb,?_⟩;generalize (Av t).map AV.pv=r at d e i;generalize (Av u).map AV.pv=x at d f j;obtain⟨v,k,⟨rfl,rfl⟩,y⟩:=m95 (R:=R) (L:=L) (s:=s) (t0:=.agg r) (t1:=.ptr p 0) (Post:=λv k=>v=BB b/\k=s) (by simp[Da,F9]) (ANc (Bs (cs:=r) rfl i (Ag (A0 s.bs r) e (Ag (Am j r) f ⟨_,_,d _ _,Ji hs (m:=[r]) (p:=.sc (.bool b)) ⟨rfl,rfl⟩⟩))));omega
def XOk (R:RT) (t:Ty) (o:Ϥ×Int):Prop:=∀x,BX t x->∀s,BM s->∀L:Ba,L.n0=0->L.ro=0->L.rt=0 ->
 ∃v b,(∃a,v=.tuple [a,AG o.2]/\EE (F s.bs) b.bs o.1 a/\b.bs.take (F s.bs)=s.bs/\F s.bs<=F b.bs/\Cx (.AE []) (.AE []) s.ts b.ts/\BM b)/\Bk (env R) L 14 [x] s v b
def AAN {X:Ty->Ϥ×Int} {ts:Ϣ} {y:AV} (T:A3 y (Aj ts)) (η:F ts<2 ^ 30) (H:∀t∈ts,C2 (X t)=Z->AP t<2 ^ 38) (hx:∀t∈ts,XOk R t (X t)) {Post:AV->Prop} (l:Post (BB (ts.all λt=>C2 (X t)))) :
  ∀(j p:Nat) (e:Ϣ) (s:AY) (b:AV),p+j=F ts->F e<=p->(∀t∈e,t∈ts/\C2 (X t)=Z)->(ts.all λt=>C2 (X t))=((ts.drop p).all λt=>C2 (X t))->BM s->D1 0 s.ts 25 b (Aj e) ->
   ACX R 0 0 0 b y (AG (F ts)) (AG p) s (QP Post):=by
 classical
 intro j
 induction j with
 | zero=>
  intro p e s b U I i f z hb;refine ACY (Ao ?_);rw[A5 AA];rw[CR AA] at f;rw[f] at l;exact A4 (ANd ⟨_,GG,l⟩)
 | succ j o=>
  intro p e s b U I i f z hb;refine ACY (Ao ?_);rw[Ax AA];have⟨t,A⟩:∃t,ts[p]?=Y t:=⟨_,Az AA⟩;have K:=A8 A;rw[drop_cons A,FX] at f;have m:F ((Av t).map AV.pv)=4:=by grind[Aq]
  have M:=DG t
  have N:Ap (F s.bs+1) ((Av t).map AV.pv)=true:=by
   obtain⟨k1,θ,ι,κ⟩:=t;rfl
  refine BH (ANe (BL T (row:=Av t) AA (by simp[*,BK]) (Aq _) AA (Cd (Bh ?_))));obtain⟨d,tk⟩:=s;refine Bn (A0 d Z4) m rfl AH (AO _) M (.inl (AO _)) ?_;have W:(d++[Z4]).set (F d) ((Av t).map AV.pv)=d++[(Av t).map AV.pv]:=AD;rw[W];have k:BM ⟨d++[(Av t).map AV.pv],tk⟩:=BM.app (s:=⟨d,tk⟩) z N;have n:=A0 d ((Av t).map AV.pv)
  have D:∀u∈e,∀L,Bk (env R) L 95 [.agg ((Av u).map .pv),.ptr (F d) 0] ⟨d++[(Av t).map AV.pv],tk⟩ (BB (decide (u=t))) ⟨d++[(Av t).map AV.pv],tk⟩:=by
   intro u hu L;have⟨B,μ,ν⟩:=AHI (R:=R) (t:=u) (u:=t) (H u (i u hu).1 (i u hu).2) k n L
   grind
  have r:=hb.BA;rw[Iw] at r;refine⟨_,_,WV (λt=>Aq t) r AA k rfl D _,?_⟩;cases hm:e.any (λu=>decide (u=t)) with
  | true=>
   have⟨u,hu,ε⟩:=Ly.1 hm;have:u=t:=AB;subst this;have O:=(i u hu).2;refine BH (ACZ (Bb AA AA ?_));have:=o (p+1) e ⟨d++[(Av u).map AV.pv],tk⟩ b AA AA i (by rw[f,O,Cm]) k hb
   grind
  | false=>
   refine A4 (ANf (Ag n m (Eg (BD.Bo t).Du ⟨AH,Jj hb rfl AA λB x Q ζ=>Ag n m ?_⟩)));have S:BM ⟨d++[(Av t).map AV.pv],x⟩:=k;obtain⟨v,C,⟨a,rfl,α,ξ,ο,β,γ⟩,δ⟩:=hx t K _ (BD.Bo t).Du ⟨d++[(Av t).map AV.pv],x⟩ S (Co (env R) 47 0 0 0) rfl rfl rfl;refine⟨_,_,δ,B9 rfl (B9 rfl (Ef ?_))⟩
   have fail:C2 (X t)=ϴ->(QP Post) (BB ϴ) C:=λh=>by
    rw[f,h,HB] at l;exact⟨_,GG,l⟩
   cases π:(X t).2==0 with
   | false=>
    grind[C8,pk,BH,C2]
   | true=>
    have:((X t).2 != 0)=false:=AB;rw[this];refine Aw (Aw (Au α.BG (Aw (Gv (pk ?_)))))
    by_cases ρ:F (X t).1<=4
    .rw[A5 AA]
     refine A4 (ACZ (Bb AA AA ?_));have E:C2 (X t)=true:=by grind[C2]
     have:=o (p+1) (e++[t]) C B AA AB (λu hu=>by
      rcases CU.1 hu with hu|hu
      all_goals grind) (by rw[f,E,Cm]) γ (β.keep Q λ_ h=>by cases h)
     grind
    grind[BH,C2]
def IX {X:Ty->Ϥ×Int} {ts:Ϣ} {y:AV} (d:A3 y (Aj ts)) (f:F ts<2 ^ 30) (e:∀t∈ts,C2 (X t)=Z->AP t<2 ^ 38) (hx:∀t∈ts,XOk R t (X t)):Ah (env R) 47 [y] λr=>r=BB (ts.all λt=>C2 (X t)):=by
 refine e47 (u0:=y) (by simp[BZ,d.close]) (ANg (Au (n:=F ts) (by rw[d.BG,Ae]) ?_));exact AAN (Post:=λr=>r=BB (ts.all λt=>C2 (X t))) d f e hx rfl (F ts) 0 [] ⟨[],[]⟩ (.AE []) AA (AO _) (λt h=>by cases h) rfl (λb hb=>by grind) (.inl rfl)
def QS {X:Ty->Ϥ×Int} {ts:Ϣ} {y:AV} (e:BN y (Aj ts)) (f:F ts<2 ^ 30) (d:∀t∈ts,C2 (X t)=Z->AP t<2 ^ 38) (hx:∀t∈ts,XOk R t (X t)):Ah (env R) 47 [y] λr=>r=BB (ts.all λt=>C2 (X t)):=by
 have⟨i,j,b⟩:=e.closed [] 0;exact Ah.open (args':=[i]) AX AX rfl (by grind[BZ]) (by simp[BZ,b.close]) (IX b f d hx)
end
def MV {L:Ba} {s:AY} {id:Nat} {cs:Ϭ} {K:AY->Prop} (hb:s.bs[id]?=Y Z5) (e:F cs=5) (b:L.ro<=id) (d:cs.all BS=Z) (hn:L.n0<=id) (h:K ⟨s.bs.set id cs,s.ts⟩):Hw L s 5 (.ptr id 0) (.agg cs) K:=
 Bn hb e rfl AH b d (.inl hn) h
theorem mT {B:Ϣ} {p:Ty} (d:Ez (F B) p=Z):∀b∈(Gc B p).AN,b∈B:=by
 intro b hb;have hb:b∈(Lc (F B) p []).2.map λx=>B.getD x XL:=hb
 grind[jP]
section
variable {R:RT}
def AAO (hn:Mm R) {B:Ϣ} (hN2:F B<=2 ^ 37) (ξ:∀t∈B,AP t<2 ^ 38/\N4 t=Z) {ps:Ϣ} (hpl:F ps<=32) (χ:∀p∈ps,AP p<2 ^ 37/\Ez (F B) p=Z) {a:AV} (a4:BN a (Aj (CO ps))) {n e:Nat} {X:Ϩ} {d:AV} (a6:X[e]?=Y [d,AG 32]) (a7:BN d (Aj B)) {N7:Ϫ} {QR:QT}
  (hF:(ps.map (Gc B)).all Mp=ϴ->∀bs tk,BM ⟨bs,tk⟩->bs.take n=X->n<=F bs->Cx (.AE []) (.AE []) N7 tk->QR (.tuple [.AE [],AG 4]) ⟨bs,tk⟩)
  (hS:(ps.map (Gc B)).all Mp=Z->∀bs tk t7 t8,BM ⟨bs,tk⟩->bs.take n=X->n<=F bs->Cx (.AE []) (.AE []) N7 tk->EE n bs (ps.map (Gc B)) t7->BN t8 (Aj ((ps.map (Gc B)).flatMap Br.AN))->ACa R 0 0 0 t7 t8 ⟨bs,tk⟩ QR) :
  ∀(j p:Nat) (bs:Ϩ) (tk:Ϫ) (t7 t8:AV),p+j=F ps->BM ⟨bs,tk⟩->bs.take n=X->n<=F bs->EE n bs ((ps.take p).map (Gc B)) t7->D1 0 tk 25 t8 (Aj (((ps.take p).map (Gc B)).flatMap Br.AN))->((ps.take p).map (Gc B)).all Mp=Z->F (((ps.take p).map (Gc B)).flatMap Br.AN)<=6*p->Cx (.AE []) (.AE []) N7 tk->Dt t8 N7 ->
   ACb R 0 0 0 (.ptr e 0) t7 t8 a (AG (F ps)) (AG p) ⟨bs,tk⟩ QR:=by
 intro j
 induction j with
 | zero=>
  intro p bs tk t7 t8 a8 U W E A C D ψ H I;refine ACc (Ao ?_);rw[A5 AA];rw[CC AA] at A C D;exact A4 (hS D bs tk t7 t8 U W E H A C.BA)
 | succ j ω=>
  intro p bs tk t7 t8 a8 U W E A C D ψ H I;refine ACc (Ao ?_);rw[Ax AA];have⟨c,a9⟩:∃c,ps[p]?=Y c:=⟨_,Az AA⟩;have Γ:=A8 a9;have⟨c1,b0⟩:=χ c Γ;have hrc:(CO ps)[p]?=Y (ren c):=by grind[Bx]
  have K:F ((Av (ren c)).map AV.pv)=4:=by grind[Aq]
  have δ:=DG (ren c)
  have ε:Ap (F bs+1) ((Av (ren c)).map AV.pv)=true:=by
   have⟨k1,n1,i1,t1⟩:=ren c;rfl
  have β:=BD.Bo (ren c);have htk:ps.take (p+1)=ps.take p++[c]:=by grind[List.take_add_one]
  refine BH (ANh (Bc a4 (row:=Av (ren c)) AA (by grind[BK]) (Aq _) AA (Cd (Bh ?_))));generalize (Av (ren c)).map AV.pv=i at K δ ε β;refine Bn (A0 bs Z4) K rfl AH (AO _) δ (.inl (AO _)) ?_;have b3:(bs++[Z4]).set (F bs) i=bs++[i]:=AD;rw[b3];have M:BM ⟨bs++[i],tk⟩:=BM.app (s:=⟨bs,tk⟩) U ε;have ο:=A0 bs i;have N:=(DL E i).trans W;have b4:F (bs++[i])=F bs+1:=AD;have O:EE n (bs++[i]) ((ps.take p).map (Gc B)) t7:=A.mono (AU _) λj c _ k=>Am k _
  generalize bs++[i]=b at M ο N b4 O;have Δ:b[e]?=Y [d,AG 32]:=CN N a6;obtain⟨w,s',⟨x,r,π,rfl⟩,b5⟩:=NR (R:=R) hn (L:=Co (env R) 14 0 0 0) (p:=c) (s:=⟨b,tk⟩) AA (λt ρ=>⟨.of (ξ t ρ).1,(ξ t ρ).2⟩) AA b0 β.Du M Δ a7 rfl rfl;refine Ag ο K ⟨_,_,b5,?_⟩;obtain⟨f,rfl⟩:=r.agg;have⟨q1,b6,ς⟩:=r.cells;have Θ:=π.keep C (λ_ h=>by cases h);have γ:=H.trans π;refine Bh (MV (A0 b Z5) q1 (AO _) b6 (AO _) ?_);have b7:(b++[Z5]).set (F b) f=b++[f]:=AD
  show EX _ ⟨(b++[Z5]).set (F b) f,x⟩ _ _ _
  rw[b7];have ζ:BM ⟨b++[f],x⟩:=BM.app (s:=⟨b,tk⟩) M (ς _);have u:=A0 b f;have η:=(DL (n:=n) AA f).trans N;have θ:EE n (b++[f]) ((ps.take p).map (Gc B)) t7:=O.mono (AU _) λj c _ k=>Am k _
  have Λ:F (b++[f])=F b+1:=AD
  have Ξ:∀m,t7≠.ref (F b) 0 m 5:=by
   intro m h;rcases O with ⟨α,_⟩|⟨id,rows,_,α,σ,_⟩
   all_goals grind
  generalize b++[f]=o at ζ u η θ Λ;have hsz:=dJ B c;have hcv:=Eb (Gc B c).AM;refine Ag u q1 (AI (PB AA AA AA r) ?_);rintro _ rfl;have b8:(decide (F (Gc B c).AN<=6)&&decide (F (Af (Gc B c).AM)<=3))=Mp (Gc B c):=rfl;rw[b8];refine nt ?_;cases hwc:Mp (Gc B c) with
  | false=>
   grind[BH]
  | true=>
   have hb6:F (Gc B c).AN<=6:=AB;have⟨y,z,Φ,ι,_⟩:=id r;cases Φ;refine A4 (ANi (Ag u q1 (KH r ⟨AH,?_⟩)));have Q:=Am u (y::z);have Ψ:BM ⟨o++[y::z],x⟩:=BM.app (s:=⟨o,x⟩) ζ (ς _);have κ:EE n (o++[y::z]) ((ps.take p).map (Gc B)) t7:=θ.mono (AU _) λj c _ k=>Am k _
   refine U3 (s:=⟨o++[y::z],x⟩) r (A0 o _) κ rfl AB ?_ AB;intro b9 S hb1 μ hb3 Ω _;have a0:=Ω Ψ;have ν:=μ (F b) _ Ξ Q
   have a1:S.take n=X:=by
    rw[<-η];refine Fw λj=>?_
    by_cases k:j<n
    .rw[Nu k,Nu k]
     have T:j<F o:=AA;have α:(o++[y::z])[j]?=Y o[j]:=by rw[C3 T,Az T]
     rw[μ j _ (λm h=>by
      rcases κ with ⟨σ,_⟩|⟨id,rows,σ,h3,_⟩
      all_goals grind) α,Az T]
    grind
   have φ:n<=F S:=AA;refine AR (Ab ν) (Ad (off:=0) ν rfl ⟨AH,FO (l:=(Gc B c).AN) Θ rfl AA ι λa2 a3 x1 τ=>?_⟩);have υ:=BN.D9 (es:=(Gc B c).AN) ι;refine⟨AR (Ab u) (D8 _ _),AR (Ab Q) (D8 _ _),Ad (off:=0) u rfl υ,Ad (off:=0) Q rfl υ,ANj (Bb AA AA ?_)⟩;have em:(ps.take (p+1)).map (Gc B)=(ps.take p).map (Gc B)++[Gc B c]:=AB;have ef:((ps.take (p+1)).map (Gc B)).flatMap Br.AN=((ps.take p).map (Gc B)).flatMap Br.AN++(Gc B c).AN:=AB;have:=ω (p+1) S a3 b9 a2 AA a0 a1 φ AB AB (by rw[em,Ya,D]; grind) AB (γ.side τ I) (I.QG τ γ.1)
   grind
end
structure Fit (t:Ty):Prop where
 bws:CG (bw t)
 jW:wt t<=2 ^ 27
 nbs:nb t<2 ^ 36
theorem Fit.sub {t b:Ty} (h:Fit t) (hb:WT t b):Fit b:=⟨DE h.bws hb.bws,BC hb.jW h.jW,L2 hb.nbs h.nbs⟩
mutual
def N9:∀t:Ty,A2 t=Z->ZQ t
 | .mk k n i ts,h=>by
  have hn:=MQ h;simp only[A2,AK] at h;rw[ZQ];exact⟨by grind[Tu],U4 ts h.2⟩
def U4:∀l:Ϣ,BO l=Z->SV l
 | [],_=>trivial
 | t::l,h=>by
  simp only[BO,AK] at h;rw[SV];exact⟨N9 t h.1,U4 l h.2⟩
end
mutual
def Xx:∀t:Ty,A2 t=Z->ixs t=Z
 | .mk k n i ts,h=>by
  have b:=h;simp only[A2,AK] at h;rw[ixs,U5 ts h.2];cases d:k==5 with
  | false=>rfl
  | true=>
   have:k=5:=AB;subst this;have e:=EL b;have f:=Lg b
   grind
def U5:∀l:Ϣ,BO l=Z->pO l=Z
 | [],_=>rfl
 | t::l,h=>by
  simp only[BO,AK] at h;rw[pO,Xx t h.1,U5 l h.2];rfl
end
def HW {t:Ty} (h:A2 t=Z) (b:CJ 0 t=Z):N4 t=true:=by
 have:=Ue [] t 0 h
 grind[Ck]
section
variable {R:RT}
def U6 {t:Ty} (h:AP t<2 ^ 60) (d:ZQ t) {x:AV} (hx:BX t x):Ah (env R) 42 [x] λr=>r=AG (DJ t):=by
 have⟨e,f,b⟩:=hx.closed [] 0;exact Ah.open (args':=[e]) AX AX rfl (by grind[BZ]) (by simp[BZ,b.Ik]) (WQ h d b)
def U7 {t:Ty} (h:AP t<2 ^ 18) (d:ixs t=Z) {x:AV} (hx:BX t x):Ah (env R) 43 [x] λr=>∃l:Ϛ,A3 r (Ai l)/\l.Pairwise (·<·)/\(∀w,w∈l<->w∈RN 0 t):=by
 have⟨e,f,b⟩:=hx.closed [] 0;exact Ah.open (args':=[e]) AX AX rfl (by grind[BZ]) (by simp[BZ,b.Ik]) (WU h d b)
structure XH (R:RT) (X:Ty->Ϥ×Int) (t:Ty) (r:Option Ϣ) (B:Ϣ):Prop where
 run:∀(e:Nat) (x:AV),BX t x->∀s,BM s->V4 R e 32 44 [x] (r,B) [] s
 len:F B<2 ^ 37
 bds:∀b∈B,AP b<2 ^ 38/\N4 b=Z
 few:∀ps,r=Y ps->F ps<=32
 pat:∀ps,r=Y ps->∀p∈ps,AP p<2 ^ 37/\Ez (F B) p=Z
 sub:∀ps,r=Y ps->∀b∈(ps.map (Gc B)).flatMap Br.AN,AP b<2 ^ 38/\XOk R b (X b)
def xO (X:Ty->Ϥ×Int) (r:Option Ϣ) (B:Ϣ):Ϥ×Int:=match r with
 | none=>([],4)
 | some ps=>bif (ps.map (Gc B)).all Mp&&(((ps.map (Gc B)).flatMap Br.AN).all λb=>C2 (X b)) then(ps.map (Gc B),0) else([],4)
def pS (hn:Mm R) {X:Ty->Ϥ×Int} {t:Ty} {r:Option Ϣ} {B:Ϣ} (μ:AP t<2 ^ 60) (ν:ZQ t) (H:DJ t=0->CJ 0 t=Z->XH R X t r B):XOk R t (bif !(DJ t==0)||!(CJ 0 t) then([],2) else xO X r B):=by
 intro x hx s ψ L ξ ο π;have ρ:=U6 (R:=R) μ ν hx;have ς:=λf i=>U7 (R:=R) (t:=t) f i hx
 have D:=hx;obtain⟨d,rfl⟩:=D.agg;have⟨M,ω,Γ⟩:=D.cells;have W:(s.bs++[d]).take (F s.bs)=s.bs:=AD;have E:BM ⟨s.bs++[d],s.ts⟩:=BM.app (s:=s) ψ (Γ _);have N:=A0 s.bs d
 have fail:∀(n:Int) (o:Ϥ×Int),o=([],n)->∀e ts,BM ⟨e,ts⟩->e.take (F s.bs)=s.bs->F s.bs<=F e->Cx (.AE []) (.AE []) s.ts ts ->
   ∃a,(AV.tuple [.AE [],AG n])=.tuple [a,AG o.2]/\EE (F s.bs) e o.1 a/\e.take (F s.bs)=s.bs/\F s.bs<=F e/\Cx (.AE []) (.AE []) s.ts ts/\BM ⟨e,ts⟩:=by
  rintro n o rfl e ts f i A m;exact⟨_,rfl,.inl ⟨rfl,rfl⟩,i,A,m,f⟩
 refine m14 ?_;rw[ξ,ο,π];refine ANk (Bs (cs:=d) rfl ω (Ag N M (AI ρ ?_)));rintro _ rfl;refine Ef ?_;cases α:DJ t==0 with
 | false=>
  have:(DJ t != 0)=true:=AB;rw[this];refine C8 (C8 (C8 (C8 (pk (BH ?_)))));exact fail 2 _ rfl _ _ E W AD (Cx.refl _ _)
 | true=>
  have:(DJ t != 0)=false:=AB;rw[this];obtain⟨Δ,a3,a4⟩:=E6 (by simpa using α);refine Aw (Ag N M (Aw (AI (ς AA (Xx t Δ)) ?_)));rintro v ⟨fl,β,a5,T⟩;refine Aw (Au (n:=F fl) (by rw[β.BG,BP]) (Aw (Gv (pk ?_))));cases Θ:CJ 0 t with
  | false=>
   have a6:0<F fl:=by
    rcases fl with _|⟨w,fl⟩
    .exfalso
     have:RN 0 t=[]:=by
      rcases hf:RN 0 t with _|⟨w,l⟩
      .rfl
      .have:=(T w).2 AB
       grind
     grind[QO]
    simp
   rw[Ax AA];refine BH ?_;exact fail 2 _ rfl _ _ E W AD (Cx.refl _ _)
  | true=>
   have ι:fl=[]:=by
    rcases fl with _|⟨w,fl⟩
    .rfl
    .exfalso
     have:=(T w).1 AD
     grind[QO]
   subst ι;rw[A5 AD];simp only[Nj,Kf,AL];have p:=H (by simpa using α) Θ;refine A4 (ANl (FV (cs:=[.AE [],AG 32]) rfl (Bs (cs:=[.AE [],AG 32]) rfl rfl ?_)));have O:(s.bs++[d]++[[.AE [],AG 32]])[F s.bs+1]?=Y [.AE [],AG 32]:=AD;have γ:=Am N [.AE [],AG 32];have I:BM ⟨s.bs++[d]++[[.AE [],AG 32]],s.ts⟩:=BM.app (s:=⟨s.bs++[d],s.ts⟩) E rfl;have κ:F (s.bs++[d]++[[.AE [],AG 32]])=F s.bs+2:=AD;have Λ:(s.bs++[d]++[[.AE [],AG 32]]).take (F s.bs+2)=s.bs++[d]++[[.AE [],AG 32]]:=CC AA;have δ:(s.bs++[d]++[[.AE [],AG 32]]).take (F s.bs)=s.bs:=AD;have σ:F (s.bs++[d])=F s.bs+1:=AD;rw[σ];generalize s.bs++[d]++[[.AE [],AG 32]]=k at O γ I κ Λ δ;obtain⟨w,a9,⟨u,y,q1,Q,Ξ,rfl⟩,Φ⟩:=p.run (F s.bs+1) (.agg d) D ⟨k,s.ts⟩ I (Co (env R) 14 0 0 0) (.AE []) rfl rfl O (.inl rfl);refine Ag γ M ⟨_,_,Φ,?_⟩;have K:BM ⟨k.set (F s.bs+1) [u,AG ((32:Nat):Int)],y⟩:=BM.set (s:=⟨k,s.ts⟩) I (by simp[Ap,A6,Q.BA.A6]) _;have ε:(k.set (F s.bs+1) [u,AG ((32:Nat):Int)]).take (F s.bs)=s.bs:=(Cf AA).trans δ;have ζ:(k.set (F s.bs+1) [u,AG ((32:Nat):Int)])[F s.bs+1]?=Y [u,AG ((32:Nat):Int)]:=BT O;have τ:F (k.set (F s.bs+1) [u,AG ((32:Nat):Int)])=F s.bs+2:=AB
   have z:Cx (.AE []) (.AE []) s.ts y:=by
    obtain⟨f,i,A⟩:=Ξ;exact⟨f,λt Ψ _=>i t Ψ (λh=>by cases h),.inl rfl⟩
   generalize k.set (F s.bs+1) [u,AG ((32:Nat):Int)]=S at K ε ζ τ;cases r with
   | none=>
    cases q1;exact B9 rfl (B9 rfl (nt (BH (fail 4 _ rfl S y K ε AA z))))
   | some ps=>
    obtain⟨b0,rfl,η⟩:=q1;simp only at Q;have υ:=p.few ps rfl;have φ:=p.pat ps rfl;have Ω:=p.bds;refine B9 rfl (B9 rfl (nt (A4 (ANm (Au (n:=F ps) (by rw[η.BG,Ae,Bx,Bj]) ?_)))));have a7:=p.len;refine AAO hn (n:=F s.bs+2) (X:=S) AA Ω υ φ η ζ Q.BA (N7:=y) ?_ ?_ (F ps) 0 S y (.AE []) (.AE []) AA K (CC AA) AA (.inl ⟨rfl,rfl⟩) (.inl rfl) rfl AD (Cx.refl _ _) (Dt.AE _ _)
    .intro U e tk f i A m
     have C:e.take (F s.bs)=s.bs:=AB;refine fail 4 _ ?_ e tk f C AA (z.trans m)
     grind[xO]
    .intro U e tk a0 b1 f i A m a1 a2
     have C:e.take (F s.bs)=s.bs:=AB;have θ:=p.sub ps rfl
     have β:F ((ps.map (Gc B)).flatMap Br.AN)<=6*32:=by
      have:∀l:Ϥ,l.all Mp=Z->F (l.flatMap Br.AN)<=6*F l:=by
       intro l
       induction l with
       | nil=>simp
       | cons b l a8=>
        grind[Mp]
      grind
     refine ANn (AI (QS (X:=X) a2 AA (λb hb _=>(θ b hb).1) (λb hb=>(θ b hb).2)) ?_);rintro _ rfl;refine nt ?_;cases χ:(((ps.map (Gc B)).flatMap Br.AN).all λb=>C2 (X b)) with
     | false=>
      refine BH (fail 4 _ ?_ e tk f C AA (z.trans m))
      grind[xO]
     | true=>
      refine A4 (ANo ?_);simp only[xO,U,χ,F0,AQ];exact⟨a0,rfl,a1.mono AA λj c _ h=>h,C,AA,z.trans m,f⟩
def je (hn:Mm R):∀(f:Nat) (t:Ty),Al t<=f->AP t<2 ^ 60->ZQ t->(DJ t=0->Fit t)->XOk R t (xP f t):=by
 intro f
 induction f with
 | zero=>
  intro t T;obtain⟨k,n,i,ts⟩:=t
  grind[Al]
 | succ f U=>
  intro t T O Q L;have s:=pS (R:=R) hn (X:=xP f) (t:=t) (r:=(BI (Aa 32) (Al t) t []).1) (B:=(BI (Aa 32) (Al t) t []).2) O Q ?_
  .rw[xP]
   revert s;rcases BI (Aa 32) (Al t) t [] with ⟨_|ps,B⟩
   .exact λs=>s
   .exact λs=>s
  intro E y;have⟨d,β,γ⟩:=E6 E;have j:=L E;have o:=λ(e:Nat) hm=>I8 (R:=R) hn (e:=e) (ml:=32) (Ar:=32) (M:=nb t) AH AH (Yb j.nbs AH) (Al t) t [] (AU _) d y (L2 j.jW AH) AA [] (λx hx=>by grind) hm ⟨AH,AU _,AH,.inl rfl⟩
  have l:=TH (Al t) t [] [] d y j.bws (λx hx=>by grind);have A:=G5 (A7:=Aa 32) (Al t) t [] (nb t) (qM (nb t));have C:=O9 (f:=Al t) d y;have D:=KD (A7:=Aa 32) AX (Al t) t [];rw[Ck d y] at o l;rw[IU t d] at o
  have N:E4 (λi=>qM (nb t) i&&decide (i<(F ([]:Ϣ):Nat))) t=true:=by
   have:=G7 (q:=λi=>qM (nb t) i&&decide (i<(F ([]:Ϣ):Nat))) (σ:=[]) (λx hx=>by grind) t 0 d
   grind[Ck]
  rcases I:BI (Aa 32) (Al t) t [] with ⟨r,B⟩
  rw[I] at o l A C D;simp only[CQ,CY] at l;simp only at o A C D
  have W:∀b∈B,AP b<2 ^ 38/\N4 b=true:=by
   intro b hb;have m:=C b hb;exact⟨by have:=m.Gw; omega,HW m.val m.cl⟩
  have H:∀ps,r=Y ps->∀p∈ps,AP p<2 ^ 37/\Ez (F B) p=true:=by
   rintro ps rfl p z;have⟨m,K⟩:=A ps (λi m K=>by grind) N rfl l p z;refine⟨by have:=j.jW; omega,?_⟩
   have⟨α,_⟩:=G5 (A7:=Aa 32) (Al t) t [] (F B) (qM (F B)) ps (λi m K=>by grind) (by
    have:=G7 (q:=λi=>qM (F B) i&&decide (i<(F ([]:Ϣ):Nat))) (σ:=[]) (λx hx=>by grind) t 0 d
    grind[Ck]) (by rw[I]) AB p z
   rw[F8];exact α
  refine⟨λe=>o e l,Yb (L2 l j.nbs) AH,W,λps δ=>by grind,H,?_⟩
  .rintro ps rfl b hb
   have u:WT t b:=by
    have⟨ε,S,hb⟩:=Nn.1 hb;obtain⟨p,z,rfl⟩:=Cw.1 S;have:=(H ps rfl p z).2
    grind[mT]
   exact⟨by have:=u.Gw; omega,U b (by have:=u.dep; omega) (by have:=u.Gw; omega) (N9 b u.val) (λ_=>j.sub u)⟩
end
mutual
def TI:Ty->Bool
 | .mk k n i ts=>bif k==5 then n==[]&&(ts.isEmpty&&(decide (-(2 ^ 60)<=i)&&decide (i<2 ^ 60))) else bif k==2||k==3 then RP ts else Z
def RP:Ϣ->Bool
 | []=>Z
 | t::l=>TI t&&RP l
end
def TJ {n:Ϝ} {i:Int} {ts:Ϣ} (h:TI (.mk 5 n i ts)=Z):n=[]/\ts=[]/\-(2 ^ 60)<=i/\i<2 ^ 60:=by grind[TI]
theorem U8 (f:Int->Ty):∀l:Ϣ,B4 f l=l.map (Bq f)
 | []=>rfl
 | t::l=>by rw[B4,U8 f l]; rfl
section
variable {R:RT}
def KI (i:Int):Ah (env R) 25 [AG i] λr=>r=.agg [AG 5,SS [],AG i,.AE []]:=by
 refine e25 (u0:=AG i) AD (ANp (Bh (FV (cs:=[AG 5,SS [],AG i,.AE []]) rfl ?_)));refine Bn (old:=Z4) rfl rfl rfl AH (AO _) rfl (.inl (AO _)) (Ag (cs:=[AG 5,SS [],AG i,.AE []]) rfl rfl ?_);exact⟨_,AD,rfl⟩
def TK (i:Int):BD (var i) (.agg [AG 5,SS [],AG i,.AE []]):=⟨_,rfl,.AE _⟩
def Eh {s:AY} {id:Nat} {t:Ty} {cs old:Ϭ} {Post:AV->Prop} (b:s.bs[id]?=Y old) (j:F old=4) (d:BX t (.agg cs)) (k:∀r,BD t r->Post r) {f:FuncId} :
  Hw (Co (env R) f 0 0 0) s 4 (.ptr id 0) (.agg cs) λe=>EX (env R) e (Y 4) (.ptr id 0) λr=>QP Post r e:=by
 have⟨i,l,o⟩:=d.cells;refine Bn b i j AH (AO _) l (.inl (AO _)) (Ag (BT b) i ?_);have⟨r,m,n⟩:=d.closed (s.bs.set id cs) 0;exact⟨r,m,k r n⟩
def AAP {ts:Ϣ} {a:AV} (l:A3 a (Aj ts)) (E:F ts<2 ^ 37) {k i n m:Int} {nm:Ϝ} {g:Ty->Ty} (z:∀t∈ts,Ah (env R) 82 [.agg ((Av t).map .pv),AG n,AG m] λr=>BD (g t) r) {Post:AV->Prop} (A:∀r,BD (.mk k nm i (ts.map g)) r->Post r) :
  ∀(j q:Nat) (s:AY) (b:AV),q+j=F ts->s.bs[0]?=Y [AG k,SS nm,AG i,a]->s.bs[1]?=Y Z4->s.bs[2]?=Y [AG k,SS nm,AG i,b]->D1 0 s.ts 25 b (Aj ((ts.take q).map g)) ->
   ACd R 0 0 0 (AG n) (AG m) (.ptr 0 0) (.ptr 1 0) (.ptr 2 0) (AG q) s (QP Post):=by
 intro j
 induction j with
 | zero=>
  intro q s b B e o d hb;refine ACe (AR (Ab e) (Ad (off:=3) e rfl (Au (n:=F ts) (by rw[l.BG,Ae]) (Ao ?_))));rw[A5 AA];rw[CC AA] at hb;exact A4 (ANq (Ag d rfl (Eh o rfl (t:=.mk k nm i (ts.map g)) ⟨b,rfl,hb.BA⟩ A)))
 | succ j u=>
  intro q s b B e o d hb;refine ACe (AR (Ab e) (Ad (off:=3) e rfl (Au (n:=F ts) (by rw[l.BG,Ae]) (Ao ?_))));rw[Ax AA];have⟨t,C⟩:∃t,ts[q]?=Y t:=⟨_,Az AA⟩;refine BH (ANr (AR (Ab d) (Ad (off:=3) d rfl (AR (Ab e) (Ad (off:=3) e rfl (BL l (row:=Av t) AA (by grind[BK]) (Aq t) AA (Cd ?_)))))));refine AI (z t (A8 C)) ?_;intro v D;refine Eg D.Du ⟨AH,O6 hb rfl AB ?_⟩;intro p x f;have y:(ts.take q).map g++[g t]=(ts.take (q+1)).map g:=by grind[List.take_add_one]
  rw[y] at f;refine AR (Ab d) (C1 d AD f.BA.cells (AO _) f.BA.ok (.inl (AO _)) ?_);refine⟨AR (Ab d) (D8 _ _),Ad (off:=3) d rfl (Fm hb),ANs (Bb AA AA ?_)⟩;have:=u (q+1) ⟨s.bs.set 2 [AG k,SS nm,AG i,p],x⟩ p AA (BR e AH) (BR o AH) (BT d) f
  grind
mutual
def SI (n m:Int):∀(t:Ty),AP t<2 ^ 37->TI t=Z->∀(x:AV),BD t x->Ah (env R) 82 [x,AG n,AG m] λr=>BD (Ht n m t) r
 | .mk k b i ts,h,f,x,hx=>by
  obtain⟨a,rfl,j⟩:=hx;simp only[AP] at h;have C:=Bl ts
  suffices H:∀l:AV->Prop,(∀r,BD (Ht n m (.mk k b i ts)) r->l r)->ACf R 0 0 0 (.agg [AG k,SS b,AG i,a]) (AG n) (AG m) ⟨[],[]⟩ (QP l) from
   e82 (u0:=.agg [AG k,SS b,AG i,a]) (u1:=AG n) (u2:=AG m) (by simp[j.close]) (H _ λr h=>h)
  intro l d;refine ANt (Bs (cs:=[AG k,SS b,AG i,a]) rfl (by simp[j.ok]) (Bh ?_));simp only[Ct,CQ,DV,CP,CY];have e:(AY.mk [[AG k,SS b,AG i,a],Z4] []).bs[0]?=Y [AG k,SS b,AG i,a]:=rfl;have o:(AY.mk [[AG k,SS b,AG i,a],Z4] []).bs[1]?=Y Z4:=rfl;refine AR (Ab e) (Ad (off:=0) e rfl (BE ?_));cases s:(k==5) with
  | true=>
   have:k=5:=AB;subst this;obtain⟨rfl,rfl,_,_⟩:=TJ f;rw[Ht,Bq] at d;refine BH (AR (Ab e) (Ad (off:=2) e rfl (BE ?_)));cases p:(i==n) with
   | true=>
    rw[p] at d;refine BH (AI (KI m) ?_);rintro _ rfl;exact Eh o rfl (t:=var m) (TK m).Du d
   | false=>
    rw[p] at d;exact A4 (ANu (Ag e rfl (Eh o rfl (t:=var i) ⟨a,rfl,.inl j⟩ d)))
  | false=>
   rw[TI,s] at f;simp only[AL] at f;rw[Ht,Bq,s] at d;simp only[AL] at d;refine A4 (ANv (AR (Ab e) (Ad (off:=0) e rfl (Ef ?_))))
   have B:(k==2||k==3)=Z->ACg R 0 0 0 (AG n) (AG m) (.ptr 0 0) (.ptr 1 0) ⟨[[AG k,SS b,AG i,a],Z4],[]⟩ (QP l):=by
    intro y;rw[y] at f d;simp only[AQ,U8] at f d;refine ANw (Ag e rfl (Bh (Bn (A0 _ _) rfl rfl AH (AO _) (by simp[j.ok]) (.inl (AO _)) ?_)))
    show Ex ⟨[[AG k,SS b,AG i,a],Z4,[AG k,SS b,AG i,a]],[]⟩ _ _ _
    have u:(AY.mk [[AG k,SS b,AG i,a],Z4,[AG k,SS b,AG i,a]] []).bs[2]?=Y [AG k,SS b,AG i,a]:=rfl;refine AR (Ab u) (C1 (off:=3) u AD rfl (AO _) rfl (.inl (AO _)) ?_);exact AAP (g:=Ht n m) j AA (QU n m ts AA f) (λr h=>d r h) (F ts) 0 _ (.AE []) AA rfl rfl rfl (.inl rfl)
   cases z:(k==3) with
   | true=>
    simp_all
   | false=>
    have:(k != 3)=true:=AB;rw[this];refine Aw (AR (Ab e) (Aw (Ad (off:=0) e rfl (Aw (Ef (pk ?_))))));cases A:(k==2) with
    | true=>
     simp_all
    | false=>
     have:(k != 2)=true:=AB;simp only[this,AQ];rw[A,z] at d;exact BH (Ag e rfl (Eh o rfl (t:=.mk k b i ts) ⟨a,rfl,.inl j⟩ d))
def QU (n m:Int):∀(l:Ϣ),Ak l<2 ^ 37->RP l=Z->∀t∈l,Ah (env R) 82 [.agg ((Av t).map .pv),AG n,AG m] λr=>BD (Ht n m t) r
 | [],_,_,_,h=>by cases h
 | e::l,h,b,t,hm=>by
  simp only[Ak] at h;simp only[RP,AK] at b;rcases BF.1 hm with h' | h'
  .rw[h']
   exact SI n m e AA b.1 _ (BD.Bo e)
  .exact QU n m l AA b.2 t h'
end
end
section
variable {R:RT}
def OpC (R:RT) (op n:Int) (g:Ty->Ty) (t:Ty):Prop:=
 (op=0/\Ah (env R) 112 [.agg ((Av t).map .pv),AG n] λr=>BD (g t) r)\/(op=1/\Ah (env R) 97 [.agg ((Av t).map .pv)] λr=>BD (g t) r)\/(op=2/\Ah (env R) 128 [.agg ((Av t).map .pv),AG n] λr=>BD (g t) r)
def AAQ {op n:Int} {ts:Ϣ} {a:AV} (f:A3 a (Aj ts)) (Q:F ts<2 ^ 37) {k i:Int} {nm:Ϝ} {g:Ty->Ty} (I:∀t∈ts,OpC R op n g t) {Post:AV->Prop} (K:∀r,BD (.mk k nm i (ts.map g)) r->Post r) :
  ∀(j q:Nat) (s:AY) (b:AV),q+j=F ts->s.bs[0]?=Y [AG k,SS nm,AG i,a]->s.bs[1]?=Y Z4->s.bs[2]?=Y [AG k,SS nm,AG i,b]->D1 0 s.ts 25 b (Aj ((ts.take q).map g)) ->
   vB R 0 0 0 (AG op) (AG n) (.ptr 0 0) (.ptr 1 0) (.ptr 2 0) (AG q) s (QP Post):=by
 intro j
 induction j with
 | zero=>
  intro q s b L e p d hb;refine vC (AR (Ab e) (Ad (off:=3) e rfl (Au (n:=F ts) (by rw[f.BG,Ae]) (Ao ?_))));rw[A5 AA];rw[CC AA] at hb;exact A4 (AHK (Ag d rfl (Eh p rfl (t:=.mk k nm i (ts.map g)) ⟨b,rfl,hb.BA⟩ K)))
 | succ j z=>
  intro q s b L e p d hb;refine vC (AR (Ab e) (Ad (off:=3) e rfl (Au (n:=F ts) (by rw[f.BG,Ae]) (Ao ?_))));rw[Ax AA];have⟨t,M⟩:∃t,ts[q]?=Y t:=⟨_,Az AA⟩
  have o:∀v,BD (g t) v->HJ ϴ s 4 [(AG 0),(SS []),(AG 0),(.AE [])] 1 [(0,4,v)] λA O=>(4=4/\4≠0)/\I6 ϴ (Co (env R) 127 0 0 0) s 25 4 56 b A λB u=>Ex u (.ptr 2 0) 3 λC=>Hw (Co (env R) 127 0 0 0) u 1 C B λy=>
    (Ex s (.ptr 2 0) 3 λv=>Tel.D9 v (.ptr 2 (0+3))=Z)/\(EX (env R) s G (.ptr 2 (0+3)) λD=>Tel.D9 D b=Z)/\vD R 0 0 0 (AG op) (AG n) (.ptr 0 0) (.ptr 1 0) (.ptr 2 0) (AG q) y (QP Post):=by
   intro v N;refine Eg N.Du ⟨AH,O6 hb rfl AB ?_⟩;intro x E m;have H:(ts.take q).map g++[g t]=(ts.take (q+1)).map g:=by grind[List.take_add_one]
   rw[H] at m;refine AR (Ab d) (C1 d AD m.BA.cells (AO _) m.BA.ok (.inl (AO _)) ?_);refine⟨AR (Ab d) (D8 _ _),Ad (off:=3) d rfl (Fm hb),AHL (Bb AA AA ?_)⟩;have:=z (q+1) ⟨s.bs.set 2 [AG k,SS nm,AG i,x],E⟩ x AA (BR e AH) (BR p AH) (BT d) m
   grind
  refine BH (AHM (BE ?_));rcases I t (A8 M) with ⟨rfl,l⟩|⟨rfl,l⟩|⟨rfl,l⟩
  .exact BH (AR (Ab d) (Ad (off:=3) d rfl (AR (Ab e) (Ad (off:=3) e rfl (BL f (row:=Av t) AA (by grind[BK]) (Aq t) AA (Cd (AI l o)))))))
  .exact A4 (BE (BH (AR (Ab d) (Ad (off:=3) d rfl (AR (Ab e) (Ad (off:=3) e rfl (BL f (row:=Av t) AA (by grind[BK]) (Aq t) AA (Cd (AI l o)))))))))
  .exact A4 (BE (A4 (AR (Ab d) (Ad (off:=3) d rfl (AR (Ab e) (Ad (off:=3) e rfl (BL f (row:=Av t) AA (by grind[BK]) (Aq t) AA (Cd (AI l o)))))))))
def Zs {op n:Int} {g:Ty->Ty} {k i:Int} {nm:Ϝ} {ts:Ϣ} (m:F ts<2 ^ 37) (o:(k==2||k==3)=Z->∀t∈ts,OpC R op n g t) {x:AV} (hx:BD (.mk k nm i ts) x):Ah (env R) 127 [x,AG op,AG n] λr=>BD (bif k==2||k==3 then .mk k nm i (ts.map g) else .mk k nm i ts) r:=by
 obtain⟨a,rfl,d⟩:=hx
 suffices H:∀f:AV->Prop,(∀r,BD (bif k==2||k==3 then .mk k nm i (ts.map g) else .mk k nm i ts) r->f r)->vE R 0 0 0 (.agg [AG k,SS nm,AG i,a]) (AG op) (AG n) ⟨[],[]⟩ (QP f) from
  AW4 (u0:=.agg [AG k,SS nm,AG i,a]) (u1:=AG op) (u2:=AG n) (by simp[d.close]) (H _ λr h=>h)
 intro f e;refine AHN (Bs (cs:=[AG k,SS nm,AG i,a]) rfl (by simp[d.ok]) (Bh ?_));simp only[Ct,CQ,DV,CP,CY];have b:(AY.mk [[AG k,SS nm,AG i,a],Z4] []).bs[0]?=Y [AG k,SS nm,AG i,a]:=rfl;have p:(AY.mk [[AG k,SS nm,AG i,a],Z4] []).bs[1]?=Y Z4:=rfl
 have y:(k==2||k==3)=Z->vF R 0 0 0 (AG op) (AG n) (.ptr 0 0) (.ptr 1 0) ⟨[[AG k,SS nm,AG i,a],Z4],[]⟩ (QP f):=by
  intro j;rw[j] at e;simp only[AQ] at e;refine AHO (Ag b rfl (Bh (Bn (A0 _ _) rfl rfl AH (AO _) (by simp[d.ok]) (.inl (AO _)) ?_)))
  show Ex ⟨[[AG k,SS nm,AG i,a],Z4,[AG k,SS nm,AG i,a]],[]⟩ _ _ _
  have l:(AY.mk [[AG k,SS nm,AG i,a],Z4,[AG k,SS nm,AG i,a]] []).bs[2]?=Y [AG k,SS nm,AG i,a]:=rfl;refine AR (Ab l) (C1 (off:=3) l AD rfl (AO _) rfl (.inl (AO _)) ?_);exact AAQ (g:=g) d m (o j) (λr h=>e r h) (F ts) 0 _ (.AE []) AA rfl rfl rfl (.inl rfl)
 refine AR (Ab b) (Ad (off:=0) b rfl (Ef ?_));cases s:(k==3) with
 | true=>
  simp_all
 | false=>
  have:(k != 3)=true:=AB;rw[this];refine Aw (AR (Ab b) (Aw (Ad (off:=0) b rfl (Aw (Ef (pk ?_))))));cases u:(k==2) with
  | true=>
   simp_all
  | false=>
   have:(k != 2)=true:=AB;simp only[this,AQ];rw[u,s] at e;exact BH (Ag b rfl (Eh p rfl (t:=.mk k nm i ts) ⟨a,rfl,.inl d⟩ e))
def RQ {f:Int->Ty} {k i:Int} {nm:Ϝ} {ts:Ϣ} (b:(k==5)=ϴ):Bq f (.mk k nm i ts)=bif k==2||k==3 then .mk k nm i (ts.map (Bq f)) else .mk k nm i ts:=by grind[Bq,U8]
def U9 {k i:Int} {nm:Ϝ} {ts:Ϣ} (b:(k==5)=ϴ) (h:TI (.mk k nm i ts)=Z):(k==2||k==3)=Z->RP ts=true:=by grind[TI]
mutual
def PC {n:Nat} (hn:n<2 ^ 60):∀(t:Ty),AP t<2 ^ 37->TI t=Z->∀(x:AV),BD t x->Ah (env R) 112 [x,AG n] λr=>BD (HE n t) r
 | .mk k e i ts,h,o,x,hx=>by
  have y:=hx;obtain⟨a,rfl,j⟩:=hx;simp only[AP] at h;have K:=Bl ts;have z:=λl:(k==5)=ϴ=>Zs (R:=R) (op:=0) (n:=n) (g:=HE n) AA (λC t D=>.inl ⟨rfl,SJ hn ts AA (U9 l o C) t D⟩) y
  suffices H:∀f:AV->Prop,(∀r,BD (HE n (.mk k e i ts)) r->f r)->vG R 0 0 0 (.agg [AG k,SS e,AG i,a]) (AG n) ⟨[],[]⟩ (QP f) from
   AW5 (u0:=.agg [AG k,SS e,AG i,a]) (u1:=AG n) (by simp[j.close]) (H _ λr h=>h)
  intro f d;refine AHP (Bs (cs:=[AG k,SS e,AG i,a]) rfl (by simp[j.ok]) (Bh ?_));simp only[Ct,CQ,DV,CP,CY];have b:(AY.mk [[AG k,SS e,AG i,a],Z4] []).bs[0]?=Y [AG k,SS e,AG i,a]:=rfl;have p:(AY.mk [[AG k,SS e,AG i,a],Z4] []).bs[1]?=Y Z4:=rfl;refine AR (Ab b) (Ad (off:=0) b rfl (BE ?_));cases l:(k==5) with
  | true=>
   have:k=5:=AB;subst this;obtain⟨rfl,rfl,L,M⟩:=TJ o;rw[HE,Bq] at d;have I:(∀r,BD (var i) r->f r)->vH R 0 0 0 (.ptr 0 0) (.ptr 1 0) ⟨[[AG 5,SS [],AG i,a],Z4],[]⟩ (QP f):=λd=>vI (Ag b rfl (Eh p rfl (t:=var i) ⟨a,rfl,.inl j⟩ d))
   refine BH (AR (Ab b) (Ad (off:=2) b rfl (Fq ?_)))
   by_cases s:0<=i
   .have E:i>=0:=s
    rw[Ax E];rw[Ax s] at d;refine Aw (AR (Ab b) (Aw (Ad (off:=2) b rfl (Aw (Ef (pk ?_))))));cases m:(i==AW) with
    | true=>
     have:(i != 1073741824)=false:=by
      have:(i==1073741824)=true:=m
      grind
     simp_all
    | false=>
     have:(i != 1073741824)=true:=by
      have:(i==1073741824)=false:=m
      grind
     simp only[this,AQ];rw[m] at d;refine BH (AR (Ab b) (Ad (off:=2) b rfl (Bb AA AA (AR (Ab b) (C1 (off:=2) b AD rfl (AO _) rfl (.inl (AO _)) ?_)))));have A:(AY.mk ([[AG 5,SS [],AG i,a],Z4].set 0 ([AG 5,SS [],AG i,a].set 2 (AG (i+n)))) []).bs[0]?=Y [AG 5,SS [],AG (i+n),a]:=rfl;have B:(AY.mk ([[AG 5,SS [],AG i,a],Z4].set 0 ([AG 5,SS [],AG i,a].set 2 (AG (i+n)))) []).bs[1]?=Y Z4:=rfl;exact vI (Ag A rfl (Eh B rfl (t:=var (i+n)) ⟨a,rfl,.inl j⟩ d))
   grind[B7,pk,A4]
  | false=>
   rw[HE,RQ l] at d;refine A4 (AHQ (Ag b rfl (AI (z l) ?_)));intro r u;obtain⟨N,rfl⟩:=u.Du.agg;exact Eh p rfl u.Du d
def SJ {n:Nat} (hn:n<2 ^ 60):∀(l:Ϣ),Ak l<2 ^ 37->RP l=Z->∀t∈l,Ah (env R) 112 [.agg ((Av t).map .pv),AG n] λr=>BD (HE n t) r
 | [],_,_,_,h=>by cases h
 | e::l,h,b,t,hm=>by
  simp only[Ak] at h;simp only[RP,AK] at b;rcases BF.1 hm with h' | h'
  .rw[h']
   exact PC hn e AA b.1 _ (BD.Bo e)
  .exact SJ hn l AA b.2 t h'
end
mutual
def Xy:∀(t:Ty),AP t<2 ^ 37->TI t=Z->∀(x:AV),BD t x->Ah (env R) 97 [x] λr=>BD (o8 t) r
 | .mk k b i ts,h,l,x,hx=>by
  have s:=hx;obtain⟨a,rfl,m⟩:=hx;simp only[AP] at h;have A:=Bl ts;have u:=λe:(k==5)=ϴ=>Zs (R:=R) (op:=1) (n:=0) (g:=o8) AA (λy t z=>.inr (.inl ⟨rfl,VA ts AA (U9 e l y) t z⟩)) s
  suffices H:∀j:AV->Prop,(∀r,BD (o8 (.mk k b i ts)) r->j r)->ACh R 0 0 0 (.agg [AG k,SS b,AG i,a]) ⟨[],[]⟩ (QP j) from
   e97 (u0:=.agg [AG k,SS b,AG i,a]) (by simp[m.close]) (H _ λr h=>h)
  intro j f;refine ANx (Bs (cs:=[AG k,SS b,AG i,a]) rfl (by simp[m.ok]) (Bh ?_));simp only[Ct,CQ,DV,CP,CY];have d:(AY.mk [[AG k,SS b,AG i,a],Z4] []).bs[0]?=Y [AG k,SS b,AG i,a]:=rfl;have o:(AY.mk [[AG k,SS b,AG i,a],Z4] []).bs[1]?=Y Z4:=rfl;refine AR (Ab d) (Ad (off:=0) d rfl (BE ?_));cases e:(k==5) with
  | true=>
   have:k=5:=AB;subst this;obtain⟨rfl,rfl,B,C⟩:=TJ l;rw[o8,Bq] at f;refine BH (AR (Ab d) (Ad (off:=2) d rfl (FL AA AA (AI (KI (-1-i)) ?_))));rintro _ rfl;exact Eh o rfl (t:=var (-1-i)) (TK _).Du f
  | false=>
   rw[o8,RQ e] at f;refine A4 (ANy (Ag d rfl (AI (u e) ?_)));intro r p;obtain⟨D,rfl⟩:=p.Du.agg;exact Eh o rfl p.Du f
def VA:∀(l:Ϣ),Ak l<2 ^ 37->RP l=Z->∀t∈l,Ah (env R) 97 [.agg ((Av t).map .pv)] λr=>BD (o8 t) r
 | [],_,_,_,h=>by cases h
 | e::l,h,b,t,hm=>by
  simp only[Ak] at h;simp only[RP,AK] at b;rcases BF.1 hm with h' | h'
  .rw[h']
   exact Xy e AA b.1 _ (BD.Bo e)
  .exact VA l AA b.2 t h'
end
mutual
def Xz (n:Nat):∀(t:Ty),AP t<2 ^ 37->TI t=Z->∀(x:AV),BD t x->Ah (env R) 128 [x,AG n] λr=>BD (Gm n t) r
 | .mk k e i ts,h,p,x,hx=>by
  have y:=hx;obtain⟨a,rfl,m⟩:=hx;simp only[AP] at h;have C:=Bl ts;have z:=λf:(k==5)=ϴ=>Zs (R:=R) (op:=2) (n:=n) (g:=Gm n) AA (λA t B=>.inr (.inr ⟨rfl,VC n ts AA (U9 f p A) t B⟩)) y
  suffices H:∀l:AV->Prop,(∀r,BD (Gm n (.mk k e i ts)) r->l r)->vJ R 0 0 0 (.agg [AG k,SS e,AG i,a]) (AG n) ⟨[],[]⟩ (QP l) from
   AW6 (u0:=.agg [AG k,SS e,AG i,a]) (u1:=AG n) (by simp[m.close]) (H _ λr h=>h)
  intro l b;refine AHR (Bs (cs:=[AG k,SS e,AG i,a]) rfl (by simp[m.ok]) (Bh ?_));simp only[Ct,CQ,DV,CP,CY];have d:(AY.mk [[AG k,SS e,AG i,a],Z4] []).bs[0]?=Y [AG k,SS e,AG i,a]:=rfl;have j:(AY.mk [[AG k,SS e,AG i,a],Z4] []).bs[1]?=Y Z4:=rfl;refine AR (Ab d) (Ad (off:=0) d rfl (BE ?_));cases f:(k==5) with
  | true=>
   have:k=5:=AB;subst this;obtain⟨rfl,rfl,D,E⟩:=TJ p;rw[Gm,Bq] at b;refine BH (AR (Ab d) (Ad (off:=2) d rfl (BE ?_)));cases o:(i==-1) with
   | true=>
    rw[o] at b;refine BH (AI (KI n) ?_);rintro _ rfl;exact Eh j rfl (t:=var n) (TK _).Du b
   | false=>
    rw[o] at b;refine A4 (AR (Ab d) (Ad (off:=2) d rfl (Ao ?_)))
    by_cases s:i<0
    .rw[Ax s] at b ⊢
     refine BH (AR (Ab d) (Ad (off:=2) d rfl (Bb AA AA (AI (KI (i+1)) ?_))));rintro _ rfl;exact Eh j rfl (t:=var (i+1)) (TK _).Du b
    .rw[A5 s] at b ⊢
     exact A4 (AHS (Ag d rfl (Eh j rfl (t:=var i) ⟨a,rfl,.inl m⟩ b)))
  | false=>
   rw[Gm,RQ f] at b;refine A4 (AHT (Ag d rfl (AI (z f) ?_)));intro r u;obtain⟨I,rfl⟩:=u.Du.agg;exact Eh j rfl u.Du b
def VC (n:Nat):∀(l:Ϣ),Ak l<2 ^ 37->RP l=Z->∀t∈l,Ah (env R) 128 [.agg ((Av t).map .pv),AG n] λr=>BD (Gm n t) r
 | [],_,_,_,h=>by cases h
 | e::l,h,b,t,hm=>by
  simp only[Ak] at h;simp only[RP,AK] at b;rcases BF.1 hm with h' | h'
  .rw[h']
   exact Xz n e AA b.1 _ (BD.Bo e)
  .exact VC n l AA b.2 t h'
end
end
section
variable {R:RT}
def AAR {ts:Ϣ} {a:AV} (e:A3 a (Aj ts)) (u:F ts<2 ^ 37) {n i:Int} {nm:Ϝ} {p:Int->Bool} (m:∀t∈ts,Ah (env R) 105 [.agg ((Av t).map .pv),AG n] λr=>r=BB (oA p t)) {s:AY} (g0:s.bs[0]?=Y [AG 2,SS nm,AG i,a]) {Post:AV->Prop} (d:Post (BB (UB p ts))) :
  ∀(j q:Nat),q+j=F ts->UB p (ts.drop q)=UB p ts->vK R 0 0 0 (AG n) (.ptr 0 0) (AG q) s (QP Post):=by
 intro j
 induction j with
 | zero=>
  intro q o b;refine jf (AR (Ab g0) (Ad (off:=0) g0 rfl (BE (Aw (Aw (AR (Ab g0) (Aw (Ad (off:=3) g0 rfl (Aw (Au (n:=F ts) (by rw[e.BG,Ae]) (Aw (Ao (pk ?_)))))))))))));rw[A5 AA];rw[CR AA,UB] at b;rw[<-b] at d;exact A4 (vL ⟨_,GG,d⟩)
 | succ j l=>
  intro q o b;refine jf (AR (Ab g0) (Ad (off:=0) g0 rfl (BE (Aw (Aw (AR (Ab g0) (Aw (Ad (off:=3) g0 rfl (Aw (Au (n:=F ts) (by rw[e.BG,Ae]) (Aw (Ao (pk ?_)))))))))))));rw[Ax AA];have⟨t,k⟩:∃t,ts[q]?=Y t:=⟨_,Az AA⟩;rw[drop_cons k,UB] at b;refine BH (AHU (AR (Ab g0) (Ad (off:=3) g0 rfl (BL e (row:=Av t) AA (by simp[*,BK]) (Aq t) AA (Cd (AI (m t (A8 k)) ?_))))));rintro _ rfl;cases f:oA p t with
  | true=>
   rw[f] at b;rw[<-b] at d;exact BH ⟨_,GG,d⟩
  | false=>
   rw[f] at b;refine A4 (AHV (Bb AA AA ?_));have:=l (q+1) AA (by simpa using b);simpa using this
mutual
def mU (n:Int):∀(t:Ty),AP t<2 ^ 37->∀(x:AV),BD t x->Ah (env R) 105 [x,AG n] λr=>r=BB (oA (·==n) t)
 | .mk k e i ts,h,x,hx=>by
  obtain⟨a,rfl,j⟩:=hx;simp only[AP] at h;have o:=Bl ts
  suffices H:∀f:AV->Prop,f (BB (oA (·==n) (.mk k e i ts)))->vM R 0 0 0 (.agg [AG k,SS e,AG i,a]) (AG n) ⟨[],[]⟩ (QP f) from
   AW7 (u0:=.agg [AG k,SS e,AG i,a]) (u1:=AG n) (by simp[j.close]) (H _ rfl)
  intro f b;refine AHW (Bs (cs:=[AG k,SS e,AG i,a]) rfl (by simp[j.ok]) ?_);simp only[Ct,CQ];have d:(AY.mk [[AG k,SS e,AG i,a]] []).bs[0]?=Y [AG k,SS e,AG i,a]:=rfl;refine AR (Ab d) (Ad (off:=0) d rfl (BE ?_));rw[oA] at b;cases l:(k==5) with
  | true=>
   rw[l] at b;exact BH (AR (Ab d) (Ad (off:=2) d rfl (BE ⟨_,GG,b⟩)))
  | false=>
   rw[l] at b;refine A4 (AHX ?_);cases m:(k==2) with
   | true=>
    have:k=2:=AB;subst this;exact AAR (p:=(·==n)) j AA (dr n ts AA) d b (F ts) 0 AA rfl
   | false=>
    rw[m] at b;refine jf (AR (Ab d) (Ad (off:=0) d rfl (BE ?_)));rw[m];exact B7 (B7 (B7 (B7 (B7 (pk (A4 (vL ⟨_,GG,b⟩)))))))
def dr (n:Int):∀(l:Ϣ),Ak l<2 ^ 37->∀t∈l,Ah (env R) 105 [.agg ((Av t).map .pv),AG n] λr=>r=BB (oA (·==n) t)
 | [],_,_,h=>by cases h
 | e::l,h,t,hm=>by
  simp only[Ak] at h;rcases BF.1 hm with h' | h'
  .rw[h']
   exact mU n e AA _ (BD.Bo e)
  .exact dr n l AA t h'
end
def AAS {ts:Ϣ} {a:AV} (e:A3 a (Aj ts)) (u:F ts<2 ^ 37) {n i:Int} {nm:Ϝ} {p:Int->Bool} (m:∀t∈ts,Ah (env R) 66 [.agg ((Av t).map .pv),AG n] λr=>r=BB (oI p t)) {s:AY} (g0:s.bs[0]?=Y [AG 3,SS nm,AG i,a]) {Post:AV->Prop} (d:Post (BB (KV p ts))) :
  ∀(j q:Nat),q+j=F ts->KV p (ts.drop q)=KV p ts->ACi R 0 0 0 (AG n) (.ptr 0 0) (AG q) s (QP Post):=by
 intro j
 induction j with
 | zero=>
  intro q o b;refine vN (AR (Ab g0) (Ad (off:=0) g0 rfl (BE (Aw (Aw (AR (Ab g0) (Aw (Ad (off:=3) g0 rfl (Aw (Au (n:=F ts) (by rw[e.BG,Ae]) (Aw (Ao (pk ?_)))))))))))));rw[A5 AA];rw[CR AA,KV] at b;rw[<-b] at d;exact A4 (ACj ⟨_,GG,d⟩)
 | succ j l=>
  intro q o b;refine vN (AR (Ab g0) (Ad (off:=0) g0 rfl (BE (Aw (Aw (AR (Ab g0) (Aw (Ad (off:=3) g0 rfl (Aw (Au (n:=F ts) (by rw[e.BG,Ae]) (Aw (Ao (pk ?_)))))))))))));rw[Ax AA];have⟨t,k⟩:∃t,ts[q]?=Y t:=⟨_,Az AA⟩;rw[drop_cons k,KV] at b;refine BH (ANz (AR (Ab g0) (Ad (off:=3) g0 rfl (BL e (row:=Av t) AA (by simp[*,BK]) (Aq t) AA (Cd (AI (m t (A8 k)) ?_))))));rintro _ rfl;cases f:oI p t with
  | true=>
   rw[f] at b;rw[<-b] at d;exact BH ⟨_,GG,d⟩
  | false=>
   rw[f] at b;refine A4 (AN0 (Bb AA AA ?_));have:=l (q+1) AA (by simpa using b);simpa using this
mutual
def mV (n:Int):∀(t:Ty),AP t<2 ^ 37->∀(x:AV),BD t x->Ah (env R) 66 [x,AG n] λr=>r=BB (oI (·==n) t)
 | .mk k b i ts,h,x,hx=>by
  have o:=mU (R:=R) n (.mk k b i ts) h x hx;obtain⟨a,rfl,j⟩:=hx;simp only[AP] at h;have s:=Bl ts
  suffices H:∀f:AV->Prop,f (BB (oI (·==n) (.mk k b i ts)))->ACk R 0 0 0 (.agg [AG k,SS b,AG i,a]) (AG n) ⟨[],[]⟩ (QP f) from
   e66 (u0:=.agg [AG k,SS b,AG i,a]) (u1:=AG n) (by simp[j.close]) (H _ rfl)
  intro f d;refine AN1 (Bs (cs:=[AG k,SS b,AG i,a]) rfl (by simp[j.ok]) ?_);simp only[Ct,CQ];have e:(AY.mk [[AG k,SS b,AG i,a]] []).bs[0]?=Y [AG k,SS b,AG i,a]:=rfl;refine AR (Ab e) (Ad (off:=0) e rfl (BE ?_));rw[oI] at d;cases l:(k==2) with
  | true=>
   rw[l] at d;refine BH (Ag e rfl (AI o ?_));rintro _ rfl;exact⟨_,GG,d⟩
  | false=>
   rw[l] at d;refine A4 (AN2 ?_);cases m:(k==3) with
   | true=>
    have:k=3:=AB;subst this;exact AAS (p:=(·==n)) j AA (dw n ts AA) e d (F ts) 0 AA rfl
   | false=>
    rw[m] at d;refine vN (AR (Ab e) (Ad (off:=0) e rfl (BE ?_)));rw[m];exact B7 (B7 (B7 (B7 (B7 (pk (A4 (ACj ⟨_,GG,d⟩)))))))
def dw (n:Int):∀(l:Ϣ),Ak l<2 ^ 37->∀t∈l,Ah (env R) 66 [.agg ((Av t).map .pv),AG n] λr=>r=BB (oI (·==n) t)
 | [],_,_,h=>by cases h
 | e::l,h,t,hm=>by
  simp only[Ak] at h;rcases BF.1 hm with h' | h'
  .rw[h']
   exact mV n e AA _ (BD.Bo e)
  .exact dw n l AA t h'
end
def pT {L:Ba} {s:AY} {a y:AV} {l m:Ϛ} {K:Ϡ} (i:D1 0 s.ts 3 a (Ai l)) (f:L.rt=0) (x:F l+F m<2 ^ 40) (j:BN y (Ai m)) (h:∀d b,D1 0 b 3 d (Ai (l++m))->Cx a d s.ts b->K d ⟨s.bs,b⟩) :
  I6 ϴ L s 3 1 8 a y K:=by
 have z:=BP l;have A:=BP m;refine RH (m:=Ai m) i f Dw Dw AA (D7 j Dw) ?_ AA AA λd b B k=>h d b (by grind[Ai]) k
 rw[Cl];intro c o;obtain⟨p,t,rfl⟩:=Cw.1 o;have⟨r,e,u⟩:=Sx.1 t;simp only[Ai,Cw] at e;obtain⟨n,_,rfl⟩:=e
 simp_all
def AAT {ts:Ϣ} {a:AV} (e:A3 a (Aj ts)) (D:Ak ts<2 ^ 37) {i:Int} {nm:Ϝ} (m:∀t∈ts,Ah (env R) 76 [.agg ((Av t).map .pv)] λr=>A3 r (Ai (Af t))) {bs:Ϩ} (g0:bs[0]?=Y [AG 3,SS nm,AG i,a]) {Post:AV->Prop} (o:∀r,A3 r (Ai (B5 ts))->Post r) :
  ∀(j q:Nat) (tk:Ϫ) (b:AV) (l:Ϛ),q+j=F ts->l++B5 (ts.drop q)=B5 ts->D1 0 tk 3 b (Ai l)->ACl R 0 0 0 (.ptr 0 0) b (AG q) ⟨bs,tk⟩ (QP Post):=by
 have y:=Bl ts;have z:=O7 ts;intro j
 induction j with
 | zero=>
  intro q tk b l p d hb;refine vO (AR (Ab g0) (Ad (off:=0) g0 rfl (BE (Aw (Aw (AR (Ab g0) (Aw (Ad (off:=3) g0 rfl (Aw (Au (n:=F ts) (by rw[e.BG,Ae]) (Aw (Ao (pk ?_)))))))))))));rw[A5 AA];rw[CR AA,B5,G9] at d;subst d;have⟨r,s,u⟩:=MP hb bs 0;exact A4 (ACm ⟨r,s,o r u⟩)
 | succ j A=>
  intro q tk b l p d hb;refine vO (AR (Ab g0) (Ad (off:=0) g0 rfl (BE (Aw (Aw (AR (Ab g0) (Aw (Ad (off:=3) g0 rfl (Aw (Au (n:=F ts) (by rw[e.BG,Ae]) (Aw (Ao (pk ?_)))))))))))));rw[Ax AA];have⟨t,f⟩:∃t,ts[q]?=Y t:=⟨_,Az AA⟩;rw[drop_cons f,B5,<-EG] at d;have k:F (l++Af t)<=F (B5 ts):=AB;rw[B6] at k;refine BH (AN3 (AR (Ab g0) (Ad (off:=3) g0 rfl (BL e (row:=Av t) AA (by grind[BK]) (Aq t) AA (Cd (AI (m t (A8 f)) ?_))))));intro v x;refine⟨AH,pT hb rfl AA (.inl x) λE B C _=>AN4 (Bb AA AA ?_)⟩
  grind
mutual
def Jt:∀(t:Ty),AP t<2 ^ 37->∀(x:AV),BD t x->Ah (env R) 76 [x] λr=>A3 r (Ai (Af t))
 | .mk k e i ts,h,x,hx=>by
  obtain⟨a,rfl,j⟩:=hx;simp only[AP] at h;have n:=Bl ts
  suffices H:∀f:AV->Prop,(∀r,A3 r (Ai (Af (.mk k e i ts)))->f r)->ACn R 0 0 0 (.agg [AG k,SS e,AG i,a]) ⟨[],[]⟩ (QP f) from
   e76 (u0:=.agg [AG k,SS e,AG i,a]) (by simp[j.close]) (H _ λr h=>h)
  intro f b;refine AN5 (Bs (cs:=[AG k,SS e,AG i,a]) rfl (by simp[j.ok]) ?_);simp only[Ct,CQ];have d:(AY.mk [[AG k,SS e,AG i,a]] []).bs[0]?=Y [AG k,SS e,AG i,a]:=rfl;refine AR (Ab d) (Ad (off:=0) d rfl (BE ?_));rw[Af] at b;cases l:(k==5) with
  | true=>
   rw[l] at b;refine BH (AR (Ab d) (Ad (off:=2) d rfl (QE ?_)));exact⟨_,(A3.AE _).close _ _ _,b _ (by grind[Ai,A3.AE])⟩
  | false=>
   rw[l] at b;refine A4 (AN6 ?_);cases m:(k==3) with
   | true=>
    have:k=3:=AB;subst this;exact AAT j AA (VD ts AA) d b (F ts) 0 [] (.AE []) [] AA rfl (.inl rfl)
   | false=>
    rw[m] at b;refine vO (AR (Ab d) (Ad (off:=0) d rfl (BE ?_)));rw[m];exact B7 (B7 (B7 (B7 (B7 (pk (A4 (ACm ⟨_,(A3.AE _).close _ _ _,b _ (.AE _)⟩)))))))
def VD:∀(l:Ϣ),Ak l<2 ^ 37->∀t∈l,Ah (env R) 76 [.agg ((Av t).map .pv)] λr=>A3 r (Ai (Af t))
 | [],_,_,h=>by cases h
 | e::l,h,t,hm=>by
  simp only[Ak] at h;rcases BF.1 hm with h' | h'
  .rw[h']
   exact Jt e AA _ (BD.Bo e)
  .exact VD l AA t h'
end
def X1 (b:Ty):Int:=match El b with
 | some k=>k
 | none=>-1
def AAU {l:Ϛ} {y:AV} (d:A3 y (Ai l)) (z:F l<2 ^ 40) {s:AY} {Post:AV->Prop} (b:Post (AG (match l.findIdx? (·==AW) with
   | some k=>k
   | none=>-1))):∀(j q:Nat),q+j=F l->(∀x∈l.take q,(x==AW)=ϴ)->vQ R 0 0 0 y (AG q) s (QP Post):=by
 intro j
 induction j with
 | zero=>
  intro q p e;refine vR (Au (n:=F l) (by rw[d.BG,BP]) (Ao ?_));rw[A5 AA];rw[CC AA] at e;have:l.findIdx? (·==AW)=none:=AB;rw[this] at b;exact A4 (AHY ⟨_,GG,b⟩)
 | succ j m=>
  intro q p e;refine vR (Au (n:=F l) (by rw[d.BG,BP]) (Ao ?_));rw[Ax AA];have⟨c,r⟩:∃t,l[q]?=Y t:=⟨_,Az AA⟩;refine BH (AHZ (BL d (row:=[.sc (.int .i64 c)]) AA (by simp[*,Ai]) rfl AA (Ds (BE ?_))));cases i:(c==AW) with
  | true=>
   have f:(c==1073741824)=true:=i;rw[f]
   have:l.findIdx? (·==AW)=Y q:=by
    have⟨o,u⟩:=BJ.1 r;rw[kY];refine⟨o,AB,λj A=>?_⟩;have:=e l[j] (Nf.2 ⟨j,AB,by rw[List.getElem_take]⟩)
    grind
   rw[this] at b;exact BH ⟨_,GG,b⟩
  | false=>
   have f:(c==1073741824)=false:=i;rw[f];refine A4 (AHa (Bb AA AA ?_));have:=m (q+1) AA (λx hx=>by grind[List.take_add_one])
   grind
def KJ {b:Br} (h:AP b.AM<2 ^ 37) {x:AV} (hx:CL b x):Ah (env R) 129 [x] λr=>r=AG (X1 b.AM):=by
 have⟨e,f,i,j⟩:=hx.closed;refine Ah.open (args':=[e]) AX AX rfl f i ?_;obtain⟨a,y,rfl,k,d⟩:=j;have⟨l,n,hid,o⟩:=d.cells;refine AW8 (u0:=.agg (a::y)) AA (AHb ?_);refine Bs (cs:=a::y) rfl (by simp[k.ok]; grind) (AR (Ab (c:=a) (cs:=y) rfl) ?_)
 show EX _ _ _ (.ptr 0 1) _
 refine TD rfl l (AI (Jt b.AM h _ d) ?_);intro v m;have:=Eb b.AM;exact AAU (Post:=λr=>r=AG (X1 b.AM)) m AA (by rw[X1,El]) (F (Af b.AM)) 0 AA (λx hx=>by grind)
end
mutual
def pU (b:Ty):Ty->Int->Ty
 | .mk c n i ts,k=>bif c==5 then(bif k==0 then b else .mk c n i ts) else bif c==3 then .mk c n i (RR b ts k) else .mk c n i ts
def RR (b:Ty):Ϣ->Int->Ϣ
 | [],_=>[]
 | t::l,k=>pU b t k::RR b l (k-F (Af t))
end
mutual
def mW (b:Ty):∀(t:Ty) (k:Int),k<0\/(F (Af t):Int)<=k->pU b t k=t
 | .mk c n i ts,k,h=>by
  rw[Af] at h;rw[pU];cases d:c==5 with
  | true=>
   grind
  | false=>
   cases e:c==3 with
   | true=>
    rw[d,e] at h;simp only[AQ,AL] at h ⊢;rw[VE b ts k h]
   | false=>rfl
def VE (b:Ty):∀(l:Ϣ) (k:Int),k<0\/(F (B5 l):Int)<=k->RR b l k=l
 | [],_,_=>rfl
 | t::l,k,h=>by
  rw[B5,B6] at h;rw[RR,mW b t k AA,VE b l (k-F (Af t)) AA]
end
mutual
def vS (b:Ty):∀(t:Ty) (k:Nat),k<F (Af t)->pU b t k=Mn b t k
 | .mk c n i ts,k,h=>by
  rw[Af] at h;rw[pU,Mn];cases d:c==5 with
  | true=>
   grind
  | false=>
   cases e:c==3 with
   | true=>
    rw[d,e] at h;simp only[AQ,AL] at h ⊢;rw[mX b ts k h]
   | false=>rfl
def mX (b:Ty):∀(l:Ϣ) (k:Nat),k<F (B5 l)->RR b l k=He b l k
 | [],_,h=>by rfl
 | t::l,k,h=>by
  rw[B5,B6] at h;rw[RR,He]
  by_cases d:k<F (Af t)
  .rw[Ax d,AQ,vS b t k d,VE b l _ AA]
  .have:(k:Int)-(F (Af t):Nat)=((k-F (Af t):Nat):Int):=by omega
   rw[A5 d,AL,mW b t k AA,this,mX b l (k-F (Af t)) AA]
end
section
variable {R:RT}
def vT (R:RT) (C:Nat) (b:Ty) (y:AV) (x:AV) (t:Ty) (k:Int) (s:AY):Prop:=∀(L:Ba),L.ro=0->L.rt=0->s.bs[C]?=Y [AG k] ->
 ∃w e,(∃d f,w=.agg f/\BX (pU b t k) (.agg f)/\Cx (.AE []) (.AE []) s.ts d/\e=⟨s.bs.set C [AG (k-F (Af t))],d⟩)/\Bk (env R) L 111 [x,.ptr C 0,y] s w e
def AAV {C:Nat} {b:Ty} {yc:Ϭ} {ts:Ϣ} {a:AV} (A:BN a (Aj ts)) (φ:Ak ts<2 ^ 38) {k i k0:Int} {n:Ϝ} (ρ:-(2 ^ 40)-2 ^ 38<=k0-Ak ts) (ς:k0<2 ^ 40) {s0:AY} (O:BM s0) (η:C<F s0.bs) (Q:F yc=4)
  (θ:∀t∈ts,∀(k:Int) (s:AY),BM s->-(2 ^ 40)-2 ^ 38<=k-AP t->k<2 ^ 40->vT R C b (.agg yc) (.agg ((Av t).map .pv)) t k s)
  {rr:Bool} {Post:Ϡ}
  (ι:∀l ds,Cx (.AE []) (.AE []) s0.ts l->BX (.mk k n i (RR b ts k0)) (.agg ds)->Post (.agg ds) ⟨s0.bs.set C [AG (k0-F (B5 ts))],l⟩) :
  ∀(j q:Nat) (d:Int) (done:Ϣ) (bs:Ϩ) (tk:Ϫ) (acc:AV),q+j=F ts->done++RR b (ts.drop q) d=RR b ts k0->F done=q->d-F (B5 (ts.drop q))=k0-F (B5 ts)->k0-Ak ts<=d-Ak (ts.drop q)->d<2 ^ 40 ->
   BM ⟨bs,tk⟩->bs.take (F s0.bs)=s0.bs.set C [AG d]->bs[F s0.bs]?=Y [AG k,SS n,AG i,a]->bs[F s0.bs+1]?=Y yc->bs[F s0.bs+2]?=Y Z4->bs[F s0.bs+3]?=Y [AG k,SS n,AG i,acc] ->
   D1 0 tk 25 acc (Aj done)->Cx (.AE []) (.AE []) s0.ts tk->Dt acc s0.ts ->
   jg R 0 0 0 (.ptr C 0) (.ptr (F s0.bs) 0) (.ptr (F s0.bs+1) 0) (.ptr (F s0.bs+2) 0) (.ptr (F s0.bs+3) 0) (AG q) ⟨bs,tk⟩ (QM rr (F s0.bs) Post):=by
 have σ:=Bl ts;intro j
 induction j with
 | zero=>
  intro q d done bs tk acc κ r S B I K D u e E x f hb o y;refine vU (AR (Ab e) (Ad (off:=3) e rfl (Au (n:=F ts) (by rw[A.BG,Ae]) (Ao ?_))));rw[A5 AA];rw[CR AA,RR,G9] at r;rw[CR AA,B5] at B;rw[r] at hb;refine A4 (AHc (Ag f rfl (Bn x rfl rfl AH (AO _) (by simp[hb.BA.ok]) (.inl (AO _)) (Ag (BT x) rfl ?_))));have⟨ds,μ,ν⟩:=BX.Jk (v:=.mk k n i (RR b ts k0)) (cs:=[AG k,SS n,AG i,acc]) ⟨acc,rfl,hb.BA⟩ (bs.set (F s0.bs+2) [AG k,SS n,AG i,acc]) (F s0.bs) (F tk);have T:d=k0-F (B5 ts):=AB;rw[T] at u;exact cz O ((Cf AA).trans u) rfl μ (ι tk ds o ν)
 | succ j U=>
  intro q d done bs tk acc κ r S B I K D u e E x f hb o y;refine vU (AR (Ab e) (Ad (off:=3) e rfl (Au (n:=F ts) (by rw[A.BG,Ae]) (Ao ?_))));rw[Ax AA];have⟨t,M⟩:∃t,ts[q]?=Y t:=⟨_,Az AA⟩;have W:=A8 M;have X:=θ t W;have z:ts.drop q=t::ts.drop (q+1):=drop_cons M;rw[z,RR] at r;rw[z,B5,B6] at B;rw[z,Ak] at I;have τ:=Eb t;have χ:=(BJ.1 f).1;have ξ:(s0.bs.set C [AG d])[C]?=Y [AG d]:=by rw[Cv η]
  refine BH (AHd (AR (Ab f) (Ad (off:=3) f rfl (AR (Ab e) (Ad (off:=3) e rfl (Bc A (row:=Av t) AA (by grind[BK]) (Aq _) AA (Cd (Ag E Q ?_))))))));obtain⟨w,ψ,⟨l,ds,rfl,ο,H,rfl⟩,π⟩:=X d ⟨bs,tk⟩ D AA K (Co (env R) 111 0 0 0) rfl rfl (CN u ξ);have α:(bs.set C [AG (d-F (Af t))])[F s0.bs]?=Y [AG k,SS n,AG i,a]:=BR e AA;have β:(bs.set C [AG (d-F (Af t))])[F s0.bs+1]?=Y yc:=BR E AA;have γ:(bs.set C [AG (d-F (Af t))])[F s0.bs+2]?=Y Z4:=BR x AA;have m:(bs.set C [AG (d-F (Af t))])[F s0.bs+3]?=Y [AG k,SS n,AG i,acc]:=BR f AA;refine⟨_,_,π,Eg ο ⟨AH,Jj (H.keep hb (λ_ h=>by cases h)) rfl AA ?_⟩⟩;intro N δ p L;refine AR (Ab m) (C1 m AD p.BA.cells (AO _) p.BA.ok (.inl (AO _)) ?_);refine⟨AR (Ab m) (D8 _ _),Ad (off:=3) m rfl (Fm hb),AHe (Bb AA AA ?_)⟩;have ε:((bs.set C [AG (d-F (Af t))]).set (F s0.bs+3) [AG k,SS n,AG i,N]).take (F s0.bs)=s0.bs.set C [AG (d-F (Af t))]:=by simp[*,Cf,Ep]
  have ζ:BM ⟨bs.set C [AG (d-F (Af t))],l⟩:=BM.set (s:=⟨bs,tk⟩) D rfl _
  have υ:=U (q+1) (d-F (Af t)) (done++[pU b t d]) _ δ N AA (by simp[*]) AB AA AA AA
   (BM.set (s:=⟨bs.set C [AG (d-F (Af t))],l⟩) ζ (by simp[Ap,A6,p.BA.A6]) _) ε (BR α AA) (BR β AA) (BR γ AA) (BT m)
   p ((o.trans H).side L y) (y.QG L (BC o.1 H.1))
  grind
mutual
def mY {C:Nat} {b:Ty} {y:AV} (ζ:BD b y):∀(t:Ty),AP t<2 ^ 38->∀(x:AV),BX t x->∀(k:Int) (s:AY),BM s->-(2 ^ 40)-2 ^ 38<=k-AP t->k<2 ^ 40->vT R C b y x t k s
 | .mk k n i ts,h,x,hx,e,s,u,ι,X,L,κ,μ,π=>by
  have ρ:=(BJ.1 π).1;have φ:=Bl ts;simp only[AP] at h ι;obtain⟨m,rfl⟩:=ζ.Du.agg;have N:=ζ;have⟨H,α,ν,_⟩:=N.cells;have χ:=hx;obtain⟨a,rfl,z⟩:=hx;refine AW9 (by simp[Da,F9]) ?_;rw[κ,μ];have υ:s.bs.set C [AG e]=s.bs:=by grind[List.set_getElem_self]
  refine AHf (Bs (cs:=[AG k,SS n,AG i,a]) rfl (by simp[z.ok]) (Bs (cs:=m) rfl α (Bh ?_)));simp only[EG,DV,Ct,B6,CP,CQ,CY,Nat.reduceAdd];have l:(s.bs++[[AG k,SS n,AG i,a],m,Z4])[F s.bs]?=Y [AG k,SS n,AG i,a]:=E5 (j:=0) rfl rfl;have Q:(s.bs++[[AG k,SS n,AG i,a],m,Z4])[F s.bs+1]?=Y m:=E5 rfl rfl;have p:(s.bs++[[AG k,SS n,AG i,a],m,Z4])[F s.bs+2]?=Y Z4:=E5 rfl rfl;have A:(s.bs++[[AG k,SS n,AG i,a],m,Z4]).take (F s.bs)=s.bs.set C [AG e]:=AB
  have β:BM ⟨s.bs++[[AG k,SS n,AG i,a],m,Z4],s.ts⟩:=by
   intro d I;simp only[CU,BF,ER,ES] at I
   show Ap (F (s.bs++_)) d=Z
   rcases I with I|rfl|rfl|rfl
   .exact BV AD d (u d I)
   .simp[Ap,A6,z.A6]
   .exact BV (AO _) _ ν
   rfl
  have η:F (s.bs++[[AG k,SS n,AG i,a],m,Z4])=F s.bs+3:=AD;generalize s.bs++[[AG k,SS n,AG i,a],m,Z4]=f at l Q p A β η;have K:f[C]?=Y [AG e]:=CN A AB
  have U:∀(kd:Int) (f:Ϩ) (M:Ϡ),f.take (F s.bs)=s.bs.set C [AG kd]->f[F s.bs]?=Y [AG k,SS n,AG i,a]->f[F s.bs+2]?=Y Z4 ->
    (∀o,BX (.mk k n i ts) (.agg o)->M (.agg o) ⟨s.bs.set C [AG kd],s.ts⟩)->EX (env R) ⟨f,s.ts⟩ (Y 4) (.ptr (F s.bs) 0) λξ=>Hw (Co (env R) 111 0 0 0) ⟨f,s.ts⟩ 4 (.ptr (F s.bs+2) 0) ξ λW=>EX (env R) W (Y 4) (.ptr (F s.bs+2) 0) λr=>QM (L.rr 111) (F s.bs) M r W:=by
   intro kd f M A l p ς;refine Ag l rfl (Bn p rfl rfl AH (AO _) (by simp[z.ok]) (.inl (AO _)) (Ag (BT p) rfl ?_));exact Up u ((Cf AA).trans A) rfl (t:=.mk k n i ts) ⟨a,rfl,z⟩ ς
  refine AR (Ab l) (Ad (off:=0) l rfl (BE ?_));cases ω:k==5 with
  | true=>
   have B:pU b (.mk k n i ts) e=bif e==0 then b else .mk k n i ts:=by grind[pU]
   have D:F (Af (.mk k n i ts))=1:=by grind[Af]
   rw[B,D];refine BH (DK (Ab K) (Ad (off:=0) K rfl (FL AA AA (DK (Ab K) (C1 K AD rfl (AO _) rfl (.inl (AO _)) ?_)))));have γ:(f.set C [AG (e-1)])[C]?=Y [AG (e-1)]:=by rw[Cv AA]
   have δ:(f.set C [AG (e-1)]).take (F s.bs)=s.bs.set C [AG (e-1)]:=by simp[*,Ep]
   refine DK (Ab γ) (Ad (off:=0) γ rfl (BE ?_));have σ:(e-1==-1)=(e==0):=AB;rw[σ];cases ψ:e==0 with
   | true=>
    simp only[AQ];refine BH (Ag (BR Q AA) H (Bn (BR p AA) H rfl AH (AO _) α (.inl (AO _)) (Ag (BT (BR p AA)) H ?_)));refine Up u ((Cf AA).trans δ) rfl N.Du λo E=>⟨s.ts,o,rfl,E,Cx.refl _ _,rfl⟩
   | false=>
    simp only[AL];exact A4 (AHg (U (e-1) _ _ δ (BR l AA) (BR p AA) λo E=>⟨s.ts,o,rfl,E,Cx.refl _ _,rfl⟩))
  | false=>
   refine A4 (AHh (AR (Ab l) (Ad (off:=0) l rfl (Ef ?_))));cases Γ:k==3 with
   | false=>
    have O:(k != 3)=true:=AB;rw[O];have B:pU b (.mk k n i ts) e=.mk k n i ts:=by grind[pU]
    have D:F (Af (.mk k n i ts))=0:=by grind[Af]
    rw[B,D];exact BH (U e f _ A l p λo E=>⟨s.ts,o,rfl,E,Cx.refl _ _,AD⟩)
   | true=>
    have O:(k != 3)=false:=AB;rw[O];have B:pU b (.mk k n i ts) e=.mk k n i (RR b ts e):=by grind[pU]
    have D:Af (.mk k n i ts)=B5 ts:=by grind[Af]
    rw[B,D];refine A4 (AHi (Ag l rfl (Bh ?_)));simp only[η];have θ:(f++[Z4])[F s.bs+3]?=Y Z4:=AB;refine Bn θ rfl rfl AH (AO _) (by simp[z.ok]) (.inl (AO _)) ?_;have ε:((f++[Z4]).set (F s.bs+3) [AG k,SS n,AG i,a])[F s.bs+3]?=Y [AG k,SS n,AG i,a]:=BT θ;refine AR (Ab ε) (C1 (off:=3) ε (AU 4) rfl (AO _) rfl (.inl (AO _)) ?_);have τ:((f++[Z4]).set (F s.bs+3) [AG k,SS n,AG i,a]).set (F s.bs+3) ([AG k,SS n,AG i,a].set 3 (.AE []))=f++[[AG k,SS n,AG i,.AE []]]:=AB
    show jg R 0 0 0 _ _ _ _ _ _ ⟨((f++[Z4]).set (F s.bs+3) [AG k,SS n,AG i,a]).set (F s.bs+3) ([AG k,SS n,AG i,a].set 3 (.AE [])),s.ts⟩ _
    rw[τ]
    exact AAV (C:=C) (yc:=m) z AA (k0:=e) AA X u ρ H (λt hm k s u S T=>dx N ts AA t hm k s u S T) (λο o S T=>⟨ο,o,rfl,T,S,rfl⟩) (F ts) 0 e [] _ s.ts (.AE []) AA AD rfl AD AD X
     (BM.app (s:=⟨f,s.ts⟩) β AX) ((DL AA _).trans A) (Am l _) (Am Q _) (Am p _) AB (.inl rfl) (Cx.refl _ _) (Dt.AE _ _)
def dx {C:Nat} {b:Ty} {y:AV} (d:BD b y):∀(ts:Ϣ),Ak ts<2 ^ 38->∀t∈ts,∀(k:Int) (s:AY),BM s->-(2 ^ 40)-2 ^ 38<=k-AP t->k<2 ^ 40->vT R C b y (.agg ((Av t).map .pv)) t k s
 | [],_,_,h=>by cases h
 | u::l,h,t,hm=>by
  simp only[Ak] at h;rcases BF.1 hm with h' | h'
  .rw[h']
   exact mY d u AA _ (BD.Bo _).Du
  .exact dx d l AA t h'
end
end
end Go.Proofs.YtpgfpakdnijngaaGreatDoor
