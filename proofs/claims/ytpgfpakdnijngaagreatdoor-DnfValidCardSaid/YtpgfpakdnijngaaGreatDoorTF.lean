/-
  typeterm.Compare and Equal.
-/
import Derived.Test.YtpgfpakdnijngaaGreatDoorTE
import Derived.Test.YtpgfpakdnijngaaGreatDoorW1
import Derived.Test.YtpgfpakdnijngaaGreatDoorTD
set_option linter.all false
namespace Go.Proofs.YtpgfpakdnijngaaGreatDoor
open Go.Tel
attribute [local simp] IJ Mx Jw Kh Dc Fk Ew wO setCells HM Df DQ CT DY alive DI KQ UI jG Hi JU Gk Ip L2 JV qD mC okB qE qH qI qJ qK iG qL qN qO qP qQ qR qT qU qV qW qX okF qY qZ qa qb qc Q0 qd Q1 Q2 Q3 Q4 qe qf qg qh qi qj qm qo qp qq GX qt mD qu qv qw qx qy rA rC rD rF rH CD
theorem fG:∀l:List UInt8,Op.bytesLess l l=false
 | []=>rfl
 | c::l=>by
  rw[Op.bytesLess,fG l];simp
theorem AJH {a b:List UInt8} {K:AV->Prop} (h:K (BB (Op.bytesLess a b))):KQ .lss (SS a) (SS b) K:=h
theorem AJI {a b:List UInt8} {K:AV->Prop} (h:K (BB (!(Op.bytesLess a b||(a==b))))):KQ .gtr (SS a) (SS b) K:=h
theorem AJJ {a b:List UInt8} {K:AV->Prop} (h:K (BB (!(a==b)))):KQ .neq (SS a) (SS b) K:=h
def nX:List Int->Int
 | []=>0
 | c::l=>bif c==0 then nX l else c
theorem fH:∀l:List Int,nX l=0<->∀c∈l,c=0
 | []=>by simp[nX]
 | c::l=>by
  rw[nX];cases h:c==0 with
  | true=>
   have:c=0:=AB;simp[fH l,this]
  | false=>
   simp_all
section
variable {R:RT}
theorem VY (w:List UInt8):Ae (env R) 153 [SS w] λr=>r=BB false:=
 AaO (u0:=SS w) AD (AJK (AJJ ⟨_,GX,AD⟩))
theorem RU (a b:Int):Ae (env R) 132 [AG a,AG b] λr=>∃c:Int,r=AG c/\(c=0<->a=b):=by
 refine AaP (u0:=AG a) (u1:=AG b) AD (AJL ?_);refine AH (RS a) ?_;rintro v rfl;refine AH (RS b) ?_;rintro v rfl;refine Ar (AJM (Ar (AJN (Ao ?_))))
 by_cases h1:a<b
 .rw[Aq h1]
  exact A1 ⟨_,GX,-1,rfl,AA⟩
 .rw[A2 h1]
  refine Ar (AJO (Fm ?_))
  by_cases h2:a>b
  .rw[Aq h2]
   exact A1 ⟨_,GX,1,rfl,AA⟩
  .rw[A2 h2]
   exact Ar (AJP ⟨_,GX,0,rfl,AA⟩)
theorem sG (a b:List UInt8):Ae (env R) 133 [SS a,SS b] λr=>∃c:Int,r=AG c/\(c=0<->a=b):=by
 refine AaQ (u0:=SS a) (u1:=SS b) AD (AJQ ?_);refine AH (VY a) ?_;rintro v rfl;refine AH (VY b) ?_;rintro v rfl;refine Ar (AJR (Ar (AJS (AJH ?_))));cases h1:Op.bytesLess a b with
 | true=>
  refine A1 ⟨_,GX,-1,rfl,?_⟩
  grind[fG]
 | false=>
  refine Ar (AJT (AJI ?_));rw[h1];cases h2:(a==b) with
  | true=>exact Ar (AJU ⟨_,GX,0,rfl,AB⟩)
  | false=>exact A1 ⟨_,GX,1,rfl,AB⟩
theorem ACQ {l:List Int} {y:AV} (hy:BF y (Ad l)) (hl:l.length<2 ^ 40) {Post:AV->Prop} (hP:Post (AG (nX l))) :
  ∀(j p:Nat) (s:AQ),p+j=l.length->nX (l.drop p)=nX l->yI R 0 0 0 (AG 0) y (AG l.length) (AG p) s (QP Post):=by
 intro j
 induction j with
 | zero=>
  intro p s hi ho;refine yJ (Ao ?_);rw[A2 AA];rw[CA AA,nX] at ho;exact Ar (AJV ⟨_,GX,AB⟩)
 | succ j D9=>
  intro p s hi ho;refine yJ (Ao ?_);rw[Aq AA];obtain⟨c,hc⟩:∃c,l[p]?=some c:=⟨_,Ay AA⟩;rw[drop_cons hc,nX] at ho;refine A1 (AJW (BX hy (row:=[.sc (.int .i64 c)]) AA (by grind[Ad]) rfl AA (Ek (EB ?_))));cases h:c==0 with
  | true=>
   have:(c != 0)=false:=AB;rw[this];rw[h] at ho;refine Ar (AJX (Be AA AA ?_));have:=D9 (p+1) s AA ho
   grind
  | false=>
   have:(c != 0)=true:=AB;rw[this];rw[h] at ho;exact A1 ⟨_,GX,AB⟩
theorem ACR {l:List Int} {y:AV} (hy:A0 y (Ad l)) (hl:l.length<2 ^ 40):Ae (env R) 131 [y] λr=>r=AG (nX l):=by
 refine AaR (u0:=y) (by simp[BK,hy.close]) (AJY (Au (n:=l.length) (by rw[hy.BD,BU]) ?_));exact ACQ (Post:=λr=>r=AG (nX l)) (.inl hy) hl rfl l.length 0 _ AA rfl
theorem AaS {a b c d:Int} {s:AQ} {K:AV->AQ->Prop} (h:K (.AE (Ad [a,b,c,d])) s):GY false s 1 [(AG 0)] 4 [(0,1,AG a),(1,1,AG b),(2,1,AG c),(3,1,AG d)] K:=by
 simp[GY,Fx,CJ];exact h
theorem sH {k i k' i':Int} {n n':List UInt8} {ts ts':List Ty} {a a':AV} (ha:A0 a (AZ ts)) (Np:A0 a' (AZ ts')) (hl:ts.length<2 ^ 40) (he:ts.length=ts'.length)
  (ih:∀t∈ts,∀(t':Ty) (x x':AV),A8 t x->A8 t' x'->Ae (env R) 104 [x,x'] λr=>∃c:Int,r=AG c/\(c=0<->t=t')) {s:AQ} (g0:s.bs[0]?=some [AG k,SS n,AG i,a]) (g1:s.bs[1]?=some [AG k',SS n',AG i',a']) {Post:AV->Prop} (hP:∀c:Int,(c=0<->ts=ts')->Post (AG c)) :
  ∀(j p:Nat) (c:Int),p+j=ts.length->(c=0->ts.take p=ts'.take p)->(c≠0->ts≠ts')->jz R 0 0 0 (.ptr 0 0) (.ptr 1 0) (AG c) (AG p) s (QP Post):=by
 intro j
 have done:∀(p:Nat) (c:Int),c≠0->(c≠0->ts≠ts')->jz R 0 0 0 (.ptr 0 0) (.ptr 1 0) (AG c) (AG p) s (QP Post):=by
  intro p c hc h;refine aa (Av ?_);have:(c==0)=false:=AB;rw[this];exact Bf (Bf (Bf (Bf (Bf (pk (Ar (j0 ⟨_,GX,hP c AB⟩)))))))
 induction j with
 | zero=>
  intro p c hi h0 h1
  by_cases hc:c=0
  .subst hc
   refine aa (Av (Ak (Ak (AM (AU g0) (Ak (AX (off:=3) g0 rfl (Ak (Au (n:=ts.length) (by rw[ha.BD,Ab]) (Ak (Ao (pk ?_)))))))))));rw[A2 AA];have:=h0 rfl;rw[CV AA,CV AA] at this;exact Ar (j0 ⟨_,GX,hP 0 AB⟩)
  grind
 | succ j D9=>
  intro p c hi h0 h1
  by_cases hc:c=0
  .subst hc
   refine aa (Av (Ak (Ak (AM (AU g0) (Ak (AX (off:=3) g0 rfl (Ak (Au (n:=ts.length) (by rw[ha.BD,Ab]) (Ak (Ao (pk ?_)))))))))));rw[Aq AA];obtain⟨t,ht⟩:∃c,ts[p]?=some c:=⟨_,Ay AA⟩;obtain⟨t',ht'⟩:∃c,ts'[p]?=some c:=⟨_,Ay AA⟩;have hpre:=h0 rfl;refine A1 (AJZ (AM (AU g0) (AX (off:=3) g0 rfl (BR ha (row:=Ah t) AA (by grind[BL]) (Aj _) AA (Ce (AM (AU g1) (AX (off:=3) g1 rfl (BR Np (row:=Ah t') AA (by grind[BL]) (Aj _) AA (Ce ?_)))))))));refine AH (ih t (A5 ht) t' _ _ (A8.Bk t) (A8.Bk t')) ?_;rintro v ⟨c,rfl,hcc⟩;refine AJa (Be AA AA ?_);have:=D9 (p+1) c AA (λh=>by grind[List.take_add_one]) (λh e=>by grind)
   grind
  grind
mutual
theorem YQ:∀(t:Ty),size t<2 ^ 38->∀(t':Ty) (x x':AV),A8 t x->A8 t' x'->Ae (env R) 104 [x,x'] λr=>∃c:Int,r=AG c/\(c=0<->t=t')
 | .mk k n i ts,h,.mk k' n' i' ts',x,x',hx,hx'=>by
  obtain⟨a,rfl,ha⟩:=hx;obtain⟨a',rfl,Np⟩:=hx';simp only[size] at h;have ih:=VZ ts AA;have hts:=BS ts
  suffices H:∀Post:AV->Prop,(∀c:Int,(c=0<->Ty.mk k n i ts=Ty.mk k' n' i' ts')->Post (AG c))->yK R 0 0 0 (.agg [AG k,SS n,AG i,a]) (.agg [AG k',SS n',AG i',a']) ⟨[],[]⟩ (QP Post) from
   AaT (u0:=.agg [AG k,SS n,AG i,a]) (u1:=.agg [AG k',SS n',AG i',a']) (by simp[ha.close,Np.close]) (H _ λc hc=>⟨c,rfl,hc⟩)
  intro Post hP;simp only[Ty.mk.injEq] at hP;refine AJb (Bu (cs:=[AG k,SS n,AG i,a]) rfl (by simp[ha.ok]) (Bu (cs:=[AG k',SS n',AG i',a']) rfl (by simp[Np.ok]) ?_));simp only[Cc,B6,DD,B4,CI];have g0:(AQ.mk [[AG k,SS n,AG i,a],[AG k',SS n',AG i',a']] []).bs[0]?=some [AG k,SS n,AG i,a]:=rfl;have g1:(AQ.mk [[AG k,SS n,AG i,a],[AG k',SS n',AG i',a']] []).bs[1]?=some [AG k',SS n',AG i',a']:=rfl;generalize AQ.mk [[AG k,SS n,AG i,a],[AG k',SS n',AG i',a']] []=s at g0 g1;have sa:=BF.C1 (es:=ts) (.inl ha);have sa':=BF.C1 (es:=ts') (.inl Np);have la:∀(s:AQ) (K:AV->Prop),K (AG ts.length)->Gk s a K:=λs K h=>Au (n:=ts.length) (by rw[ha.BD,Ab]) h
  have la':∀(s:AQ) (K:AV->Prop),K (AG ts'.length)->Gk s a' K:=λs K h=>Au (n:=ts'.length) (by rw[Np.BD,Ab]) h
  have eqs:∀w:List UInt8,Tel.C1 (SS w) (SS w)=true:=λw=>by simp[Tel.C1,Ni,Ic]
  have eqi:∀w:Int,Tel.C1 (AG w) (AG w)=true:=λw=>by simp[Tel.C1,Ni,Fa]
  have fa0:∀d,DY s (.ptr 0 0) d λv=>Tel.C1 v (.ptr 0 (0+d))=true:=λd=>AM (AU g0) (DL _ _)
  have fa1:∀d,DY s (.ptr 1 0) d λv=>Tel.C1 v (.ptr 1 (0+d))=true:=λd=>AM (AU g1) (DL _ _)
  refine AM (AU g0) (AX (off:=0) g0 rfl (AM (AU g1) (AX (off:=0) g1 rfl ?_)));refine AH (RU k k') ?_;rintro v ⟨c1,rfl,h1⟩;refine AM (AU g0) (AX (off:=1) g0 rfl (AM (AU g1) (AX (off:=1) g1 rfl ?_)));refine AH (sG n n') ?_;rintro v ⟨c2,rfl,h2⟩;refine AM (AU g0) (AX (off:=2) g0 rfl (AM (AU g1) (AX (off:=2) g1 rfl ?_)));refine AH (RU i i') ?_;rintro v ⟨c3,rfl,h3⟩;refine AM (AU g0) (AX (off:=3) g0 rfl (la _ _ (AM (AU g1) (AX (off:=3) g1 rfl (la' _ _ ?_)))));refine AH (RU ts.length ts'.length) ?_;rintro v ⟨c4,rfl,h4⟩;refine AaS (AH (ACR (l:=[c1,c2,c3,c4]) (.AE _) AD) ?_);rintro v rfl;refine⟨fa0 1,AX (off:=1) g0 rfl (eqs n),fa1 1,AX (off:=1) g1 rfl (eqs n'),fa0 2,fa0 2,AX (off:=2) g0 rfl (eqi i),AX (off:=2) g0 rfl (eqi i),fa1 2,fa1 2,AX (off:=2) g1 rfl (eqi i'),AX (off:=2) g1 rfl (eqi i'),fa0 3,fa0 3,fa0 3,AX (off:=3) g0 rfl sa,AX (off:=3) g0 rfl sa,AX (off:=3) g0 rfl sa,la _ _ (eqi _),la _ _ (eqi _),la _ _ (eqi _),fa1 3,fa1 3,fa1 3,AX (off:=3) g1 rfl sa',AX (off:=3) g1 rfl sa',AX (off:=3) g1 rfl sa',la' _ _ (eqi _),la' _ _ (eqi _),la' _ _ (eqi _),?_⟩
  have hz:nX [c1,c2,c3,c4]=0<->(k=k'/\n=n'/\i=i'/\ts.length=ts'.length):=by
   rw[fH];simp only[A3,D4,D5,forall_eq_or_imp,forall_eq,h1,h2,h3,h4]
   grind
  by_cases hall:k=k'/\n=n'/\i=i'/\ts.length=ts'.length
  .obtain⟨rfl,rfl,rfl,hle⟩:=hall
   have h0:=hz.2 ⟨rfl,rfl,rfl,hle⟩;exact sH ha Np AA hle ih g0 g1 (λc hc=>hP c AB) ts.length 0 _ AA (λ_=>rfl) (λh=>absurd h0 h)
  .have hne:nX [c1,c2,c3,c4]≠0:=λh=>hall (hz.1 h)
   generalize nX [c1,c2,c3,c4]=c at hne;refine aa (Av ?_);have:(c==0)=false:=AB;rw[this];exact Bf (Bf (Bf (Bf (Bf (pk (Ar (j0 ⟨_,GX,hP c AB⟩)))))))
theorem VZ:∀(l:List Ty),Ac l<2 ^ 38->∀t∈l,∀(t':Ty) (x x':AV),A8 t x->A8 t' x'->Ae (env R) 104 [x,x'] λr=>∃c:Int,r=AG c/\(c=0<->t=t')
 | [],_,_,h=>by cases h
 | e::l,h,t,hm=>by
  simp only[Ac] at h;rcases A3.1 hm with h' | h'
  .rw[h']
   exact YQ e AA
  .exact VZ l AA t h'
end
theorem Va {t t':Ty} {x x':AV} (h:size t<2 ^ 38) (hx:A8 t x) (hx':A8 t' x'):Ae (env R) 63 [x,x'] λr=>∃b:Bool,r=BB b/\(b=true<->t=t'):=by
 have hc:=YQ (R:=R) t h t' x x' hx hx';obtain⟨k,n,i,ts⟩:=t;obtain⟨k',n',i',ts'⟩:=t';obtain⟨a,rfl,ha⟩:=hx;obtain⟨a',rfl,Np⟩:=hx';refine e63 (u0:=.agg [AG k,SS n,AG i,a]) (u1:=.agg [AG k',SS n',AG i',a']) (by simp[ha.close,Np.close]) (AQp ?_);refine Bu (cs:=[AG k,SS n,AG i,a]) rfl (by simp[ha.ok]) (Bu (cs:=[AG k',SS n',AG i',a']) rfl (by simp[Np.ok]) (Af (cs:=[AG k,SS n,AG i,a]) rfl rfl (Af (cs:=[AG k',SS n',AG i',a']) rfl rfl ?_)));refine AH hc ?_;rintro v ⟨c,rfl,h⟩;exact Av ⟨_,GX,c==0,rfl,AB⟩
end
def Eu (lo:Nat) (bs:List (List AV)) (l:List Br) (a:AV):Prop:=(a=.AE []/\l=[])\/∃id rows,lo<=id/\a=.ref id 0 l.length 5/\bs[id]?=some (List.flatten rows)/\CE (λb row=>CU b (.agg row)) l rows/\l≠[]
theorem CU.cells {b:Br} {row:List AV} (h:CU b (.agg row)):row.length=5/\row.all A7=true/\∀n,Ag n row=true:=by
 obtain⟨a,y,hy,ha,ht⟩:=h;cases hy;obtain⟨h1,h2,h3⟩:=ht.cells;exact⟨AB,by simp only[Gz,ha.ok,h2]; rfl,λn=>by simp[Ag,ha.Ax,h3]⟩
theorem CU.agg {b:Br} {x:AV} (h:CU b x):∃row,x=.agg row:=by
 obtain⟨a,y,rfl,_⟩:=h;simp
theorem IU {l:List Br} {rows:List (List AV)} (h:CE (λb row=>CU b (.agg row)) l rows):rows.flatten.length=l.length*5/\rows.flatten.all A7=true/\∀n,Ag n rows.flatten=true:=by
 induction l generalizing rows with
 | nil=>
  cases rows with
  | nil=>exact⟨rfl,rfl,λ_=>rfl⟩
  | cons _ _=>exact h.elim
 | cons b l ih=>
  cases rows with
  | nil=>exact h.elim
  | cons row rows=>
   obtain⟨h1,h2⟩:=h;obtain⟨c1,c2,c3⟩:=h1.cells;obtain⟨i1,i2,i3⟩:=ih h2;refine⟨AB,AB,λn=>?_⟩;rw[NV]
   have gen:∀(a b:List AV),Ag n a=true->Ag n b=true->Ag n (a++b)=true:=by
    intro a
    induction a with
    | nil=>simp
    | cons x a j4=>
     grind[Ag]
   grind
theorem Eu.BD {lo:Nat} {s:AQ} {l:List Br} {a:AV} (h:Eu lo s.bs l a):BD s a=some l.length:=by
 rcases h with ⟨rfl,rfl⟩|⟨id,rows,h1,rfl,h2,h3,h4⟩
 .rfl
 .obtain⟨c1,_,_⟩:=IU h3
  have hal:alive s id=true:=by
   have:rows.flatten≠[]:=by
    intro h;rw[h] at c1;cases l with
    | nil=>grind
    | cons _ _=>grind
   obtain⟨c,r,hc⟩:=Nd this;simp[*]
  grind[Tel.BD]
theorem Eu.mono {lo lo':Nat} {bs bs':List (List AV)} {l:List Br} {a:AV} (h:Eu lo bs l a) (hl:lo'<=lo) (hb:∀j c,lo<=j->bs[j]?=some c->bs'[j]?=some c):Eu lo' bs' l a:=by
 rcases h with h|⟨id,rows,h1,h2,h3,h4,h5⟩
 .exact .inl h
 .exact .inr ⟨id,rows,BM hl h1,h2,hb id _ h1 h3,h4,h5⟩
theorem NG {b:Br} {row:List AV} (h:CU b (.agg row)) {s:AQ} {K:AV->AQ->Prop} (hK:K (.ref s.bs.length 0 1 5) ⟨s.bs++[row],s.ts⟩):GY true s 5 [(.AE []),(AG 0),(SS []),(AG 0),(.AE [])] 1 [(0,5,.agg row)] K:=by
 obtain⟨a,y,hy,ha,ht⟩:=h;cases hy;rcases Zb:b.body with ⟨k,n,i,ts⟩
 rw[Zb] at ht;obtain⟨a2,hy,UO⟩:=ht;cases hy;simp[GY,Fx,CJ,ha.ok,UO.ok];omega
theorem yL {L:BI} {s:AQ} {lo id':Nat} {a:AV} {l:List Br} {b:Br} {row:List AV} (hr:CU b (.agg row)) (hid:s.bs[id']?=some row) (ha:Eu lo s.bs l a) (hro:L.ro=0) (hl:l.length<2 ^ 30) {K:AV->AQ->Prop}
  (h:∀a' bs',Eu lo bs' (l++[b]) a'->(∀j c,(∀n,a≠.ref j 0 n 5)->s.bs[j]?=some c->bs'[j]?=some c)->s.bs.length<=bs'.length->(BP s->BP ⟨bs',s.ts⟩)->(lo<=s.bs.length->K a' ⟨bs',s.ts⟩)) (hlo:lo<=s.bs.length) :
  HB true L s 45 5 80 a (.ref id' 0 1 5) K:=by
 obtain⟨c1,c2,c3⟩:=hr.cells
 have hal:alive s id'=true:=by
  obtain⟨c,r,hc⟩:=Nd (l:=row) AB;simp[*]
 have hsrc:Cz s 5 (.ref id' 0 1 5)=some row:=by grind[Cz]
 unfold HB;rw[hsrc];obtain⟨c,cs,hc⟩:=Nd (l:=row) AB;subst hc;simp only[wO];have hdiv:(c::cs).length / 5=1:=by rw[c1]
 rw[hdiv];refine⟨c2,?_⟩;rcases ha with ⟨rfl,rfl⟩|⟨id,rows,h1,rfl,h2,h3,h4⟩
 .refine⟨⟨AD,AD,AD⟩,?_⟩
  simp only[AN,ZH,Cd,Cc];refine h (.ref s.bs.length 0 1 5) (s.bs++[c::cs]) (.inr ⟨s.bs.length,[c::cs],hlo,rfl,AD,⟨hr,Ai⟩,AD⟩) (λj c _ hj=>Ap hj _) AD (λhs=>BP.app (s:=s) hs (c3 _)) hlo
 .obtain⟨r1,r2,r3⟩:=IU h3
  have Sd:=(BA.1 h2).1
  have AJc:alive s id=true:=by
   have:rows.flatten≠[]:=by
    intro h;rw[h] at r1;cases l with
    | nil=>grind
    | cons _ _=>grind
   obtain⟨c,r,hc⟩:=Nd this
   simp_all
  simp only[h2];refine⟨⟨Ai,Ai,AA,AJc,AA,AA,AA⟩,?_⟩;have et:rows.flatten.take (l.length*5)=rows.flatten:=CV AA;rw[et];have sI:CE (λb row=>CU b (.agg row)) (l++[b]) (rows++[c::cs]):=CE.append h3 ⟨hr,Ai⟩;refine h (.ref s.bs.length 0 (l.length+1) 5) (s.bs.set id []++[rows.flatten++(c::cs)]) (.inr ⟨s.bs.length,rows++[c::cs],hlo,AD,?_,sI,AD⟩) (λj c hn hj=>?_) AD (λhs=>?_) hlo
  .simp
  .grind
  .have h5:BP ⟨s.bs.set id [],s.ts⟩:=BP.set (s:=s) hs AR _
   refine BP.app (s:=⟨s.bs.set id [],s.ts⟩) h5 ?_
   have gen:∀n (a b:List AV),Ag n a=true->Ag n b=true->Ag n (a++b)=true:=by
    intro n a
    induction a with
    | nil=>simp
    | cons x a j4=>
     grind[Ag]
   grind
section
variable {R:RT}
theorem CU.closed {b:Br} {x:AV} (h:CU b x):∃x',BK [] 0 0 [x]=some [x']/\BK [] 0 0 [x']=some [x']/\N5 b x':=by
 obtain⟨a,y,rfl,ha,ht⟩:=h;rcases hb:b.body with ⟨k,n,i,ts⟩
 rw[hb] at ht;obtain⟨a2,hy,UO⟩:=ht;cases hy;obtain⟨a',h1,h2⟩:=ha.closed [] 0;obtain⟨a2',h3,h4⟩:=UO.closed [] 0;refine⟨.agg [a',AG k,SS n,AG i,a2'],by simp[*],by simp[h2.close,h4.close],?_⟩;exact⟨a',[AG k,SS n,AG i,a2'],rfl,h2,by rw[hb]; exact⟨a2',rfl,h4⟩⟩
theorem Ov {b:Br} (h:size b.body<2 ^ 38) (hl:b.bounds.length<2 ^ 38) (hc:(Al b.body).length<2 ^ 40) {x:AV} (hx:CU b x):Ae (env R) 46 [x] λr=>r=BB (decide (b.bounds.length<=6)&&decide ((Al b.body).length<=3)):=by
 obtain⟨x',h1,h2,h3⟩:=hx.closed;exact Ae.open (args':=[x']) AR AR rfl h1 h2 (Kk h hl hc h3)
end
section
variable {R:RT}
theorem fI {α:Type} {row:α->List PV} (hrow:∀a,(row a).length=4) {f:FuncId} {cs:List AV} {g:α->Bool} {ts:List α} {y:AV} (hy:BF y (ts.map row)) (hl:ts.length<2 ^ 60) {s:AQ} (hf:∀t∈ts,∀L,BG (env R) L f (.agg ((row t).map .pv)::cs) s (BB (g t)) s) {n0 ro rt:Nat} {QR:QT} :
  ∀(j q:Nat),q+j=ts.length->(∀i:Int,decide (0<=i)=(ts.drop q).any g->QR (AG i) s)->Zt R n0 ro rt y (.func (.func f) [] cs) (AG ts.length) (AG q) s QR:=by
 intro j
 induction j with
 | zero=>
  intro q hi hP;refine Q9 (Ao ?_);rw[A2 AA];refine Ar (jL ?_);have h2:ts.drop q=[]:=CA AA;rw[h2] at hP;exact hP (-1) AD
 | succ j D9=>
  intro q hi hP;refine Q9 (Ao ?_);rw[Aq AA];refine A1 (jM ?_);obtain⟨t,ht⟩:∃t,ts[q]?=some t:=⟨_,Ay AA⟩;rw[drop_cons ht] at hP;refine BX hy (row:=row t) AA (by simp[ht]) (hrow t) AA ?_;have hc:=hf t (A5 ht)
  have e4:∀K:AV->Prop,K (.agg ((row t).map .pv))->Df (env R) s (some 4) (.Ct (row t) 0) K:=by
   intro K hK;simp only[Df,DQ,JL];refine⟨by rw[Bt,hrow]; omega,?_⟩;rw[CV (by rw[Bt,hrow]; omega)];exact hK
  refine e4 _ ?_;refine⟨BB (g t),s,hc _,?_⟩;cases hg:g t with
  | true=>grind[A1]
  | false=>
   refine Ar (jN (Be AA AA ?_));exact D9 (q+1) AA AB
theorem Wy {α:Type} {row:α->List PV} (hrow:∀a,(row a).length=4) {f:FuncId} {cs:List AV} {g:α->Bool} {ts:List α} {y:AV} (hy:BF y (ts.map row)) (hl:ts.length<2 ^ 60) {s:AQ} (hs:BP s) (hcs:C7 cs=false) (hf:∀t∈ts,∀L,BG (env R) L f (.agg ((row t).map .pv)::cs) s (BB (g t)) s) (L:BI) :
  BG (env R) L 94 [y,.func (.func f) [] cs] s (BB (ts.any g)) s:=by
 have hi:∀L,∃i:Int,decide (0<=i)=ts.any g/\BG (env R) L 125 [y,.func (.func f) [] cs] s (AG i) s:=by
  intro L
  obtain⟨v,s',⟨i,rfl,rfl,h⟩,hc⟩:=APe (R:=R) (L:=L) (s:=s) (t0:=y) (t1:=.func (.func f) [] cs) (Post:=λv s'=>∃i:Int,v=AG i/\s'=s/\decide (0<=i)=ts.any g) (by grind[C7,FR]) (Zu (Au (n:=ts.length) (by rw[hy.BD,Bt]) (fI hrow hy hl hf ts.length 0 AA λi h=>by
   have:=JZ (rr:=L.rr 125) hs (m:=[]) (p:=.sc (.int .i64 i)) (Post:=λv s'=>∃i:Int,v=AG i/\s'=s/\decide (0<=i)=ts.any g) ⟨i,rfl,rfl,AB⟩
   simp_all)))
  grind
 obtain⟨v,s',⟨rfl,rfl⟩,hc⟩:=m94 (R:=R) (L:=L) (s:=s) (t0:=y) (t1:=.func (.func f) [] cs) (Post:=λv s'=>v=BB (ts.any g)/\s'=s) (by grind[C7,FR]) (mE (by
  obtain⟨i,h,hc⟩:=hi (CT (env R) 94 0 L.ro L.rt);refine⟨AG i,s,hc,L9 ?_⟩;have:=JZ (rr:=L.rr 94) hs (m:=[]) (p:=.sc (.bool (ts.any g))) (Post:=λv s'=>v=BB (ts.any g)/\s'=s) ⟨rfl,rfl⟩
  simp_all))
 omega
theorem AJd {t u:Ty} (hsz:size t<2 ^ 38) {p:Nat} {s:AQ} (hs:BP s) (hp:s.bs[p]?=some ((Ah u).map .pv)) (L:BI):∃b:Bool,(b=true<->t=u)/\BG (env R) L 95 [.agg ((Ah t).map .pv),.ptr p 0] s (BB b) s:=by
 have heq:=Va (R:=R) hsz (A8.Bk t) (A8.Bk u);have hrl:((Ah t).map AV.pv).length=4:=by grind[Aj]
 have tN:((Ah u).map AV.pv).length=4:=by grind[Aj]
 have hro:=Cx t;obtain⟨v0,⟨b,rfl,hb⟩,QL⟩:=heq;refine⟨b,hb,?_⟩;generalize (Ah t).map AV.pv=r at QL hrl hro;generalize (Ah u).map AV.pv=r2 at QL tN hp;obtain⟨v,s',⟨rfl,rfl⟩,hc⟩:=m95 (R:=R) (L:=L) (s:=s) (t0:=.agg r) (t1:=.ptr p 0) (Post:=λv s'=>v=BB b/\s'=s) (by simp[C7,FR]) (AQq (Bu (cs:=r) rfl hro (Af (Az s.bs r) hrl (Af (Ap hp r) tN ⟨_,_,QL _ _,JZ hs (m:=[r]) (p:=.sc (.bool b)) ⟨rfl,rfl⟩⟩))));omega
def XOk (R:RT) (t:Ty) (o:List Br×Int):Prop:=∀x,BH t x->∀s,BP s->∀L:BI,L.n0=0->L.ro=0->L.rt=0 ->
 ∃v s',(∃a,v=.tuple [a,AG o.2]/\Eu s.bs.length s'.bs o.1 a/\s'.bs.take s.bs.length=s.bs/\s.bs.length<=s'.bs.length/\Ck (.AE []) (.AE []) s.ts s'.ts/\BP s')/\BG (env R) L 14 [x] s v s'
theorem ACT {X:Ty->List Br×Int} {ts:List Ty} {y:AV} (hy:A0 y (AZ ts)) (hl:ts.length<2 ^ 30) (hsz:∀t∈ts,Cs (X t)=true->size t<2 ^ 38) (hx:∀t∈ts,XOk R t (X t)) {Post:AV->Prop} (hP:Post (BB (ts.all λt=>Cs (X t)))) :
  ∀(j p:Nat) (ck:List Ty) (s:AQ) (b:AV),p+j=ts.length->ck.length<=p->(∀t∈ck,t∈ts/\Cs (X t)=true)->(ts.all λt=>Cs (X t))=((ts.drop p).all λt=>Cs (X t))->BP s->Dn 0 s.ts 25 b (AZ ck) ->
   AEw R 0 0 0 b y (AG ts.length) (AG p) s (QP Post):=by
 classical
 intro j
 induction j with
 | zero=>
  intro p ck s b hi E6 hck hall hs hb;refine AEx (Ao ?_);rw[A2 AA];rw[CA AA] at hall;rw[hall] at hP;exact Ar (AQs ⟨_,GX,hP⟩)
 | succ j D9=>
  intro p ck s b hi E6 hck hall hs hb;refine AEx (Ao ?_);rw[Aq AA];obtain⟨t,ht⟩:∃t,ts[p]?=some t:=⟨_,Ay AA⟩;have VE:=A5 ht;rw[drop_cons ht,Gz] at hall;have hrl:((Ah t).map AV.pv).length=4:=by grind[Aj]
  have hro:=Cx t
  have Lz:Ag (s.bs.length+1) ((Ah t).map AV.pv)=true:=by
   obtain⟨k1,n1,i1,t1⟩:=t;rfl
  refine A1 (AQt (BR hy (row:=Ah t) AA (by simp[*,BL]) (Aj _) AA (Ce (Bm ?_))));obtain⟨bs,tk⟩:=s;refine Bn (Az bs Z4) hrl rfl AK (AO _) hro (.inl (AO _)) ?_;have e1:(bs++[Z4]).set bs.length ((Ah t).map AV.pv)=bs++[(Ah t).map AV.pv]:=AD;rw[e1];have hs1:BP ⟨bs++[(Ah t).map AV.pv],tk⟩:=BP.app (s:=⟨bs,tk⟩) hs Lz;have gr:=Az bs ((Ah t).map AV.pv)
  have AQu:∀u∈ck,∀L,BG (env R) L 95 [.agg ((Ah u).map .pv),.ptr bs.length 0] ⟨bs++[(Ah t).map AV.pv],tk⟩ (BB (decide (u=t))) ⟨bs++[(Ah t).map AV.pv],tk⟩:=by
   intro u hu L;obtain⟨b',h1,h2⟩:=AJd (R:=R) (t:=u) (u:=t) (hsz u (hck u hu).1 (hck u hu).2) hs1 gr L
   grind
  have af:=hb.A4;rw[Hj] at af;refine⟨_,_,Wy (λt=>Aj t) af AA hs1 rfl AQu _,?_⟩;cases hm:ck.any (λu=>decide (u=t)) with
  | true=>
   obtain⟨u,hu,hut⟩:=Ll.1 hm;have:u=t:=AB;subst this;have hok:=(hck u hu).2;refine A1 (AEy (Be AA AA ?_));have:=D9 (p+1) ck ⟨bs++[(Ah u).map AV.pv],tk⟩ b AA AA hck (by rw[hall,hok,CY]) hs1 hb
   grind
  | false=>
   refine Ar (AQv (Af gr hrl (Er (A8.Bk t).Fy ⟨AK,Ja hb rfl AA λb' GJ hb' LH=>Af gr hrl ?_⟩)));have hs2:BP ⟨bs++[(Ah t).map AV.pv],GJ⟩:=hs1;obtain⟨v,s',⟨a,rfl,x1,x2,x3,x4,x5⟩,x6⟩:=hx t VE _ (A8.Bk t).Fy ⟨bs++[(Ah t).map AV.pv],GJ⟩ hs2 (CT (env R) 47 0 0 0) rfl rfl rfl;refine⟨_,_,x6,CO rfl (CO rfl (EB ?_))⟩
   have fail:Cs (X t)=false->(QP Post) (BB false) s':=λh=>by
    rw[hall,h,Gv] at hP;exact⟨_,GX,hP⟩
   cases h0:(X t).2==0 with
   | false=>
    grind[BQ,pk,A1,Cs]
   | true=>
    have:((X t).2 != 0)=false:=AB;rw[this];refine Ak (Ak (Au x1.BD (Ak (Fm (pk ?_)))))
    by_cases h4:(X t).1.length<=4
    .rw[A2 AA]
     refine Ar (AEy (Be AA AA ?_));have AaV:Cs (X t)=true:=by grind[Cs]
     have:=D9 (p+1) (ck++[t]) s' b' AA AB (λu hu=>by
      rcases B7.1 hu with hu|hu
      all_goals grind) (by rw[hall,AaV,CY]) x5 (x4.keep hb' λ_ h=>by cases h)
     grind
    grind[A1,Cs]
theorem La {X:Ty->List Br×Int} {ts:List Ty} {y:AV} (hy:A0 y (AZ ts)) (hl:ts.length<2 ^ 30) (hsz:∀t∈ts,Cs (X t)=true->size t<2 ^ 38) (hx:∀t∈ts,XOk R t (X t)):Ae (env R) 47 [y] λr=>r=BB (ts.all λt=>Cs (X t)):=by
 refine e47 (u0:=y) (by simp[BK,hy.close]) (AQw (Au (n:=ts.length) (by rw[hy.BD,Ab]) ?_));exact ACT (Post:=λr=>r=BB (ts.all λt=>Cs (X t))) hy hl hsz hx rfl ts.length 0 [] ⟨[],[]⟩ (.AE []) AA (AO _) (λt h=>by cases h) rfl (λb hb=>by grind) (.inl rfl)
theorem QN {X:Ty->List Br×Int} {ts:List Ty} {y:AV} (hy:BF y (AZ ts)) (hl:ts.length<2 ^ 30) (hsz:∀t∈ts,Cs (X t)=true->size t<2 ^ 38) (hx:∀t∈ts,XOk R t (X t)):Ae (env R) 47 [y] λr=>r=BB (ts.all λt=>Cs (X t)):=by
 obtain⟨y',h1,h2⟩:=hy.closed [] 0;exact Ae.open (args':=[y']) AR AR rfl (by grind[BK]) (by simp[BK,h2.close]) (La h2 hl hsz hx)
end
theorem QO {L:BI} {s:AQ} {id:Nat} {cs:List AV} {K:AQ->Prop} (hb:s.bs[id]?=some Z5) (hk:cs.length=5) (hro:L.ro<=id) (hok:cs.all A7=true) (hn:L.n0<=id) (h:K ⟨s.bs.set id cs,s.ts⟩):HM L s 5 (.ptr id 0) (.agg cs) K:=
 Bn hb hk rfl AK hro hok (.inl hn) h
theorem ACU {B:List Ty} {p:Ty} (ht:GC B.length p=true):∀b∈(JY B p).bounds,b∈B:=by
 intro b hb;have hb:b∈(K4 B.length p []).2.map λx=>B.getD x bW:=hb
 grind[jh]
section
variable {R:RT}
theorem ACV (hn:MY R) {B:List Ty} (nA:B.length<=2 ^ 37) (hB:∀t∈B,size t<2 ^ 38/\SJ t=true) {ps:List Ty} (LK:ps.length<=32) (hps:∀p∈ps,size p<2 ^ 37/\GC B.length p=true) {a:AV} (ha:BF a (AZ (CC ps))) {n e:Nat} {X:List (List AV)} {d:AV} (hX:X[e]?=some [d,AG 32]) (hd:BF d (AZ B)) {O7:List (Nat×Nat)} {QR:QT}
  (hF:(ps.map (JY B)).all Md=false->∀bs tk,BP ⟨bs,tk⟩->bs.take n=X->n<=bs.length->Ck (.AE []) (.AE []) O7 tk->QR (.tuple [.AE [],AG 4]) ⟨bs,tk⟩)
  (hS:(ps.map (JY B)).all Md=true->∀bs tk t7 t8,BP ⟨bs,tk⟩->bs.take n=X->n<=bs.length->Ck (.AE []) (.AE []) O7 tk->Eu n bs (ps.map (JY B)) t7->BF t8 (AZ ((ps.map (JY B)).flatMap Br.bounds))->AEz R 0 0 0 t7 t8 ⟨bs,tk⟩ QR) :
  ∀(j p:Nat) (bs:List (List AV)) (tk:List (Nat×Nat)) (t7 t8:AV),p+j=ps.length->BP ⟨bs,tk⟩->bs.take n=X->n<=bs.length->Eu n bs ((ps.take p).map (JY B)) t7->Dn 0 tk 25 t8 (AZ (((ps.take p).map (JY B)).flatMap Br.bounds))->((ps.take p).map (JY B)).all Md=true->(((ps.take p).map (JY B)).flatMap Br.bounds).length<=6*p->Ck (.AE []) (.AE []) O7 tk->DW t8 O7 ->
   AE0 R 0 0 0 (.ptr e 0) t7 t8 a (AG ps.length) (AG p) ⟨bs,tk⟩ QR:=by
 intro j
 induction j with
 | zero=>
  intro p bs tk t7 t8 hi hs hT Nk h7 h8 hw hl6 hch hfr;refine AE1 (Ao ?_);rw[A2 AA];rw[CV AA] at h7 h8 hw;exact Ar (hS hw bs tk t7 t8 hs hT Nk hch h7 h8.A4)
 | succ j D9=>
  intro p bs tk t7 t8 hi hs hT Nk h7 h8 hw hl6 hch hfr;refine AE1 (Ao ?_);rw[Aq AA];obtain⟨c,hc⟩:∃c,ps[p]?=some c:=⟨_,Ay AA⟩;have MW:=A5 hc;obtain⟨c1,c2⟩:=hps c MW;have hrc:(CC ps)[p]?=some (ren c):=by grind[Bv]
  have hrl:((Ah (ren c)).map AV.pv).length=4:=by grind[Aj]
  have hro:=Cx (ren c)
  have Lz:Ag (bs.length+1) ((Ah (ren c)).map AV.pv)=true:=by
   obtain⟨k1,n1,i1,t1⟩:=ren c;rfl
  have EN:=A8.Bk (ren c);have XQ:ps.take (p+1)=ps.take p++[c]:=by grind[List.take_add_one]
  refine A1 (AQx (BX ha (row:=Ah (ren c)) AA (by grind[BL]) (Aj _) AA (Ce (Bm ?_))));generalize (Ah (ren c)).map AV.pv=row at hrl hro Lz EN;refine Bn (Az bs Z4) hrl rfl AK (AO _) hro (.inl (AO _)) ?_;have e1:(bs++[Z4]).set bs.length row=bs++[row]:=AD;rw[e1];have hs1:BP ⟨bs++[row],tk⟩:=BP.app (s:=⟨bs,tk⟩) hs Lz;have gr:=Az bs row;have TZ:=(ED Nk row).trans hT;have lb:(bs++[row]).length=bs.length+1:=AD;have h71:Eu n (bs++[row]) ((ps.take p).map (JY B)) t7:=h7.mono (AY _) λj c _ hj=>Ap hj _
  generalize bs++[row]=b1 at hs1 gr TZ lb h71;have gE1:b1[e]?=some [d,AG 32]:=CN TZ hX;obtain⟨w,s',⟨OD,r1,r2,rfl⟩,r3⟩:=SL (R:=R) hn (L:=CT (env R) 14 0 0 0) (p:=c) (s:=⟨b1,tk⟩) AA (λt ht=>⟨.of (hB t ht).1,(hB t ht).2⟩) AA c2 EN hs1 gE1 hd rfl rfl;refine Af gr hrl ⟨_,_,r3,?_⟩;obtain⟨rw5,rfl⟩:=r1.agg;obtain⟨q1,q2,q3⟩:=r1.cells;have h81:=r2.keep h8 (λ_ h=>by cases h);have rY:=hch.trans r2;refine Bm (QO (Az b1 Z5) q1 (AO _) q2 (AO _) ?_);have e2:(b1++[Z5]).set b1.length rw5=b1++[rw5]:=AD
  show Df _ ⟨(b1++[Z5]).set b1.length rw5,OD⟩ _ _ _
  rw[e2];have hs2:BP ⟨b1++[rw5],OD⟩:=BP.app (s:=⟨b1,tk⟩) hs1 (q3 _);have g5:=Az b1 rw5;have JF:=(ED (n:=n) AA rw5).trans TZ;have h72:Eu n (b1++[rw5]) ((ps.take p).map (JY B)) t7:=h71.mono (AY _) λj c _ hj=>Ap hj _
  have lb2:(b1++[rw5]).length=b1.length+1:=AD
  have h7n:∀m,t7≠.ref b1.length 0 m 5:=by
   intro m h;rcases h71 with ⟨h1,_⟩|⟨id,rows,_,h1,h2,_⟩
   all_goals grind
  generalize b1++[rw5]=b2 at hs2 g5 JF h72 lb2;have hsz:=eT B c;have hcv:=Gc (JY B c).body;refine Af g5 q1 (AH (Ov AA AA AA r1) ?_);rintro _ rfl;have ew:(decide ((JY B c).bounds.length<=6)&&decide ((Al (JY B c).body).length<=3))=Md (JY B c):=rfl;rw[ew];refine nt ?_;cases hwc:Md (JY B c) with
  | false=>
   grind[A1]
  | true=>
   have hb6:(JY B c).bounds.length<=6:=AB;obtain⟨a5,y5,hy5,ha5,_⟩:=id r1;cases hy5;refine Ar (AQz (Af g5 q1 (NG r1 ⟨AK,?_⟩)));have g5b:=Ap g5 (a5::y5);have hs3:BP ⟨b2++[a5::y5],OD⟩:=BP.app (s:=⟨b2,OD⟩) hs2 (q3 _);have h73:Eu n (b2++[a5::y5]) ((ps.take p).map (JY B)) t7:=h72.mono (AY _) λj c _ hj=>Ap hj _
   refine yL (s:=⟨b2++[a5::y5],OD⟩) r1 (Az b2 _) h73 rfl AB ?_ AB;intro a' bs' Qq Mk hb3 hb4 _;have hs4:=hb4 hs3;have g5c:=Mk b1.length _ h7n g5b
   have hT4:bs'.take n=X:=by
    rw[<-JF];refine FO λj=>?_
    by_cases hj:j<n
    .rw[TH hj,TH hj]
     have hj2:j<b2.length:=AA;have h1:(b2++[a5::y5])[j]?=some b2[j]:=by rw[CX hj2,Ay hj2]
     rw[Mk j _ (λm h=>by
      rcases h73 with ⟨h2,_⟩|⟨id,rows,h2,h3,_⟩
      all_goals grind) h1,Ay hj2]
    grind
   have AQ0:n<=bs'.length:=AA;refine AM (AU g5c) (AX (off:=0) g5c rfl ⟨AK,FG (l:=(JY B c).bounds) h81 rfl AA ha5 λt8' KS x1 x2=>?_⟩);have sa:=BF.C1 (es:=(JY B c).bounds) ha5;refine⟨AM (AU g5) (DL _ _),AM (AU g5b) (DL _ _),AX (off:=0) g5 rfl sa,AX (off:=0) g5b rfl sa,AQ1 (Be AA AA ?_)⟩;have em:(ps.take (p+1)).map (JY B)=(ps.take p).map (JY B)++[JY B c]:=AB;have ef:((ps.take (p+1)).map (JY B)).flatMap Br.bounds=((ps.take p).map (JY B)).flatMap Br.bounds++(JY B c).bounds:=AB;have:=D9 (p+1) bs' KS a' t8' AA hs4 hT4 AQ0 AB AB (by rw[em,TI,hw]; grind) AB (rY.side x2 hfr) (hfr.QF x2 rY.1)
   grind
end
structure Fit (t:Ty):Prop where
 bws:CR (bw t)
 wts:wt t<=2 ^ 27
 nbs:nb t<2 ^ 37
theorem Fit.sub {t b:Ty} (h:Fit t) (hb:Wx t b):Fit b:=⟨Cp h.bws hb.bws,BM hb.wts h.wts,ZI hb.nbs h.nbs⟩
mutual
theorem Ji:∀t:Ty,valid t=true->RB t
 | .mk k n i ts,h=>by
  have hn:=MB h;simp only[valid,AI] at h;rw[RB];exact⟨by grind[Q0],Vb ts h.2⟩
theorem Vb:∀l:List Ty,A9 l=true->Sk l
 | [],_=>trivial
 | t::l,h=>by
  simp only[A9,AI] at h;rw[Sk];exact⟨Ji t h.1,Vb l h.2⟩
end
mutual
theorem RV:∀t:Ty,valid t=true->ixs t=true
 | .mk k n i ts,h=>by
  have hv:=h;simp only[valid,AI] at h;rw[ixs,Vc ts h.2];cases h5:k==5 with
  | false=>rfl
  | true=>
   have:k=5:=AB;subst this;have h1:=Eb hv;have h2:=LW hv
   grind
theorem Vc:∀l:List Ty,A9 l=true->sD l=true
 | [],_=>rfl
 | t::l,h=>by
  simp only[A9,AI] at h;rw[sD,RV t h.1,Vc l h.2];rfl
end
theorem sJ {t:Ty} (h:valid t=true) (hc:CB 0 t=true):SJ t=true:=by
 have:=U3 [] t 0 h
 grind[Ej]
section
variable {R:RT}
theorem Vd {t:Ty} (h:size t<2 ^ 60) (ho:RB t) {x:AV} (hx:BH t x):Ae (env R) 42 [x] λr=>r=AG (verdict t):=by
 obtain⟨x',h1,h2⟩:=hx.closed [] 0;exact Ae.open (args':=[x']) AR AR rfl (by grind[BK]) (by simp[BK,h2.G3]) (OI h ho h2)
theorem Ve {t:Ty} (h:size t<2 ^ 18) (Tp:ixs t=true) {x:AV} (hx:BH t x):Ae (env R) 43 [x] λr=>∃l:List Int,A0 r (Ad l)/\l.Pairwise (·<·)/\(∀w,w∈l<->w∈Qj 0 t):=by
 obtain⟨x',h1,h2⟩:=hx.closed [] 0;exact Ae.open (args':=[x']) AR AR rfl (by grind[BK]) (by simp[BK,h2.G3]) (OK h Tp h2)
structure XH (R:RT) (X:Ty->List Br×Int) (t:Ty) (r:Option (List Ty)) (B:List Ty):Prop where
 run:∀(e:Nat) (x:AV),BH t x->∀s,BP s->Wv R e 32 44 [x] (r,B) [] s
 len:B.length<2 ^ 37
 bds:∀b∈B,size b<2 ^ 38/\SJ b=true
 few:∀ps,r=some ps->ps.length<=32
 pat:∀ps,r=some ps->∀p∈ps,size p<2 ^ 37/\GC B.length p=true
 sub:∀ps,r=some ps->∀b∈(ps.map (JY B)).flatMap Br.bounds,size b<2 ^ 38/\XOk R b (X b)
def xO (X:Ty->List Br×Int) (r:Option (List Ty)) (B:List Ty):List Br×Int:=match r with
 | none=>([],4)
 | some ps=>bif (ps.map (JY B)).all Md&&(((ps.map (JY B)).flatMap Br.bounds).all λb=>Cs (X b)) then(ps.map (JY B),0) else([],4)
theorem sK (hn:MY R) {X:Ty->List Br×Int} {t:Ty} {r:Option (List Ty)} {B:List Ty} (hsz:size t<2 ^ 60) (hok:RB t) (H:verdict t=0->CB 0 t=true->XH R X t r B):XOk R t (bif !(verdict t==0)||!(CB 0 t) then([],2) else xO X r B):=by
 intro x hx s hs L hn0 hro El;have hv1:=Vd (R:=R) hsz hok hx;have hfv:=λh1 h2=>Ve (R:=R) (t:=t) h1 h2 hx
 have hxO:=hx;obtain⟨xc,rfl⟩:=hxO.agg;obtain⟨c1,c2,c3⟩:=hxO.cells;have bf:(s.bs++[xc]).take s.bs.length=s.bs:=AD;have hs1:BP ⟨s.bs++[xc],s.ts⟩:=BP.app (s:=s) hs (c3 _);have g0:=Az s.bs xc
 have fail:∀(n:Int) (o:List Br×Int),o=([],n)->∀bs ts,BP ⟨bs,ts⟩->bs.take s.bs.length=s.bs->s.bs.length<=bs.length->Ck (.AE []) (.AE []) s.ts ts ->
   ∃a,(AV.tuple [.AE [],AG n])=.tuple [a,AG o.2]/\Eu s.bs.length bs o.1 a/\bs.take s.bs.length=s.bs/\s.bs.length<=bs.length/\Ck (.AE []) (.AE []) s.ts ts/\BP ⟨bs,ts⟩:=by
  rintro n o rfl bs ts h1 h2 h3 h4;exact⟨_,rfl,.inl ⟨rfl,rfl⟩,h2,h3,h4,h1⟩
 refine m14 ?_;rw[hn0,hro,El];refine AQ2 (Bu (cs:=xc) rfl c2 (Af g0 c1 (AH hv1 ?_)));rintro _ rfl;refine EB ?_;cases TP:verdict t==0 with
 | false=>
  have:(verdict t != 0)=true:=AB;rw[this];refine BQ (BQ (BQ (BQ (pk (A1 ?_)))));exact fail 2 _ rfl _ _ hs1 bf AD (Ck.refl _ _)
 | true=>
  have:(verdict t != 0)=false:=AB;rw[this];obtain⟨hv,AE2,AQ3⟩:=DX (by simpa using TP);refine Ak (Af g0 c1 (Ak (AH (hfv AA (RV t hv)) ?_)));rintro v ⟨fl,hfl,hsrt,hmem⟩;refine Ak (Au (n:=fl.length) (by rw[hfl.BD,BU]) (Ak (Fm (pk ?_))));cases hc:CB 0 t with
  | false=>
   have hne:0<fl.length:=by
    rcases fl with _|⟨w,fl⟩
    .exfalso
     have:Qj 0 t=[]:=by
      rcases hf:Qj 0 t with _|⟨w,l⟩
      .rfl
      .have:=(hmem w).2 AB
       grind
     grind[QK]
    simp
   rw[Aq AA];refine A1 ?_;exact fail 2 _ rfl _ _ hs1 bf AD (Ck.refl _ _)
  | true=>
   have yH:fl=[]:=by
    rcases fl with _|⟨w,fl⟩
    .rfl
    .exfalso
     have:=(hmem w).1 AD
     grind[QK]
   subst yH;rw[A2 AD];simp only[NY,KU,AL];have hH:=H (by simpa using TP) hc;refine Ar (AQ4 (HO (cs:=[.AE [],AG 32]) rfl (Bu (cs:=[.AE [],AG 32]) rfl rfl ?_)));have gE:(s.bs++[xc]++[[.AE [],AG 32]])[s.bs.length+1]?=some [.AE [],AG 32]:=AD;have tZ:=Ap g0 [.AE [],AG 32];have hs2:BP ⟨s.bs++[xc]++[[.AE [],AG 32]],s.ts⟩:=BP.app (s:=⟨s.bs++[xc],s.ts⟩) hs1 rfl;have hlen:(s.bs++[xc]++[[.AE [],AG 32]]).length=s.bs.length+2:=AD;have hX:(s.bs++[xc]++[[.AE [],AG 32]]).take (s.bs.length+2)=s.bs++[xc]++[[.AE [],AG 32]]:=CV AA;have JF:(s.bs++[xc]++[[.AE [],AG 32]]).take s.bs.length=s.bs:=AD;have ZR:(s.bs++[xc]).length=s.bs.length+1:=AD;rw[ZR];generalize s.bs++[xc]++[[.AE [],AG 32]]=b2 at gE tZ hs2 hlen hX JF;obtain⟨w,s',⟨d',OD,q1,q2,q3,rfl⟩,q4⟩:=hH.run (s.bs.length+1) (.agg xc) hxO ⟨b2,s.ts⟩ hs2 (CT (env R) 14 0 0 0) (.AE []) rfl rfl gE (.inl rfl);refine Af tZ c1 ⟨_,_,q4,?_⟩;have hs3:BP ⟨b2.set (s.bs.length+1) [d',AG ((32:Nat):Int)],OD⟩:=BP.set (s:=⟨b2,s.ts⟩) hs2 (by simp[Ag,Ax,q2.A4.Ax]) _;have VK:(b2.set (s.bs.length+1) [d',AG ((32:Nat):Int)]).take s.bs.length=s.bs:=(Cy AA).trans JF;have Su:(b2.set (s.bs.length+1) [d',AG ((32:Nat):Int)])[s.bs.length+1]?=some [d',AG ((32:Nat):Int)]:=BZ gE;have iV:(b2.set (s.bs.length+1) [d',AG ((32:Nat):Int)]).length=s.bs.length+2:=AB
   have hch:Ck (.AE []) (.AE []) s.ts OD:=by
    obtain⟨h1,h2,h3⟩:=q3;exact⟨h1,λt ht _=>h2 t ht (λh=>by cases h),.inl rfl⟩
   generalize b2.set (s.bs.length+1) [d',AG ((32:Nat):Int)]=b3 at hs3 VK Su iV;cases r with
   | none=>
    cases q1;exact CO rfl (CO rfl (nt (A1 (fail 4 _ rfl b3 OD hs3 VK AA hch))))
   | some ps=>
    obtain⟨ya,rfl,WS⟩:=q1;simp only at q2;have LK:=hH.few ps rfl;have hps:=hH.pat ps rfl;have hB:=hH.bds;refine CO rfl (CO rfl (nt (Ar (AQ5 (Au (n:=ps.length) (by rw[WS.BD,Ab,Bv,Bt]) ?_)))));have hBb:=hH.len;refine ACV hn (n:=s.bs.length+2) (X:=b3) AA hB LK hps WS Su q2.A4 (O7:=OD) ?_ ?_ ps.length 0 b3 OD (.AE []) (.AE []) AA hs3 (CV AA) AA (.inl ⟨rfl,rfl⟩) (.inl rfl) rfl AD (Ck.refl _ _) (DW.AE _ _)
    .intro hall bs tk h1 h2 h3 h4
     have h5:bs.take s.bs.length=s.bs:=AB;refine fail 4 _ ?_ bs tk h1 h5 AA (hch.trans h4)
     grind[xO]
    .intro hall bs tk t7 t8 h1 h2 h3 h4 h6 h7
     have h5:bs.take s.bs.length=s.bs:=AB;have uy:=hH.sub ps rfl
     have hfl:((ps.map (JY B)).flatMap Br.bounds).length<=6*32:=by
      have:∀l:List Br,l.all Md=true->(l.flatMap Br.bounds).length<=6*l.length:=by
       intro l
       induction l with
       | nil=>simp
       | cons b l ihl=>
        grind[Md]
      grind
     refine AQ6 (AH (QN (X:=X) h7 AA (λb hb _=>(uy b hb).1) (λb hb=>(uy b hb).2)) ?_);rintro _ rfl;refine nt ?_;cases Km:(((ps.map (JY B)).flatMap Br.bounds).all λb=>Cs (X b)) with
     | false=>
      refine A1 (fail 4 _ ?_ bs tk h1 h5 AA (hch.trans h4))
      grind[xO]
     | true=>
      refine Ar (AQ7 ?_);simp only[xO,hall,Km,Ft,AN];exact⟨t7,rfl,h6.mono AA λj c _ h=>h,h5,AA,hch.trans h4,h1⟩
theorem Vf (hn:MY R):∀(f:Nat) (t:Ty),depth t<=f->size t<2 ^ 60->RB t->(verdict t=0->Fit t)->XOk R t (xP f t):=by
 intro f
 induction f with
 | zero=>
  intro t hd;obtain⟨k,n,i,ts⟩:=t
  grind[depth]
 | succ f ih=>
  intro t hd hsz hok hfit;have ho:=sK (R:=R) hn (X:=xP f) (t:=t) (r:=(BE (Aa 32) (depth t) t []).1) (B:=(BE (Aa 32) (depth t) t []).2) hsz hok ?_
  .rw[xP]
   revert ho;rcases BE (Aa 32) (depth t) t [] with ⟨_|ps,B⟩
   .exact λho=>ho
   .exact λho=>ho
  intro TP hc;obtain⟨hv,AE2,AQ3⟩:=DX TP;have hft:=hfit TP;have yM:=λ(e:Nat)=>fC (R:=R) hn (e:=e) (A6:=32) (M:=nb t) AK AK hft.nbs (depth t) t [] (AY _) hv hc (ZI hft.wts AK) AA [] (λx hx=>by grind)
  have hnb:=ACJ (depth t) t [] [] hv hc hft.bws (λx hx=>by grind);have hall:=Iw (BC:=Aa 32) (depth t) t [] (nb t) (qM (nb t));have hbd:=Oo (f:=depth t) hv hc;have Og:=LV (BC:=Aa 32) AR (depth t) t [];rw[Ej hv hc] at yM hnb;rw[LX t hv] at yM
  have js:FD (λi=>qM (nb t) i&&decide (i<(([]:List Ty).length:Nat))) t=true:=by
   have:=Iz (q:=λi=>qM (nb t) i&&decide (i<(([]:List Ty).length:Nat))) (σ:=[]) (λx hx=>by grind) t 0 hv
   grind[Ej]
  rcases he:BE (Aa 32) (depth t) t [] with ⟨r,B⟩
  rw[he] at yM hnb hall hbd Og;simp only[B6,CI] at hnb;simp only at yM hall hbd Og
  have hB:∀b∈B,size b<2 ^ 38/\SJ b=true:=by
   intro b hb;have h1:=hbd b hb;exact⟨by have:=h1.Ko; omega,sJ h1.val h1.cl⟩
  have hpt:∀ps,r=some ps->∀p∈ps,size p<2 ^ 37/\GC B.length p=true:=by
   rintro ps rfl p hp;obtain⟨h1,h2⟩:=hall ps (λi h1 h2=>by grind) js rfl hnb p hp;refine⟨by have:=hft.wts; omega,?_⟩
   obtain⟨h3,_⟩:=Iw (BC:=Aa 32) (depth t) t [] B.length (qM B.length) ps (λi h1 h2=>by grind) (by
    have:=Iz (q:=λi=>qM B.length i&&decide (i<(([]:List Ty).length:Nat))) (σ:=[]) (λx hx=>by grind) t 0 hv
    grind[Ej]) (by rw[he]) AB p hp
   rw[Nt];exact h3
  refine⟨λe=>yM e hnb,ZI hnb hft.nbs,hB,λps hps=>by grind,hpt,?_⟩
  .rintro ps rfl b hb
   have h8:Wx t b:=by
    obtain⟨br,af,hb⟩:=Nc.1 hb;obtain⟨p,hp,rfl⟩:=Cv.1 af;have:=(hpt ps rfl p hp).2
    grind[ACU]
   exact⟨by have:=h8.Ko; omega,ih b (by have:=h8.dep; omega) (by have:=h8.Ko; omega) (Ji b h8.val) (λ_=>hft.sub h8)⟩
end
mutual
def YR:Ty->Bool
 | .mk k n i ts=>bif k==5 then n==[]&&(ts.isEmpty&&(decide (-(2 ^ 60)<=i)&&decide (i<2 ^ 60))) else bif k==2||k==3 then RX ts else true
def RX:List Ty->Bool
 | []=>true
 | t::l=>YR t&&RX l
end
theorem Td {n:List UInt8} {i:Int} {ts:List Ty} (h:YR (.mk 5 n i ts)=true):n=[]/\ts=[]/\-(2 ^ 60)<=i/\i<2 ^ 60:=by grind[YR]
theorem Vg (f:Int->Ty):∀l:List Ty,Bq f l=l.map (Bh f)
 | []=>rfl
 | t::l=>by rw[Bq,Vg f l]; rfl
section
variable {R:RT}
theorem Gs (i:Int):Ae (env R) 25 [AG i] λr=>r=.agg [AG 5,SS [],AG i,.AE []]:=by
 refine e25 (u0:=AG i) AD (AQ8 (Bm (HO (cs:=[AG 5,SS [],AG i,.AE []]) rfl ?_)));refine Bn (old:=Z4) rfl rfl rfl AK (AO _) rfl (.inl (AO _)) (Af (cs:=[AG 5,SS [],AG i,.AE []]) rfl rfl ?_);exact⟨_,AD,rfl⟩
theorem ME (i:Int):A8 (var i) (.agg [AG 5,SS [],AG i,.AE []]):=⟨_,rfl,.AE _⟩
theorem HC {s:AQ} {id:Nat} {t:Ty} {cs old:List AV} {Post:AV->Prop} (h1:s.bs[id]?=some old) (ho:old.length=4) (hr:BH t (.agg cs)) (hP:∀r,A8 t r->Post r) {f:FuncId} :
  HM (CT (env R) f 0 0 0) s 4 (.ptr id 0) (.agg cs) λs1=>Df (env R) s1 (some 4) (.ptr id 0) λr=>QP Post r s1:=by
 obtain⟨c1,c2,c3⟩:=hr.cells;refine Bn h1 c1 ho AK (AO _) c2 (.inl (AO _)) (Af (BZ h1) c1 ?_);obtain⟨r,h3,h4⟩:=hr.closed (s.bs.set id cs) 0;exact⟨r,h3,hP r h4⟩
theorem ACX {ts:List Ty} {a:AV} (ha:A0 a (AZ ts)) (hl:ts.length<2 ^ 37) {k i n m:Int} {nm:List UInt8} {g:Ty->Ty} (ih:∀t∈ts,Ae (env R) 82 [.agg ((Ah t).map .pv),AG n,AG m] λr=>A8 (g t) r) {Post:AV->Prop} (hP:∀r,A8 (.mk k nm i (ts.map g)) r->Post r) :
  ∀(j q:Nat) (s:AQ) (b:AV),q+j=ts.length->s.bs[0]?=some [AG k,SS nm,AG i,a]->s.bs[1]?=some Z4->s.bs[2]?=some [AG k,SS nm,AG i,b]->Dn 0 s.ts 25 b (AZ ((ts.take q).map g)) ->
   AE3 R 0 0 0 (AG n) (AG m) (.ptr 0 0) (.ptr 1 0) (.ptr 2 0) (AG q) s (QP Post):=by
 intro j
 induction j with
 | zero=>
  intro q s b hi h0 h1 h2 hb;refine AE4 (AM (AU h0) (AX (off:=3) h0 rfl (Au (n:=ts.length) (by rw[ha.BD,Ab]) (Ao ?_))));rw[A2 AA];rw[CV AA] at hb;exact Ar (AQ9 (Af h2 rfl (HC h1 rfl (t:=.mk k nm i (ts.map g)) ⟨b,rfl,hb.A4⟩ hP)))
 | succ j D9=>
  intro q s b hi h0 h1 h2 hb;refine AE4 (AM (AU h0) (AX (off:=3) h0 rfl (Au (n:=ts.length) (by rw[ha.BD,Ab]) (Ao ?_))));rw[Aq AA];obtain⟨t,ht⟩:∃t,ts[q]?=some t:=⟨_,Ay AA⟩;refine A1 (ARA (AM (AU h2) (AX (off:=3) h2 rfl (AM (AU h0) (AX (off:=3) h0 rfl (BR ha (row:=Ah t) AA (by grind[BL]) (Aj t) AA (Ce ?_)))))));refine AH (ih t (A5 ht)) ?_;intro v hv;refine Er hv.Fy ⟨AK,aF hb rfl AB ?_⟩;intro b' GJ hb';have hqt:(ts.take q).map g++[g t]=(ts.take (q+1)).map g:=by grind[List.take_add_one]
  rw[hqt] at hb';refine AM (AU h2) (C3 h2 AD hb'.A4.cells (AO _) hb'.A4.ok (.inl (AO _)) ?_);refine⟨AM (AU h2) (DL _ _),AX (off:=3) h2 rfl (Gr hb),ARB (Be AA AA ?_)⟩;have:=D9 (q+1) ⟨s.bs.set 2 [AG k,SS nm,AG i,b'],GJ⟩ b' AA (BV h0 AK) (BV h1 AK) (BZ h2) hb'
  grind
mutual
theorem SM (n m:Int):∀(t:Ty),size t<2 ^ 37->YR t=true->∀(x:AV),A8 t x->Ae (env R) 82 [x,AG n,AG m] λr=>A8 (JE n m t) r
 | .mk k nm i ts,h,hv,x,hx=>by
  obtain⟨a,rfl,ha⟩:=hx;simp only[size] at h;have hln:=BS ts
  suffices H:∀Post:AV->Prop,(∀r,A8 (JE n m (.mk k nm i ts)) r->Post r)->AE5 R 0 0 0 (.agg [AG k,SS nm,AG i,a]) (AG n) (AG m) ⟨[],[]⟩ (QP Post) from
   e82 (u0:=.agg [AG k,SS nm,AG i,a]) (u1:=AG n) (u2:=AG m) (by simp[ha.close]) (H _ λr h=>h)
  intro Post hP;refine ARC (Bu (cs:=[AG k,SS nm,AG i,a]) rfl (by simp[ha.ok]) (Bm ?_));simp only[Cc,B6,DD,B4,CI];have g0:(AQ.mk [[AG k,SS nm,AG i,a],Z4] []).bs[0]?=some [AG k,SS nm,AG i,a]:=rfl;have g1:(AQ.mk [[AG k,SS nm,AG i,a],Z4] []).bs[1]?=some Z4:=rfl;refine AM (AU g0) (AX (off:=0) g0 rfl (Av ?_));cases h5:(k==5) with
  | true=>
   have:k=5:=AB;subst this;obtain⟨rfl,rfl,_,_⟩:=Td hv;rw[JE,Bh] at hP;refine A1 (AM (AU g0) (AX (off:=2) g0 rfl (Av ?_)));cases hin:(i==n) with
   | true=>
    rw[hin] at hP;refine A1 (AH (Gs m) ?_);rintro _ rfl;exact HC g1 rfl (t:=var m) (ME m).Fy hP
   | false=>
    rw[hin] at hP;exact Ar (ARD (Af g0 rfl (HC g1 rfl (t:=var i) ⟨a,rfl,.inl ha⟩ hP)))
  | false=>
   rw[YR,h5] at hv;simp only[AL] at hv;rw[JE,Bh,h5] at hP;simp only[AL] at hP;refine Ar (ARF (AM (AU g0) (AX (off:=0) g0 rfl (EB ?_))))
   have copy:(k==2||k==3)=true->AE6 R 0 0 0 (AG n) (AG m) (.ptr 0 0) (.ptr 1 0) ⟨[[AG k,SS nm,AG i,a],Z4],[]⟩ (QP Post):=by
    intro hk;rw[hk] at hv hP;simp only[AN,Vg] at hv hP;refine ARG (Af g0 rfl (Bm (Bn (Az _ _) rfl rfl AK (AO _) (by simp[ha.ok]) (.inl (AO _)) ?_)))
    show DY ⟨[[AG k,SS nm,AG i,a],Z4,[AG k,SS nm,AG i,a]],[]⟩ _ _ _
    have g2:(AQ.mk [[AG k,SS nm,AG i,a],Z4,[AG k,SS nm,AG i,a]] []).bs[2]?=some [AG k,SS nm,AG i,a]:=rfl;refine AM (AU g2) (C3 (off:=3) g2 AD rfl (AO _) rfl (.inl (AO _)) ?_);exact ACX (g:=JE n m) ha AA (QS n m ts AA hv) (λr h=>hP r h) ts.length 0 _ (.AE []) AA rfl rfl rfl (.inl rfl)
   cases h3:(k==3) with
   | true=>
    simp_all
   | false=>
    have:(k != 3)=true:=AB;rw[this];refine Ak (AM (AU g0) (Ak (AX (off:=0) g0 rfl (Ak (EB (pk ?_))))));cases h2:(k==2) with
    | true=>
     simp_all
    | false=>
     have:(k != 2)=true:=AB;simp only[this,AN];rw[h2,h3] at hP;exact A1 (Af g0 rfl (HC g1 rfl (t:=.mk k nm i ts) ⟨a,rfl,.inl ha⟩ hP))
theorem QS (n m:Int):∀(l:List Ty),Ac l<2 ^ 37->RX l=true->∀t∈l,Ae (env R) 82 [.agg ((Ah t).map .pv),AG n,AG m] λr=>A8 (JE n m t) r
 | [],_,_,_,h=>by cases h
 | e::l,h,hv,t,hm=>by
  simp only[Ac] at h;simp only[RX,AI] at hv;rcases A3.1 hm with h' | h'
  .rw[h']
   exact SM n m e AA hv.1 _ (A8.Bk e)
  .exact QS n m l AA hv.2 t h'
end
end
section
variable {R:RT}
def OpC (R:RT) (op n:Int) (g:Ty->Ty) (t:Ty):Prop:=
 (op=0/\Ae (env R) 112 [.agg ((Ah t).map .pv),AG n] λr=>A8 (g t) r)\/(op=1/\Ae (env R) 97 [.agg ((Ah t).map .pv)] λr=>A8 (g t) r)\/(op=2/\Ae (env R) 128 [.agg ((Ah t).map .pv),AG n] λr=>A8 (g t) r)
theorem ACY {op n:Int} {ts:List Ty} {a:AV} (ha:A0 a (AZ ts)) (hl:ts.length<2 ^ 37) {k i:Int} {nm:List UInt8} {g:Ty->Ty} (ih:∀t∈ts,OpC R op n g t) {Post:AV->Prop} (hP:∀r,A8 (.mk k nm i (ts.map g)) r->Post r) :
  ∀(j q:Nat) (s:AQ) (b:AV),q+j=ts.length->s.bs[0]?=some [AG k,SS nm,AG i,a]->s.bs[1]?=some Z4->s.bs[2]?=some [AG k,SS nm,AG i,b]->Dn 0 s.ts 25 b (AZ ((ts.take q).map g)) ->
   yN R 0 0 0 (AG op) (AG n) (.ptr 0 0) (.ptr 1 0) (.ptr 2 0) (AG q) s (QP Post):=by
 intro j
 induction j with
 | zero=>
  intro q s b hi h0 h1 h2 hb;refine yO (AM (AU h0) (AX (off:=3) h0 rfl (Au (n:=ts.length) (by rw[ha.BD,Ab]) (Ao ?_))));rw[A2 AA];rw[CV AA] at hb;exact Ar (AJf (Af h2 rfl (HC h1 rfl (t:=.mk k nm i (ts.map g)) ⟨b,rfl,hb.A4⟩ hP)))
 | succ j D9=>
  intro q s b hi h0 h1 h2 hb;refine yO (AM (AU h0) (AX (off:=3) h0 rfl (Au (n:=ts.length) (by rw[ha.BD,Ab]) (Ao ?_))));rw[Aq AA];obtain⟨t,ht⟩:∃t,ts[q]?=some t:=⟨_,Ay AA⟩
  have fin:∀v,A8 (g t) v->GY false s 4 [(AG 0),(SS []),(AG 0),(.AE [])] 1 [(0,4,v)] λa51 AJg=>(4=4/\4≠0)/\HB false (CT (env R) 127 0 0 0) s 25 4 56 b a51 λa52 ARH=>DY ARH (.ptr 2 0) 3 λa53=>HM (CT (env R) 127 0 0 0) ARH 1 a53 a52 λjr=>
    (DY s (.ptr 2 0) 3 λv=>Tel.C1 v (.ptr 2 (0+3))=true)/\(Df (env R) s none (.ptr 2 (0+3)) λvx4=>Tel.C1 vx4 b=true)/\yP R 0 0 0 (AG op) (AG n) (.ptr 0 0) (.ptr 1 0) (.ptr 2 0) (AG q) jr (QP Post):=by
   intro v hv;refine Er hv.Fy ⟨AK,aF hb rfl AB ?_⟩;intro b' GJ hb';have hqt:(ts.take q).map g++[g t]=(ts.take (q+1)).map g:=by grind[List.take_add_one]
   rw[hqt] at hb';refine AM (AU h2) (C3 h2 AD hb'.A4.cells (AO _) hb'.A4.ok (.inl (AO _)) ?_);refine⟨AM (AU h2) (DL _ _),AX (off:=3) h2 rfl (Gr hb),AJh (Be AA AA ?_)⟩;have:=D9 (q+1) ⟨s.bs.set 2 [AG k,SS nm,AG i,b'],GJ⟩ b' AA (BV h0 AK) (BV h1 AK) (BZ h2) hb'
   grind
  refine A1 (AJi (Av ?_));rcases ih t (A5 ht) with ⟨rfl,hc⟩|⟨rfl,hc⟩|⟨rfl,hc⟩
  .exact A1 (AM (AU h2) (AX (off:=3) h2 rfl (AM (AU h0) (AX (off:=3) h0 rfl (BR ha (row:=Ah t) AA (by grind[BL]) (Aj t) AA (Ce (AH hc fin)))))))
  .exact Ar (Av (A1 (AM (AU h2) (AX (off:=3) h2 rfl (AM (AU h0) (AX (off:=3) h0 rfl (BR ha (row:=Ah t) AA (by grind[BL]) (Aj t) AA (Ce (AH hc fin)))))))))
  .exact Ar (Av (Ar (AM (AU h2) (AX (off:=3) h2 rfl (AM (AU h0) (AX (off:=3) h0 rfl (BR ha (row:=Ah t) AA (by grind[BL]) (Aj t) AA (Ce (AH hc fin)))))))))
theorem ag {op n:Int} {g:Ty->Ty} {k i:Int} {nm:List UInt8} {ts:List Ty} (hl:ts.length<2 ^ 37) (ih:(k==2||k==3)=true->∀t∈ts,OpC R op n g t) {x:AV} (hx:A8 (.mk k nm i ts) x):Ae (env R) 127 [x,AG op,AG n] λr=>A8 (bif k==2||k==3 then .mk k nm i (ts.map g) else .mk k nm i ts) r:=by
 obtain⟨a,rfl,ha⟩:=hx
 suffices H:∀Post:AV->Prop,(∀r,A8 (bif k==2||k==3 then .mk k nm i (ts.map g) else .mk k nm i ts) r->Post r)->yQ R 0 0 0 (.agg [AG k,SS nm,AG i,a]) (AG op) (AG n) ⟨[],[]⟩ (QP Post) from
  AaZ (u0:=.agg [AG k,SS nm,AG i,a]) (u1:=AG op) (u2:=AG n) (by simp[ha.close]) (H _ λr h=>h)
 intro Post hP;refine AJj (Bu (cs:=[AG k,SS nm,AG i,a]) rfl (by simp[ha.ok]) (Bm ?_));simp only[Cc,B6,DD,B4,CI];have g0:(AQ.mk [[AG k,SS nm,AG i,a],Z4] []).bs[0]?=some [AG k,SS nm,AG i,a]:=rfl;have g1:(AQ.mk [[AG k,SS nm,AG i,a],Z4] []).bs[1]?=some Z4:=rfl
 have copy:(k==2||k==3)=true->yR R 0 0 0 (AG op) (AG n) (.ptr 0 0) (.ptr 1 0) ⟨[[AG k,SS nm,AG i,a],Z4],[]⟩ (QP Post):=by
  intro hk;rw[hk] at hP;simp only[AN] at hP;refine AJk (Af g0 rfl (Bm (Bn (Az _ _) rfl rfl AK (AO _) (by simp[ha.ok]) (.inl (AO _)) ?_)))
  show DY ⟨[[AG k,SS nm,AG i,a],Z4,[AG k,SS nm,AG i,a]],[]⟩ _ _ _
  have g2:(AQ.mk [[AG k,SS nm,AG i,a],Z4,[AG k,SS nm,AG i,a]] []).bs[2]?=some [AG k,SS nm,AG i,a]:=rfl;refine AM (AU g2) (C3 (off:=3) g2 AD rfl (AO _) rfl (.inl (AO _)) ?_);exact ACY (g:=g) ha hl (ih hk) (λr h=>hP r h) ts.length 0 _ (.AE []) AA rfl rfl rfl (.inl rfl)
 refine AM (AU g0) (AX (off:=0) g0 rfl (EB ?_));cases h3:(k==3) with
 | true=>
  simp_all
 | false=>
  have:(k != 3)=true:=AB;rw[this];refine Ak (AM (AU g0) (Ak (AX (off:=0) g0 rfl (Ak (EB (pk ?_))))));cases h2:(k==2) with
  | true=>
   simp_all
  | false=>
   have:(k != 2)=true:=AB;simp only[this,AN];rw[h2,h3] at hP;exact A1 (Af g0 rfl (HC g1 rfl (t:=.mk k nm i ts) ⟨a,rfl,.inl ha⟩ hP))
theorem RY {f:Int->Ty} {k i:Int} {nm:List UInt8} {ts:List Ty} (h5:(k==5)=false):Bh f (.mk k nm i ts)=bif k==2||k==3 then .mk k nm i (ts.map (Bh f)) else .mk k nm i ts:=by grind[Bh,Vg]
theorem Vh {k i:Int} {nm:List UInt8} {ts:List Ty} (h5:(k==5)=false) (h:YR (.mk k nm i ts)=true):(k==2||k==3)=true->RX ts=true:=by grind[YR]
mutual
theorem Ow {n:Nat} (hn:n<2 ^ 60):∀(t:Ty),size t<2 ^ 37->YR t=true->∀(x:AV),A8 t x->Ae (env R) 112 [x,AG n] λr=>A8 (Hr n t) r
 | .mk k nm i ts,h,hv,x,hx=>by
  have hx0:=hx;obtain⟨a,rfl,ha⟩:=hx;simp only[size] at h;have hln:=BS ts;have hma:=λh5:(k==5)=false=>ag (R:=R) (op:=0) (n:=n) (g:=Hr n) AA (λhk t ht=>.inl ⟨rfl,SN hn ts AA (Vh h5 hv hk) t ht⟩) hx0
  suffices H:∀Post:AV->Prop,(∀r,A8 (Hr n (.mk k nm i ts)) r->Post r)->yS R 0 0 0 (.agg [AG k,SS nm,AG i,a]) (AG n) ⟨[],[]⟩ (QP Post) from
   Aaa (u0:=.agg [AG k,SS nm,AG i,a]) (u1:=AG n) (by simp[ha.close]) (H _ λr h=>h)
  intro Post hP;refine AJl (Bu (cs:=[AG k,SS nm,AG i,a]) rfl (by simp[ha.ok]) (Bm ?_));simp only[Cc,B6,DD,B4,CI];have g0:(AQ.mk [[AG k,SS nm,AG i,a],Z4] []).bs[0]?=some [AG k,SS nm,AG i,a]:=rfl;have g1:(AQ.mk [[AG k,SS nm,AG i,a],Z4] []).bs[1]?=some Z4:=rfl;refine AM (AU g0) (AX (off:=0) g0 rfl (Av ?_));cases h5:(k==5) with
  | true=>
   have:k=5:=AB;subst this;obtain⟨rfl,rfl,uK,hi1⟩:=Td hv;rw[Hr,Bh] at hP;have same:(∀r,A8 (var i) r->Post r)->yT R 0 0 0 (.ptr 0 0) (.ptr 1 0) ⟨[[AG 5,SS [],AG i,a],Z4],[]⟩ (QP Post):=λhP=>yU (Af g0 rfl (HC g1 rfl (t:=var i) ⟨a,rfl,.inl ha⟩ hP))
   refine A1 (AM (AU g0) (AX (off:=2) g0 rfl (L9 ?_)))
   by_cases h0:0<=i
   .have e0:i>=0:=h0
    rw[Aq e0];rw[Aq h0] at hP;refine Ak (AM (AU g0) (Ak (AX (off:=2) g0 rfl (Ak (EB (pk ?_))))));cases hh:(i==hole) with
    | true=>
     have:(i != 1073741824)=false:=by
      have:(i==1073741824)=true:=hh
      grind
     simp_all
    | false=>
     have:(i != 1073741824)=true:=by
      have:(i==1073741824)=false:=hh
      grind
     simp only[this,AN];rw[hh] at hP;refine A1 (AM (AU g0) (AX (off:=2) g0 rfl (Be AA AA (AM (AU g0) (C3 (off:=2) g0 AD rfl (AO _) rfl (.inl (AO _)) ?_)))));have td:(AQ.mk ([[AG 5,SS [],AG i,a],Z4].set 0 ([AG 5,SS [],AG i,a].set 2 (AG (i+n)))) []).bs[0]?=some [AG 5,SS [],AG (i+n),a]:=rfl;have g1':(AQ.mk ([[AG 5,SS [],AG i,a],Z4].set 0 ([AG 5,SS [],AG i,a].set 2 (AG (i+n)))) []).bs[1]?=some Z4:=rfl;exact yU (Af td rfl (HC g1' rfl (t:=var (i+n)) ⟨a,rfl,.inl ha⟩ hP))
   grind[Bf,pk,Ar]
  | false=>
   rw[Hr,RY h5] at hP;refine Ar (AJm (Af g0 rfl (AH (hma h5) ?_)));intro r hr;obtain⟨rc,rfl⟩:=hr.Fy.agg;exact HC g1 rfl hr.Fy hP
theorem SN {n:Nat} (hn:n<2 ^ 60):∀(l:List Ty),Ac l<2 ^ 37->RX l=true->∀t∈l,Ae (env R) 112 [.agg ((Ah t).map .pv),AG n] λr=>A8 (Hr n t) r
 | [],_,_,_,h=>by cases h
 | e::l,h,hv,t,hm=>by
  simp only[Ac] at h;simp only[RX,AI] at hv;rcases A3.1 hm with h' | h'
  .rw[h']
   exact Ow hn e AA hv.1 _ (A8.Bk e)
  .exact SN hn l AA hv.2 t h'
end
mutual
theorem YS:∀(t:Ty),size t<2 ^ 37->YR t=true->∀(x:AV),A8 t x->Ae (env R) 97 [x] λr=>A8 (rM t) r
 | .mk k nm i ts,h,hv,x,hx=>by
  have hx0:=hx;obtain⟨a,rfl,ha⟩:=hx;simp only[size] at h;have hln:=BS ts;have hma:=λh5:(k==5)=false=>ag (R:=R) (op:=1) (n:=0) (g:=rM) AA (λhk t ht=>.inr (.inl ⟨rfl,Vi ts AA (Vh h5 hv hk) t ht⟩)) hx0
  suffices H:∀Post:AV->Prop,(∀r,A8 (rM (.mk k nm i ts)) r->Post r)->AE7 R 0 0 0 (.agg [AG k,SS nm,AG i,a]) ⟨[],[]⟩ (QP Post) from
   e97 (u0:=.agg [AG k,SS nm,AG i,a]) (by simp[ha.close]) (H _ λr h=>h)
  intro Post hP;refine ARI (Bu (cs:=[AG k,SS nm,AG i,a]) rfl (by simp[ha.ok]) (Bm ?_));simp only[Cc,B6,DD,B4,CI];have g0:(AQ.mk [[AG k,SS nm,AG i,a],Z4] []).bs[0]?=some [AG k,SS nm,AG i,a]:=rfl;have g1:(AQ.mk [[AG k,SS nm,AG i,a],Z4] []).bs[1]?=some Z4:=rfl;refine AM (AU g0) (AX (off:=0) g0 rfl (Av ?_));cases h5:(k==5) with
  | true=>
   have:k=5:=AB;subst this;obtain⟨rfl,rfl,uK,hi1⟩:=Td hv;rw[rM,Bh] at hP;refine A1 (AM (AU g0) (AX (off:=2) g0 rfl (I7 AA AA (AH (Gs (-1-i)) ?_))));rintro _ rfl;exact HC g1 rfl (t:=var (-1-i)) (ME _).Fy hP
  | false=>
   rw[rM,RY h5] at hP;refine Ar (ARJ (Af g0 rfl (AH (hma h5) ?_)));intro r hr;obtain⟨rc,rfl⟩:=hr.Fy.agg;exact HC g1 rfl hr.Fy hP
theorem Vi:∀(l:List Ty),Ac l<2 ^ 37->RX l=true->∀t∈l,Ae (env R) 97 [.agg ((Ah t).map .pv)] λr=>A8 (rM t) r
 | [],_,_,_,h=>by cases h
 | e::l,h,hv,t,hm=>by
  simp only[Ac] at h;simp only[RX,AI] at hv;rcases A3.1 hm with h' | h'
  .rw[h']
   exact YS e AA hv.1 _ (A8.Bk e)
  .exact Vi l AA hv.2 t h'
end
mutual
theorem YT (n:Nat):∀(t:Ty),size t<2 ^ 37->YR t=true->∀(x:AV),A8 t x->Ae (env R) 128 [x,AG n] λr=>A8 (Hw n t) r
 | .mk k nm i ts,h,hv,x,hx=>by
  have hx0:=hx;obtain⟨a,rfl,ha⟩:=hx;simp only[size] at h;have hln:=BS ts;have hma:=λh5:(k==5)=false=>ag (R:=R) (op:=2) (n:=n) (g:=Hw n) AA (λhk t ht=>.inr (.inr ⟨rfl,Vj n ts AA (Vh h5 hv hk) t ht⟩)) hx0
  suffices H:∀Post:AV->Prop,(∀r,A8 (Hw n (.mk k nm i ts)) r->Post r)->yV R 0 0 0 (.agg [AG k,SS nm,AG i,a]) (AG n) ⟨[],[]⟩ (QP Post) from
   Aab (u0:=.agg [AG k,SS nm,AG i,a]) (u1:=AG n) (by simp[ha.close]) (H _ λr h=>h)
  intro Post hP;refine AJn (Bu (cs:=[AG k,SS nm,AG i,a]) rfl (by simp[ha.ok]) (Bm ?_));simp only[Cc,B6,DD,B4,CI];have g0:(AQ.mk [[AG k,SS nm,AG i,a],Z4] []).bs[0]?=some [AG k,SS nm,AG i,a]:=rfl;have g1:(AQ.mk [[AG k,SS nm,AG i,a],Z4] []).bs[1]?=some Z4:=rfl;refine AM (AU g0) (AX (off:=0) g0 rfl (Av ?_));cases h5:(k==5) with
  | true=>
   have:k=5:=AB;subst this;obtain⟨rfl,rfl,uK,hi1⟩:=Td hv;rw[Hw,Bh] at hP;refine A1 (AM (AU g0) (AX (off:=2) g0 rfl (Av ?_)));cases hm1:(i==-1) with
   | true=>
    rw[hm1] at hP;refine A1 (AH (Gs n) ?_);rintro _ rfl;exact HC g1 rfl (t:=var n) (ME _).Fy hP
   | false=>
    rw[hm1] at hP;refine Ar (AM (AU g0) (AX (off:=2) g0 rfl (Ao ?_)))
    by_cases h0:i<0
    .rw[Aq h0] at hP ⊢
     refine A1 (AM (AU g0) (AX (off:=2) g0 rfl (Be AA AA (AH (Gs (i+1)) ?_))));rintro _ rfl;exact HC g1 rfl (t:=var (i+1)) (ME _).Fy hP
    .rw[A2 h0] at hP ⊢
     exact Ar (AJo (Af g0 rfl (HC g1 rfl (t:=var i) ⟨a,rfl,.inl ha⟩ hP)))
  | false=>
   rw[Hw,RY h5] at hP;refine Ar (AJp (Af g0 rfl (AH (hma h5) ?_)));intro r hr;obtain⟨rc,rfl⟩:=hr.Fy.agg;exact HC g1 rfl hr.Fy hP
theorem Vj (n:Nat):∀(l:List Ty),Ac l<2 ^ 37->RX l=true->∀t∈l,Ae (env R) 128 [.agg ((Ah t).map .pv),AG n] λr=>A8 (Hw n t) r
 | [],_,_,_,h=>by cases h
 | e::l,h,hv,t,hm=>by
  simp only[Ac] at h;simp only[RX,AI] at hv;rcases A3.1 hm with h' | h'
  .rw[h']
   exact YT n e AA hv.1 _ (A8.Bk e)
  .exact Vj n l AA hv.2 t h'
end
end
section
variable {R:RT}
theorem ACZ {ts:List Ty} {a:AV} (ha:A0 a (AZ ts)) (hl:ts.length<2 ^ 37) {n i:Int} {nm:List UInt8} {p:Int->Bool} (ih:∀t∈ts,Ae (env R) 105 [.agg ((Ah t).map .pv),AG n] λr=>r=BB (oA p t)) {s:AQ} (g0:s.bs[0]?=some [AG 2,SS nm,AG i,a]) {Post:AV->Prop} (hP:Post (BB (UZ p ts))) :
  ∀(j q:Nat),q+j=ts.length->UZ p (ts.drop q)=UZ p ts->yW R 0 0 0 (AG n) (.ptr 0 0) (AG q) s (QP Post):=by
 intro j
 induction j with
 | zero=>
  intro q hi ho;refine j5 (AM (AU g0) (AX (off:=0) g0 rfl (Av (Ak (Ak (AM (AU g0) (Ak (AX (off:=3) g0 rfl (Ak (Au (n:=ts.length) (by rw[ha.BD,Ab]) (Ak (Ao (pk ?_)))))))))))));rw[A2 AA];rw[CA AA,UZ] at ho;rw[<-ho] at hP;exact Ar (yX ⟨_,GX,hP⟩)
 | succ j D9=>
  intro q hi ho;refine j5 (AM (AU g0) (AX (off:=0) g0 rfl (Av (Ak (Ak (AM (AU g0) (Ak (AX (off:=3) g0 rfl (Ak (Au (n:=ts.length) (by rw[ha.BD,Ab]) (Ak (Ao (pk ?_)))))))))))));rw[Aq AA];obtain⟨t,ht⟩:∃t,ts[q]?=some t:=⟨_,Ay AA⟩;rw[drop_cons ht,UZ] at ho;refine A1 (AJq (AM (AU g0) (AX (off:=3) g0 rfl (BR ha (row:=Ah t) AA (by simp[*,BL]) (Aj t) AA (Ce (AH (ih t (A5 ht)) ?_))))));rintro _ rfl;cases tQ:oA p t with
  | true=>
   rw[tQ] at ho;rw[<-ho] at hP;exact A1 ⟨_,GX,hP⟩
  | false=>
   rw[tQ] at ho;refine Ar (AJr (Be AA AA ?_));have:=D9 (q+1) AA (by simpa using ho);simpa using this
mutual
theorem nY (n:Int):∀(t:Ty),size t<2 ^ 37->∀(x:AV),A8 t x->Ae (env R) 105 [x,AG n] λr=>r=BB (oA (·==n) t)
 | .mk k nm i ts,h,x,hx=>by
  obtain⟨a,rfl,ha⟩:=hx;simp only[size] at h;have hln:=BS ts
  suffices H:∀Post:AV->Prop,Post (BB (oA (·==n) (.mk k nm i ts)))->yY R 0 0 0 (.agg [AG k,SS nm,AG i,a]) (AG n) ⟨[],[]⟩ (QP Post) from
   Aac (u0:=.agg [AG k,SS nm,AG i,a]) (u1:=AG n) (by simp[ha.close]) (H _ rfl)
  intro Post hP;refine AJs (Bu (cs:=[AG k,SS nm,AG i,a]) rfl (by simp[ha.ok]) ?_);simp only[Cc,B6];have g0:(AQ.mk [[AG k,SS nm,AG i,a]] []).bs[0]?=some [AG k,SS nm,AG i,a]:=rfl;refine AM (AU g0) (AX (off:=0) g0 rfl (Av ?_));rw[oA] at hP;cases h5:(k==5) with
  | true=>
   rw[h5] at hP;exact A1 (AM (AU g0) (AX (off:=2) g0 rfl (Av ⟨_,GX,hP⟩)))
  | false=>
   rw[h5] at hP;refine Ar (AJt ?_);cases h2:(k==2) with
   | true=>
    have:k=2:=AB;subst this;exact ACZ (p:=(·==n)) ha AA (fJ n ts AA) g0 hP ts.length 0 AA rfl
   | false=>
    rw[h2] at hP;refine j5 (AM (AU g0) (AX (off:=0) g0 rfl (Av ?_)));rw[h2];exact Bf (Bf (Bf (Bf (Bf (pk (Ar (yX ⟨_,GX,hP⟩)))))))
theorem fJ (n:Int):∀(l:List Ty),Ac l<2 ^ 37->∀t∈l,Ae (env R) 105 [.agg ((Ah t).map .pv),AG n] λr=>r=BB (oA (·==n) t)
 | [],_,_,h=>by cases h
 | e::l,h,t,hm=>by
  simp only[Ac] at h;rcases A3.1 hm with h' | h'
  .rw[h']
   exact nY n e AA _ (A8.Bk e)
  .exact fJ n l AA t h'
end
theorem ACa {ts:List Ty} {a:AV} (ha:A0 a (AZ ts)) (hl:ts.length<2 ^ 37) {n i:Int} {nm:List UInt8} {p:Int->Bool} (ih:∀t∈ts,Ae (env R) 66 [.agg ((Ah t).map .pv),AG n] λr=>r=BB (oI p t)) {s:AQ} (g0:s.bs[0]?=some [AG 3,SS nm,AG i,a]) {Post:AV->Prop} (hP:Post (BB (KJ p ts))) :
  ∀(j q:Nat),q+j=ts.length->KJ p (ts.drop q)=KJ p ts->AE8 R 0 0 0 (AG n) (.ptr 0 0) (AG q) s (QP Post):=by
 intro j
 induction j with
 | zero=>
  intro q hi ho;refine yZ (AM (AU g0) (AX (off:=0) g0 rfl (Av (Ak (Ak (AM (AU g0) (Ak (AX (off:=3) g0 rfl (Ak (Au (n:=ts.length) (by rw[ha.BD,Ab]) (Ak (Ao (pk ?_)))))))))))));rw[A2 AA];rw[CA AA,KJ] at ho;rw[<-ho] at hP;exact Ar (AE9 ⟨_,GX,hP⟩)
 | succ j D9=>
  intro q hi ho;refine yZ (AM (AU g0) (AX (off:=0) g0 rfl (Av (Ak (Ak (AM (AU g0) (Ak (AX (off:=3) g0 rfl (Ak (Au (n:=ts.length) (by rw[ha.BD,Ab]) (Ak (Ao (pk ?_)))))))))))));rw[Aq AA];obtain⟨t,ht⟩:∃t,ts[q]?=some t:=⟨_,Ay AA⟩;rw[drop_cons ht,KJ] at ho;refine A1 (ARK (AM (AU g0) (AX (off:=3) g0 rfl (BR ha (row:=Ah t) AA (by simp[*,BL]) (Aj t) AA (Ce (AH (ih t (A5 ht)) ?_))))));rintro _ rfl;cases tQ:oI p t with
  | true=>
   rw[tQ] at ho;rw[<-ho] at hP;exact A1 ⟨_,GX,hP⟩
  | false=>
   rw[tQ] at ho;refine Ar (ARL (Be AA AA ?_));have:=D9 (q+1) AA (by simpa using ho);simpa using this
mutual
theorem ah (n:Int):∀(t:Ty),size t<2 ^ 37->∀(x:AV),A8 t x->Ae (env R) 66 [x,AG n] λr=>r=BB (oI (·==n) t)
 | .mk k nm i ts,h,x,hx=>by
  have hoA:=nY (R:=R) n (.mk k nm i ts) h x hx;obtain⟨a,rfl,ha⟩:=hx;simp only[size] at h;have hln:=BS ts
  suffices H:∀Post:AV->Prop,Post (BB (oI (·==n) (.mk k nm i ts)))->AFA R 0 0 0 (.agg [AG k,SS nm,AG i,a]) (AG n) ⟨[],[]⟩ (QP Post) from
   e66 (u0:=.agg [AG k,SS nm,AG i,a]) (u1:=AG n) (by simp[ha.close]) (H _ rfl)
  intro Post hP;refine ARM (Bu (cs:=[AG k,SS nm,AG i,a]) rfl (by simp[ha.ok]) ?_);simp only[Cc,B6];have g0:(AQ.mk [[AG k,SS nm,AG i,a]] []).bs[0]?=some [AG k,SS nm,AG i,a]:=rfl;refine AM (AU g0) (AX (off:=0) g0 rfl (Av ?_));rw[oI] at hP;cases h2:(k==2) with
  | true=>
   rw[h2] at hP;refine A1 (Af g0 rfl (AH hoA ?_));rintro _ rfl;exact⟨_,GX,hP⟩
  | false=>
   rw[h2] at hP;refine Ar (ARN ?_);cases h3:(k==3) with
   | true=>
    have:k=3:=AB;subst this;exact ACa (p:=(·==n)) ha AA (fK n ts AA) g0 hP ts.length 0 AA rfl
   | false=>
    rw[h3] at hP;refine yZ (AM (AU g0) (AX (off:=0) g0 rfl (Av ?_)));rw[h3];exact Bf (Bf (Bf (Bf (Bf (pk (Ar (AE9 ⟨_,GX,hP⟩)))))))
theorem fK (n:Int):∀(l:List Ty),Ac l<2 ^ 37->∀t∈l,Ae (env R) 66 [.agg ((Ah t).map .pv),AG n] λr=>r=BB (oI (·==n) t)
 | [],_,_,h=>by cases h
 | e::l,h,t,hm=>by
  simp only[Ac] at h;rcases A3.1 hm with h' | h'
  .rw[h']
   exact ah n e AA _ (A8.Bk e)
  .exact fK n l AA t h'
end
theorem sL {L:BI} {s:AQ} {a y:AV} {l m:List Int} {K:AV->AQ->Prop} (ha:Dn 0 s.ts 3 a (Ad l)) (El:L.rt=0) (hl:l.length+m.length<2 ^ 40) (hy:BF y (Ad m)) (h:∀a' ts',Dn 0 ts' 3 a' (Ad (l++m))->Ck a a' s.ts ts'->K a' ⟨s.bs,ts'⟩) :
  HB false L s 3 1 8 a y K:=by
 have h1:=BU l;have h2:=BU m;refine RM (m:=Ad m) ha El Da Da AA (C9 hy Da) ?_ AA AA λa' ts' h3 h4=>h a' ts' (by grind[Ad]) h4
 rw[DE];intro c hc;obtain⟨p,hp,rfl⟩:=Cv.1 hc;obtain⟨r,hr,hpr⟩:=TB.1 hp;simp only[Ad,Cv] at hr;obtain⟨n,_,rfl⟩:=hr
 simp_all
theorem ACb {ts:List Ty} {a:AV} (ha:A0 a (AZ ts)) (hl:Ac ts<2 ^ 37) {i:Int} {nm:List UInt8} (ih:∀t∈ts,Ae (env R) 76 [.agg ((Ah t).map .pv)] λr=>A0 r (Ad (Al t))) {bs:List (List AV)} (g0:bs[0]?=some [AG 3,SS nm,AG i,a]) {Post:AV->Prop} (hP:∀r,A0 r (Ad (Bs ts))->Post r) :
  ∀(j q:Nat) (tk:List (Nat×Nat)) (b:AV) (l:List Int),q+j=ts.length->l++Bs (ts.drop q)=Bs ts->Dn 0 tk 3 b (Ad l)->AFB R 0 0 0 (.ptr 0 0) b (AG q) ⟨bs,tk⟩ (QP Post):=by
 have hln:=BS ts;have E6:=Oi ts;intro j
 induction j with
 | zero=>
  intro q tk b l hi ho hb;refine yd (AM (AU g0) (AX (off:=0) g0 rfl (Av (Ak (Ak (AM (AU g0) (Ak (AX (off:=3) g0 rfl (Ak (Au (n:=ts.length) (by rw[ha.BD,Ab]) (Ak (Ao (pk ?_)))))))))))));rw[A2 AA];rw[CA AA,Bs,Gy] at ho;subst ho;obtain⟨r,c1,c2⟩:=MA hb bs 0;exact Ar (AFC ⟨r,c1,hP r c2⟩)
 | succ j D9=>
  intro q tk b l hi ho hb;refine yd (AM (AU g0) (AX (off:=0) g0 rfl (Av (Ak (Ak (AM (AU g0) (Ak (AX (off:=3) g0 rfl (Ak (Au (n:=ts.length) (by rw[ha.BD,Ab]) (Ak (Ao (pk ?_)))))))))))));rw[Aq AA];obtain⟨t,ht⟩:∃t,ts[q]?=some t:=⟨_,Ay AA⟩;rw[drop_cons ht,Bs,<-Db] at ho;have hlen:(l++Al t).length<=(Bs ts).length:=AB;rw[Bo] at hlen;refine A1 (ARO (AM (AU g0) (AX (off:=3) g0 rfl (BR ha (row:=Ah t) AA (by grind[BL]) (Aj t) AA (Ce (AH (ih t (A5 ht)) ?_))))));intro v hv;refine⟨AK,sL hb rfl AA (.inl hv) λb' GJ hb' _=>ARP (Be AA AA ?_)⟩
  grind
mutual
theorem RZ:∀(t:Ty),size t<2 ^ 37->∀(x:AV),A8 t x->Ae (env R) 76 [x] λr=>A0 r (Ad (Al t))
 | .mk k nm i ts,h,x,hx=>by
  obtain⟨a,rfl,ha⟩:=hx;simp only[size] at h;have hln:=BS ts
  suffices H:∀Post:AV->Prop,(∀r,A0 r (Ad (Al (.mk k nm i ts)))->Post r)->AFD R 0 0 0 (.agg [AG k,SS nm,AG i,a]) ⟨[],[]⟩ (QP Post) from
   e76 (u0:=.agg [AG k,SS nm,AG i,a]) (by simp[ha.close]) (H _ λr h=>h)
  intro Post hP;refine ARQ (Bu (cs:=[AG k,SS nm,AG i,a]) rfl (by simp[ha.ok]) ?_);simp only[Cc,B6];have g0:(AQ.mk [[AG k,SS nm,AG i,a]] []).bs[0]?=some [AG k,SS nm,AG i,a]:=rfl;refine AM (AU g0) (AX (off:=0) g0 rfl (Av ?_));rw[Al] at hP;cases h5:(k==5) with
  | true=>
   rw[h5] at hP;refine A1 (AM (AU g0) (AX (off:=2) g0 rfl (QE ?_)));exact⟨_,(A0.AE _).close _ _ _,hP _ (by grind[Ad,A0.AE])⟩
  | false=>
   rw[h5] at hP;refine Ar (ARR ?_);cases h3:(k==3) with
   | true=>
    have:k=3:=AB;subst this;exact ACb ha AA (Vk ts AA) g0 hP ts.length 0 [] (.AE []) [] AA rfl (.inl rfl)
   | false=>
    rw[h3] at hP;refine yd (AM (AU g0) (AX (off:=0) g0 rfl (Av ?_)));rw[h3];exact Bf (Bf (Bf (Bf (Bf (pk (Ar (AFC ⟨_,(A0.AE _).close _ _ _,hP _ (.AE _)⟩)))))))
theorem Vk:∀(l:List Ty),Ac l<2 ^ 37->∀t∈l,Ae (env R) 76 [.agg ((Ah t).map .pv)] λr=>A0 r (Ad (Al t))
 | [],_,_,h=>by cases h
 | e::l,h,t,hm=>by
  simp only[Ac] at h;rcases A3.1 hm with h' | h'
  .rw[h']
   exact RZ e AA _ (A8.Bk e)
  .exact Vk l AA t h'
end
def YU (b:Ty):Int:=match Fh b with
 | some k=>k
 | none=>-1
theorem ACc {l:List Int} {y:AV} (hy:A0 y (Ad l)) (hl:l.length<2 ^ 40) {s:AQ} {Post:AV->Prop} (hP:Post (AG (match l.findIdx? (·==hole) with
   | some k=>k
   | none=>-1))):∀(j q:Nat),q+j=l.length->(∀x∈l.take q,(x==hole)=false)->yg R 0 0 0 y (AG q) s (QP Post):=by
 intro j
 induction j with
 | zero=>
  intro q hi ho;refine yh (Au (n:=l.length) (by rw[hy.BD,BU]) (Ao ?_));rw[A2 AA];rw[CV AA] at ho;have:l.findIdx? (·==hole)=none:=AB;rw[this] at hP;exact Ar (AJu ⟨_,GX,hP⟩)
 | succ j D9=>
  intro q hi ho;refine yh (Au (n:=l.length) (by rw[hy.BD,BU]) (Ao ?_));rw[Aq AA];obtain⟨c,hc⟩:∃t,l[q]?=some t:=⟨_,Ay AA⟩;refine A1 (AJv (BR hy (row:=[.sc (.int .i64 c)]) AA (by simp[*,Ad]) rfl AA (Ek (Av ?_))));cases hh:(c==hole) with
  | true=>
   have e1:(c==1073741824)=true:=hh;rw[e1]
   have:l.findIdx? (·==hole)=some q:=by
    obtain⟨hlt,hge⟩:=BA.1 hc;rw[lT];refine⟨hlt,AB,λj hj=>?_⟩;have:=ho l[j] (NT.2 ⟨j,AB,by rw[List.getElem_take]⟩)
    grind
   rw[this] at hP;exact A1 ⟨_,GX,hP⟩
  | false=>
   have e1:(c==1073741824)=false:=hh;rw[e1];refine Ar (AJw (Be AA AA ?_));have:=D9 (q+1) AA (λx hx=>by grind[List.take_add_one])
   grind
theorem J9 {b:Br} (h:size b.body<2 ^ 37) {x:AV} (hx:CU b x):Ae (env R) 129 [x] λr=>r=AG (YU b.body):=by
 obtain⟨x',h1,h2,h3⟩:=hx.closed;refine Ae.open (args':=[x']) AR AR rfl h1 h2 ?_;obtain⟨a,y,rfl,ha,hy⟩:=h3;obtain⟨h4,hok,hid,E6⟩:=hy.cells;refine Aad (u0:=.agg (a::y)) AA (AJx ?_);refine Bu (cs:=a::y) rfl (by simp[ha.ok]; grind) (AM (AU (c:=a) (cs:=y) rfl) ?_)
 show Df _ _ _ (.ptr 0 1) _
 refine aL rfl h4 (AH (RZ b.body h _ hy) ?_);intro v hv;have:=Gc b.body;exact ACc (Post:=λr=>r=AG (YU b.body)) hv AA (by rw[YU,Fh]) (Al b.body).length 0 AA (λx hx=>by grind)
end
mutual
def sM (b:Ty):Ty->Int->Ty
 | .mk c n i ts,k=>bif c==5 then(bif k==0 then b else .mk c n i ts) else bif c==3 then .mk c n i (Ra b ts k) else .mk c n i ts
def Ra (b:Ty):List Ty->Int->List Ty
 | [],_=>[]
 | t::l,k=>sM b t k::Ra b l (k-(Al t).length)
end
mutual
theorem nZ (b:Ty):∀(t:Ty) (k:Int),k<0\/((Al t).length:Int)<=k->sM b t k=t
 | .mk c n i ts,k,h=>by
  rw[Al] at h;rw[sM];cases h5:c==5 with
  | true=>
   grind
  | false=>
   cases h3:c==3 with
   | true=>
    rw[h5,h3] at h;simp only[AN,AL] at h ⊢;rw[Vl b ts k h]
   | false=>rfl
theorem Vl (b:Ty):∀(l:List Ty) (k:Int),k<0\/((Bs l).length:Int)<=k->Ra b l k=l
 | [],_,_=>rfl
 | t::l,k,h=>by
  rw[Bs,Bo] at h;rw[Ra,nZ b t k AA,Vl b l (k-(Al t).length) AA]
end
mutual
theorem yj (b:Ty):∀(t:Ty) (k:Nat),k<(Al t).length->sM b t k=M3 b t k
 | .mk c n i ts,k,h=>by
  rw[Al] at h;rw[sM,M3];cases h5:c==5 with
  | true=>
   grind
  | false=>
   cases hc:c==3 with
   | true=>
    rw[h5,hc] at h;simp only[AN,AL] at h ⊢;rw[ng b ts k h]
   | false=>rfl
theorem ng (b:Ty):∀(l:List Ty) (k:Nat),k<(Bs l).length->Ra b l k=HU b l k
 | [],_,h=>by rfl
 | t::l,k,h=>by
  rw[Bs,Bo] at h;rw[Ra,HU]
  by_cases hk:k<(Al t).length
  .rw[Aq hk,AN,yj b t k hk,Vl b l _ AA]
  .have:(k:Int)-((Al t).length:Nat)=((k-(Al t).length:Nat):Int):=by omega
   rw[A2 hk,AL,nZ b t k AA,this,ng b l (k-(Al t).length) AA]
end
section
variable {R:RT}
def yl (R:RT) (C:Nat) (b:Ty) (y:AV) (x:AV) (t:Ty) (k:Int) (s:AQ):Prop:=∀(L:BI),L.ro=0->L.rt=0->s.bs[C]?=some [AG k] ->
 ∃w s',(∃ts' ds,w=.agg ds/\BH (sM b t k) (.agg ds)/\Ck (.AE []) (.AE []) s.ts ts'/\s'=⟨s.bs.set C [AG (k-(Al t).length)],ts'⟩)/\BG (env R) L 111 [x,.ptr C 0,y] s w s'
theorem ACd {C:Nat} {b:Ty} {yc:List AV} {ts:List Ty} {a:AV} (ha:BF a (AZ ts)) (hl:Ac ts<2 ^ 38) {k i k0:Int} {n:List UInt8} (Te:-(2 ^ 40)-2 ^ 38<=k0-Ac ts) (hk2:k0<2 ^ 40) {s0:AQ} (hs0:BP s0) (hC:C<s0.bs.length) (hyl:yc.length=4)
  (ih:∀t∈ts,∀(k:Int) (s:AQ),BP s->-(2 ^ 40)-2 ^ 38<=k-size t->k<2 ^ 40->yl R C b (.agg yc) (.agg ((Ah t).map .pv)) t k s)
  {rr:Bool} {Post:AV->AQ->Prop}
  (hP:∀ts' ds,Ck (.AE []) (.AE []) s0.ts ts'->BH (.mk k n i (Ra b ts k0)) (.agg ds)->Post (.agg ds) ⟨s0.bs.set C [AG (k0-(Bs ts).length)],ts'⟩) :
  ∀(j q:Nat) (kc:Int) (done:List Ty) (bs:List (List AV)) (tk:List (Nat×Nat)) (acc:AV),q+j=ts.length->done++Ra b (ts.drop q) kc=Ra b ts k0->done.length=q->kc-(Bs (ts.drop q)).length=k0-(Bs ts).length->k0-Ac ts<=kc-Ac (ts.drop q)->kc<2 ^ 40 ->
   BP ⟨bs,tk⟩->bs.take s0.bs.length=s0.bs.set C [AG kc]->bs[s0.bs.length]?=some [AG k,SS n,AG i,a]->bs[s0.bs.length+1]?=some yc->bs[s0.bs.length+2]?=some Z4->bs[s0.bs.length+3]?=some [AG k,SS n,AG i,acc] ->
   Dn 0 tk 25 acc (AZ done)->Ck (.AE []) (.AE []) s0.ts tk->DW acc s0.ts ->
   j6 R 0 0 0 (.ptr C 0) (.ptr s0.bs.length 0) (.ptr (s0.bs.length+1) 0) (.ptr (s0.bs.length+2) 0) (.ptr (s0.bs.length+3) 0) (AG q) ⟨bs,tk⟩ (QM rr s0.bs.length Post):=by
 have Sj:=BS ts;intro j
 induction j with
 | zero=>
  intro q kc done bs tk acc hi hd hdl hk hks MU hs hT h0 h1 h2 h3 hb hch hfr;refine ym (AM (AU h0) (AX (off:=3) h0 rfl (Au (n:=ts.length) (by rw[ha.BD,Ab]) (Ao ?_))));rw[A2 AA];rw[CA AA,Ra,Gy] at hd;rw[CA AA,Bs] at hk;rw[hd] at hb;refine Ar (AJy (Af h3 rfl (Bn h2 rfl rfl AK (AO _) (by simp[hb.A4.ok]) (.inl (AO _)) (Af (BZ h2) rfl ?_))));obtain⟨ds,c1,c2⟩:=BH.Ih (v:=.mk k n i (Ra b ts k0)) (cs:=[AG k,SS n,AG i,acc]) ⟨acc,rfl,hb.A4⟩ (bs.set (s0.bs.length+2) [AG k,SS n,AG i,acc]) s0.bs.length tk.length;have hkc:kc=k0-(Bs ts).length:=AB;rw[hkc] at hT;exact eH hs0 ((Cy AA).trans hT) rfl c1 (hP tk ds hch c2)
 | succ j D9=>
  intro q kc done bs tk acc hi hd hdl hk hks MU hs hT h0 h1 h2 h3 hb hch hfr;refine ym (AM (AU h0) (AX (off:=3) h0 rfl (Au (n:=ts.length) (by rw[ha.BD,Ab]) (Ao ?_))));rw[Aq AA];obtain⟨t,ht⟩:∃t,ts[q]?=some t:=⟨_,Ay AA⟩;have VE:=A5 ht;have iI:=ih t VE;have hdr:ts.drop q=t::ts.drop (q+1):=drop_cons ht;rw[hdr,Ra] at hd;rw[hdr,Bs,Bo] at hk;rw[hdr,Ac] at hks;have hcs:=Gc t;have l3:=(BA.1 h3).1;have gC:(s0.bs.set C [AG kc])[C]?=some [AG kc]:=by rw[Ca hC]
  refine A1 (AJz (AM (AU h3) (AX (off:=3) h3 rfl (AM (AU h0) (AX (off:=3) h0 rfl (BX ha (row:=Ah t) AA (by grind[BL]) (Aj _) AA (Ce (Af h1 hyl ?_))))))));obtain⟨w,s',⟨ts',ds,rfl,r4,r2,rfl⟩,r6⟩:=iI kc ⟨bs,tk⟩ hs AA MU (CT (env R) 111 0 0 0) rfl rfl (CN hT gC);have h0':(bs.set C [AG (kc-(Al t).length)])[s0.bs.length]?=some [AG k,SS n,AG i,a]:=BV h0 AA;have bV:(bs.set C [AG (kc-(Al t).length)])[s0.bs.length+1]?=some yc:=BV h1 AA;have h2':(bs.set C [AG (kc-(Al t).length)])[s0.bs.length+2]?=some Z4:=BV h2 AA;have h3':(bs.set C [AG (kc-(Al t).length)])[s0.bs.length+3]?=some [AG k,SS n,AG i,acc]:=BV h3 AA;refine⟨_,_,r6,Er r4 ⟨AK,Ja (r2.keep hb (λ_ h=>by cases h)) rfl AA ?_⟩⟩;intro b' GJ hb' LH;refine AM (AU h3') (C3 h3' AD hb'.A4.cells (AO _) hb'.A4.ok (.inl (AO _)) ?_);refine⟨AM (AU h3') (DL _ _),AX (off:=3) h3' rfl (Gr hb),AJ0 (Be AA AA ?_)⟩;have rV:((bs.set C [AG (kc-(Al t).length)]).set (s0.bs.length+3) [AG k,SS n,AG i,b']).take s0.bs.length=s0.bs.set C [AG (kc-(Al t).length)]:=by simp[*,Cy,EY]
  have hs2:BP ⟨bs.set C [AG (kc-(Al t).length)],ts'⟩:=BP.set (s:=⟨bs,tk⟩) hs rfl _
  have fin:=D9 (q+1) (kc-(Al t).length) (done++[sM b t kc]) _ GJ b' AA (by simp[*]) AB AA AA AA
   (BP.set (s:=⟨bs.set C [AG (kc-(Al t).length)],ts'⟩) hs2 (by simp[Ag,Ax,hb'.A4.Ax]) _) rV (BV h0' AA) (BV bV AA) (BV h2' AA) (BZ h3')
   hb' ((hch.trans r2).side LH hfr) (hfr.QF LH (BM hch.1 r2.1))
  grind
mutual
theorem nj {C:Nat} {b:Ty} {y:AV} (hy:A8 b y):∀(t:Ty),size t<2 ^ 38->∀(x:AV),BH t x->∀(k:Int) (s:AQ),BP s->-(2 ^ 40)-2 ^ 38<=k-size t->k<2 ^ 40->yl R C b y x t k s
 | .mk k n i ts,h,x,hx,kc,s,hs,Te,hk2,L,hro,El,hC=>by
  have lC:=(BA.1 hC).1;have Sj:=BS ts;simp only[size] at h Te;obtain⟨yc,rfl⟩:=hy.Fy.agg;have hy':=hy;obtain⟨xA,hyo,hyi,_⟩:=hy'.cells;have hxi:=hx;obtain⟨a,rfl,ha⟩:=hx;refine Aae (by simp[C7,FR]) ?_;rw[hro,El];have same:s.bs.set C [AG kc]=s.bs:=by grind[List.set_getElem_self]
  refine AJ1 (Bu (cs:=[AG k,SS n,AG i,a]) rfl (by simp[ha.ok]) (Bu (cs:=yc) rfl hyo (Bm ?_)));simp only[Db,DD,Cc,Bo,B4,B6,CI,Nat.reduceAdd];have g0:(s.bs++[[AG k,SS n,AG i,a],yc,Z4])[s.bs.length]?=some [AG k,SS n,AG i,a]:=Et (j:=0) rfl rfl;have g1:(s.bs++[[AG k,SS n,AG i,a],yc,Z4])[s.bs.length+1]?=some yc:=Et rfl rfl;have g2:(s.bs++[[AG k,SS n,AG i,a],yc,Z4])[s.bs.length+2]?=some Z4:=Et rfl rfl;have hT:(s.bs++[[AG k,SS n,AG i,a],yc,Z4]).take s.bs.length=s.bs.set C [AG kc]:=AB
  have hok:BP ⟨s.bs++[[AG k,SS n,AG i,a],yc,Z4],s.ts⟩:=by
   intro d hd;simp only[B7,A3,D4,D5] at hd
   show Ag (s.bs++_).length d=true
   rcases hd with hd|rfl|rfl|rfl
   .exact Bg AD d (hs d hd)
   .simp[Ag,Ax,ha.Ax]
   .exact Bg (AO _) _ hyi
   rfl
  have hl:(s.bs++[[AG k,SS n,AG i,a],yc,Z4]).length=s.bs.length+3:=AD;generalize s.bs++[[AG k,SS n,AG i,a],yc,Z4]=bs at g0 g1 g2 hT hok hl;have gC:bs[C]?=some [AG kc]:=CN hT AB
  have back:∀(kd:Int) (bs:List (List AV)) (Post:AV->AQ->Prop),bs.take s.bs.length=s.bs.set C [AG kd]->bs[s.bs.length]?=some [AG k,SS n,AG i,a]->bs[s.bs.length+2]?=some Z4 ->
    (∀ds,BH (.mk k n i ts) (.agg ds)->Post (.agg ds) ⟨s.bs.set C [AG kd],s.ts⟩)->Df (env R) ⟨bs,s.ts⟩ (some 4) (.ptr s.bs.length 0) λa26=>HM (CT (env R) 111 0 0 0) ⟨bs,s.ts⟩ 4 (.ptr (s.bs.length+2) 0) a26 λfL=>Df (env R) fL (some 4) (.ptr (s.bs.length+2) 0) λr=>QM (L.rr 111) s.bs.length Post r fL:=by
   intro kd bs Post hT g0 g2 hP;refine Af g0 rfl (Bn g2 rfl rfl AK (AO _) (by simp[ha.ok]) (.inl (AO _)) (Af (BZ g2) rfl ?_));exact VH hs ((Cy AA).trans hT) rfl (t:=.mk k n i ts) ⟨a,rfl,ha⟩ hP
  refine AM (AU g0) (AX (off:=0) g0 rfl (Av ?_));cases h5:k==5 with
  | true=>
   have xE:sM b (.mk k n i ts) kc=bif kc==0 then b else .mk k n i ts:=by grind[sM]
   have xF:(Al (.mk k n i ts)).length=1:=by grind[Al]
   rw[xE,xF];refine A1 (C2 (AU gC) (AX (off:=0) gC rfl (I7 AA AA (C2 (AU gC) (C3 gC AD rfl (AO _) rfl (.inl (AO _)) ?_)))));have gC':(bs.set C [AG (kc-1)])[C]?=some [AG (kc-1)]:=by rw[Ca AA]
   have je:(bs.set C [AG (kc-1)]).take s.bs.length=s.bs.set C [AG (kc-1)]:=by simp[*,EY]
   refine C2 (AU gC') (AX (off:=0) gC' rfl (Av ?_));have e0:(kc-1==-1)=(kc==0):=AB;rw[e0];cases tM:kc==0 with
   | true=>
    simp only[AN];refine A1 (Af (BV g1 AA) xA (Bn (BV g2 AA) xA rfl AK (AO _) hyo (.inl (AO _)) (Af (BZ (BV g2 AA)) xA ?_)));refine VH hs ((Cy AA).trans je) rfl hy'.Fy λds hds=>⟨s.ts,ds,rfl,hds,Ck.refl _ _,rfl⟩
   | false=>
    simp only[AL];exact Ar (AJ2 (back (kc-1) _ _ je (BV g0 AA) (BV g2 AA) λds hds=>⟨s.ts,ds,rfl,hds,Ck.refl _ _,rfl⟩))
  | false=>
   refine Ar (AJ3 (AM (AU g0) (AX (off:=0) g0 rfl (EB ?_))));cases h3:k==3 with
   | false=>
    have hne:(k != 3)=true:=AB;rw[hne];have xE:sM b (.mk k n i ts) kc=.mk k n i ts:=by grind[sM]
    have xF:(Al (.mk k n i ts)).length=0:=by grind[Al]
    rw[xE,xF];exact A1 (back kc bs _ hT g0 g2 λds hds=>⟨s.ts,ds,rfl,hds,Ck.refl _ _,AD⟩)
   | true=>
    have hne:(k != 3)=false:=AB;rw[hne];have xE:sM b (.mk k n i ts) kc=.mk k n i (Ra b ts kc):=by grind[sM]
    have xF:Al (.mk k n i ts)=Bs ts:=by grind[Al]
    rw[xE,xF];refine Ar (AJ4 (Af g0 rfl (Bm ?_)));simp only[hl];have gl:(bs++[Z4])[s.bs.length+3]?=some Z4:=AB;refine Bn gl rfl rfl AK (AO _) (by simp[ha.ok]) (.inl (AO _)) ?_;have gl2:((bs++[Z4]).set (s.bs.length+3) [AG k,SS n,AG i,a])[s.bs.length+3]?=some [AG k,SS n,AG i,a]:=BZ gl;refine AM (AU gl2) (C3 (off:=3) gl2 (AY 4) rfl (AO _) rfl (.inl (AO _)) ?_);have eb:((bs++[Z4]).set (s.bs.length+3) [AG k,SS n,AG i,a]).set (s.bs.length+3) ([AG k,SS n,AG i,a].set 3 (.AE []))=bs++[[AG k,SS n,AG i,.AE []]]:=AB
    show j6 R 0 0 0 _ _ _ _ _ _ ⟨((bs++[Z4]).set (s.bs.length+3) [AG k,SS n,AG i,a]).set (s.bs.length+3) ([AG k,SS n,AG i,a].set 3 (.AE [])),s.ts⟩ _
    rw[eb]
    exact ACd (C:=C) (yc:=yc) ha AA (k0:=kc) AA hk2 hs lC xA (λt hm k s hs h1 h2=>fM hy' ts AA t hm k s hs h1 h2) (λts' ds h1 h2=>⟨ts',ds,rfl,h2,h1,rfl⟩) ts.length 0 kc [] _ s.ts (.AE []) AA AD rfl AD AD hk2
     (BP.app (s:=⟨bs,s.ts⟩) hok AR) ((ED AA _).trans hT) (Ap g0 _) (Ap g1 _) (Ap g2 _) AB (.inl rfl) (Ck.refl _ _) (DW.AE _ _)
theorem fM {C:Nat} {b:Ty} {y:AV} (hy:A8 b y):∀(ts:List Ty),Ac ts<2 ^ 38->∀t∈ts,∀(k:Int) (s:AQ),BP s->-(2 ^ 40)-2 ^ 38<=k-size t->k<2 ^ 40->yl R C b y (.agg ((Ah t).map .pv)) t k s
 | [],_,_,h=>by cases h
 | u::l,h,t,hm=>by
  simp only[Ac] at h;rcases A3.1 hm with h' | h'
  .rw[h']
   exact nj hy u AA _ (A8.Bk _).Fy
  .exact fM hy l AA t h'
end
end
theorem Ho {t:Ty} {cs:List AV} (h:BH t (.agg cs)):Tel.C1 (.agg cs) (.agg cs)=true:=by
 obtain⟨k,n,i,ts⟩:=t;obtain⟨a,he,ha⟩:=h
 grind[BF.C1,Tel.C1,Ij,Ni,Fa,Ic]
theorem nk {a:AV} {ds:List AV} {t:Ty} (ha:A7 a=true) (hc:cellsOf a=[a]) (h:BH t (.agg ds)):Ew Z5 [(0,1,a),(1,4,.agg ds)]=some (a::ds):=by
 obtain⟨c1,c2,_⟩:=h.cells
 match ds,c1,c2 with
 | [d1,d2,d3,d4],_,c2=>
  simp[*]
theorem Hp {E:Env} {s:AQ} {id:Nat} {a:AV} {cs:List AV} {K:AV->Prop} (hb:s.bs[id]?=some (a::cs)) (hk:cs.length=4) (h:K (.agg cs)):Df E s (some 4) (.ptr id (0+1)) K:=aL hb hk h
section
variable {R:RT}
theorem fN {n:Nat} (hn:n<2 ^ 60) {t:Ty} (h:size t<2 ^ 37) (hv:YR t=true) {x:AV} (hx:BH t x):Ae (env R) 112 [x,AG n] λr=>A8 (Hr n t) r:=by
 obtain⟨x',h1,h2⟩:=hx.closed [] 0;exact Ae.open (args':=[x',AG n]) AR AR rfl (by simp[*]) (by simp[BK,h2.G3,Tel.close]) (Ow hn t h hv x' h2)
theorem j7 {t:Ty} (h:size t<2 ^ 37) (hv:YR t=true) {x:AV} (hx:BH t x):Ae (env R) 97 [x] λr=>A8 (rM t) r:=by
 obtain⟨x',h1,h2⟩:=hx.closed [] 0;exact Ae.open (args':=[x']) AR AR rfl (by simp[*]) (by simp[BK,h2.G3]) (YS t h hv x' h2)
theorem j8 (n:Nat) {t:Ty} (h:size t<2 ^ 37) (hv:YR t=true) {x:AV} (hx:BH t x):Ae (env R) 128 [x,AG n] λr=>A8 (Hw n t) r:=by
 obtain⟨x',h1,h2⟩:=hx.closed [] 0;exact Ae.open (args':=[x',AG n]) AR AR rfl (by simp[*]) (by simp[BK,h2.G3,Tel.close]) (YT n t h hv x' h2)
theorem MF (n m:Int) {t:Ty} (h:size t<2 ^ 37) (hv:YR t=true) {x:AV} (hx:BH t x):Ae (env R) 82 [x,AG n,AG m] λr=>A8 (JE n m t) r:=by
 obtain⟨x',h1,h2⟩:=hx.closed [] 0;exact Ae.open (args':=[x',AG n,AG m]) AR AR rfl (by simp[*]) (by simp[BK,h2.G3,Tel.close]) (SM n m t h hv x' h2)
theorem yp (n:Int) {t:Ty} (h:size t<2 ^ 37) {x:AV} (hx:BH t x):Ae (env R) 66 [x,AG n] λr=>r=BB (oI (·==n) t):=by
 obtain⟨x',h1,h2⟩:=hx.closed [] 0;exact Ae.open (args':=[x',AG n]) AR AR rfl (by simp[*]) (by simp[BK,h2.G3,Tel.close]) (ah n t h x' h2)
theorem yq {s:AQ} {K:AV->AQ->Prop} (hK:K (.AE []) s):GY false s 4 [(AG 0),(SS []),(AG 0),(.AE [])] 0 [] K:=by
 simpa[GY,Fx,CJ] using hK
theorem nr {b c:Br} {k:Nat} (hk:k<(Al b.body).length) (iH:size b.body<2 ^ 37) (hsc:size c.body<2 ^ 37) (hvc:YR c.body=true) (Qh:b.bounds.length+c.bounds.length<2 ^ 38) {x y:AV} (hx:CU b x) (hy:CU c y) {s:AQ} (hs:BP s) {QR:QT}
  (hQ:∀row bs ts',CU (DV b k c) (.agg row)->BP ⟨bs,ts'⟩->bs.take s.bs.length=s.bs->s.bs.length<=bs.length->Ck (.AE []) (.AE []) s.ts ts'->QR (.agg row) ⟨bs,ts'⟩):AFE R 0 0 0 x (AG k) y s QR:=by
 obtain⟨xr,rfl⟩:=hx.agg;obtain⟨yr,rfl⟩:=hy.agg;obtain⟨xk1,xk2,xk3⟩:=hx.cells;obtain⟨yk1,yk2,yk3⟩:=hy.cells;obtain⟨xa,xb,hxe,VN,hxb⟩:=id hx;cases hxe;obtain⟨ya,yb,hye,WS,hyb⟩:=id hy;cases hye;obtain⟨xb1,xb2,_⟩:=hxb.cells;obtain⟨yb1,yb2,_⟩:=hyb.cells;refine ARS (Bu (cs:=xa::xb) rfl xk2 (Bu (cs:=[AG k]) rfl rfl (Bu (cs:=ya::yb) rfl yk2 (Bm ?_))));simp only[Db,DD,Cc,Bo,B4,B6,CI,Nat.reduceAdd];have g0:(s.bs++[xa::xb,[AG k],ya::yb,Z5])[s.bs.length]?=some (xa::xb):=Et (j:=0) rfl rfl;have g1:(s.bs++[xa::xb,[AG k],ya::yb,Z5])[s.bs.length+1]?=some [AG k]:=Et rfl rfl;have g2:(s.bs++[xa::xb,[AG k],ya::yb,Z5])[s.bs.length+2]?=some (ya::yb):=Et rfl rfl;have g3:(s.bs++[xa::xb,[AG k],ya::yb,Z5])[s.bs.length+3]?=some Z5:=Et rfl rfl;have hT:(s.bs++[xa::xb,[AG k],ya::yb,Z5]).take s.bs.length=s.bs:=AD;have hl:(s.bs++[xa::xb,[AG k],ya::yb,Z5]).length=s.bs.length+4:=AD
 have hok:BP ⟨s.bs++[xa::xb,[AG k],ya::yb,Z5],s.ts⟩:=by
  intro d hd;simp only[B7,A3,D4,D5] at hd
  show Ag (s.bs++_).length d=true
  rcases hd with hd|rfl|rfl|rfl|rfl
  .exact Bg AD d (hs d hd)
  .grind
  .rfl
  .grind
  rfl
 generalize s.bs++[xa::xb,[AG k],ya::yb,Z5]=bs at g0 g1 g2 g3 hT hl hok;refine yq (AM (AU g0) (AX (off:=0) g0 rfl ⟨AK,FG (es:=[]) (l:=b.bounds) (.inl rfl) rfl AB VN λa10 OD w1 w2=>?_⟩));rw[Cc] at w1;refine AM (AU g2) (AX (off:=0) g2 rfl ⟨AK,FG w1 rfl AA WS λtV KS v1 v2=>?_⟩);have AJ5:=fN (R:=R) (n:=b.bounds.length) AA hsc hvc hyb;refine AM (AU g0) (Hp g0 xb1 (AM (AU g2) (Hp g2 yb1 (AM (AU g0) (AX (off:=0) g0 rfl (Au (n:=b.bounds.length) (by rw[VN.BD,Ab]) (AH AJ5 ?_)))))));intro sv hsv;have aR:BP ⟨bs,KS⟩:=hok;have hcs:=Gc b.body;obtain⟨w,s',⟨Nu,ds,rfl,r4,r2,rfl⟩,r6⟩:=nj (R:=R) (C:=s.bs.length+1) hsv b.body AA (.agg xb) hxb k ⟨bs,KS⟩ aR AA AA (CT (env R) 78 0 0 0) rfl rfl g1;rw[yj _ _ _ hk] at r4;obtain⟨d1,d2,d3⟩:=r4.cells;have hF:DW (.AE []) s.ts:=DW.AE _ _;have rY:Ck (.AE []) a10 s.ts OD:=w2;have v1':=r2.keep v1 (λ_ h=>by cases h);have Aah:Ck (.AE []) (.AE []) s.ts Nu:=((Ck.refl (.AE []) s.ts).side w2 hF |>.side v2 (w2.VM)).trans r2;have td:=BV (b:=[AG ((k:Int)-(Al b.body).length)]) g0 (k:=s.bs.length+1) AA;have g3':=BV (b:=[AG ((k:Int)-(Al b.body).length)]) g3 (k:=s.bs.length+1) AA;have AI3:BP ⟨bs.set (s.bs.length+1) [AG ((k:Int)-(Al b.body).length)],Nu⟩:=BP.set (s:=⟨bs,KS⟩) aR rfl _;have EN:CU (DV b k c) (.agg (tV::ds)):=⟨tV,ds,rfl,v1.A4,r4⟩;obtain⟨q1,q2,q3⟩:=EN.cells;refine⟨_,_,r6,HO (nk v1.A4.ok v1.A4.cells r4) (QO g3' q1 (AO _) q2 (AO _) ?_)⟩;have sxa:Tel.C1 xa xa=true:=BF.C1 VN;have sya:Tel.C1 ya ya=true:=BF.C1 WS;have sxb:=Ho hxb;have syb:=Ho hyb;have f0:∀(ts:List (Nat×Nat)) d,DY ⟨bs,ts⟩ (.ptr s.bs.length 0) d λv=>Tel.C1 v (.ptr s.bs.length (0+d))=true:=λts d=>AM (AU g0) (DL _ _)
 have f2:∀(ts:List (Nat×Nat)) d,DY ⟨bs,ts⟩ (.ptr (s.bs.length+2) 0) d λv=>Tel.C1 v (.ptr (s.bs.length+2) (0+d))=true:=λts d=>AM (AU g2) (DL _ _)
 have eqn:∀n:Int,Tel.C1 (AG n) (AG n)=true:=λn=>by simp[Tel.C1,Ni,Fa]
 have lx:∀(ts:List (Nat×Nat)),Gk ⟨bs,ts⟩ xa λv=>Tel.C1 v (AG b.bounds.length)=true:=λts=>Au (n:=b.bounds.length) (by rw[VN.BD,Ab]) (eqn _)
 refine⟨f2 _ 0,AX (off:=0) g2 rfl sya,f0 _ 1,f0 _ 1,f0 _ 1,Hp g0 xb1 sxb,Hp g0 xb1 sxb,Hp g0 xb1 sxb,f2 _ 1,f2 _ 1,Hp g2 yb1 syb,Hp g2 yb1 syb,f0 _ 0,f0 _ 0,AX (off:=0) g0 rfl sxa,AX (off:=0) g0 rfl sxa,lx _,lx _,?_⟩;refine Af (BZ g3') q1 ?_;refine hQ (tV::ds) _ Nu EN (BP.set (s:=⟨_,Nu⟩) AI3 (q3 _) _) ?_ AB Aah
 grind[Cy]
theorem CU.Ih {b:Br} {row:List AV} (h:CU b (.agg row)) (bs:List (List AV)) (n m:Nat):∃r',BK bs n m row=some r'/\CU b (.agg r'):=by
 obtain⟨a,y,he,ha,ht⟩:=h;cases he;obtain⟨a',h1,h2⟩:=ha.close bs n m;obtain⟨y',h3,h4⟩:=ht.Ih bs n m;exact⟨a'::y',by simp[*],a',y',rfl,h2,h4⟩
theorem ART {rr:Bool} {b:Br} {row:List AV} {s0:AQ} {bs:List (List AV)} {ts:List (Nat×Nat)} {Post:AV->AQ->Prop} (h0:BP s0) (hT:bs.take s0.bs.length=s0.bs) (hb:CU b (.agg row)) (hP:∀r,CU b (.agg r)->Post (.agg r) ⟨s0.bs,ts⟩):QM rr s0.bs.length Post (.agg row) ⟨bs,ts⟩:=by
 obtain⟨r',h1,h2⟩:=hb.Ih bs s0.bs.length ts.length;refine aM (ds:=r') ?_ h1 ?_
 .rw[DE]
  intro c hc;exact h0 c AB
 grind
theorem j9 {b c:Br} {k:Nat} (hk:k<(Al b.body).length) (iH:size b.body<2 ^ 37) (hsc:size c.body<2 ^ 37) (hvc:YR c.body=true) (Qh:b.bounds.length+c.bounds.length<2 ^ 38) {x y:AV} (hx:CU b x) (hy:CU c y) {s:AQ} (hs:BP s) {L:BI} (hro:L.ro=0) (El:L.rt=0) :
  ∃v s',(∃ts',CU (DV b k c) v/\Ck (.AE []) (.AE []) s.ts ts'/\s'=⟨s.bs,ts'⟩)/\BG (env R) L 78 [x,AG k,y] s v s':=by
 cases hn:C7 [x,AG k,y] with
 | true=>
  have h0:BP ⟨[],[]⟩:=λb hb=>by grind
  obtain⟨v,hv,hc⟩:=e78 (R:=R) (Post:=λv=>CU (DV b k c) v) hn (nr hk iH hsc hvc Qh hx hy h0 λrow bs ts' h1 h2 h3 h4 h5=>by
   obtain⟨r',q1,q2⟩:=h1.Ih bs 0 0;exact⟨.agg r',by simp[*],q2⟩)
  exact⟨v,s,⟨s.ts,hv,Ck.refl _ _,rfl⟩,hc L s⟩
 | false=>
  refine m78 hn ?_
  grind[nr,ART]
end
theorem KA {n:Nat}:∀(a b:List AV),Ag n a=true->Ag n b=true->Ag n (a++b)=true
 | [],b,_,h=>h
 | x::a,b,h1,h2=>by
  simp only[Ag,AI] at h1;simp only[DD,Ag,h1.1,KA a b h1.2 h2,Ft]
theorem Eu.block {lo:Nat} {s:AQ} {l:List Br} {id:Nat} {rows:List (List AV)} (h2:s.bs[id]?=some rows.flatten) (h3:CE (λb row=>CU b (.agg row)) l rows) (h4:l≠[]):∃c cs,rows.flatten=c::cs/\(c::cs).length=l.length*5/\(c::cs).all A7=true/\(∀n,Ag n (c::cs)=true)/\alive s id=true:=by
 obtain⟨c1,c2,c3⟩:=IU h3
 have:rows.flatten≠[]:=by
  intro h;rw[h] at c1;cases l with
  | nil=>grind
  | cons _ _=>grind
 obtain⟨c,r,hc⟩:=Nd this
 grind[AU]
theorem ai {L:BI} {s:AQ} {lo:Nat} {a y:AV} {l r:List Br} (ha:Eu lo s.bs l a) (hy:Eu lo s.bs r y) (hro:L.ro=0) (hl:l.length+r.length<2 ^ 38) (hlo:lo<=s.bs.length) {K:AV->AQ->Prop}
  (h:∀a' bs',Eu lo bs' (l++r) a'->(∀j c,(∀n,a≠.ref j 0 n 5)->s.bs[j]?=some c->bs'[j]?=some c)->s.bs.length<=bs'.length->(BP s->BP ⟨bs',s.ts⟩)->K a' ⟨bs',s.ts⟩) :
  HB true L s 45 5 80 a y K:=by
 unfold HB;rcases hy with ⟨rfl,rfl⟩|⟨iy,ry,y1,rfl,y2,y3,y4⟩
 .have hsrc:Cz s 5 (.AE [])=some []:=rfl
  rw[hsrc];rw[Gy] at h;have hk:=h a s.bs ha (λj c _ hj=>hj) (AY _) (λh=>h);rcases ha with ⟨rfl,rfl⟩|⟨id,rows,h1,rfl,h2,h3,h4⟩
  .exact hk
  .obtain⟨c,cs,_,_,_,_,hal⟩:=Eu.block (lo:=lo) h2 h3 h4
   exact⟨hal,hk⟩
 .obtain⟨c,cs,hc,k1,k2,k3,hal⟩:=Eu.block (lo:=lo) y2 y3 y4
  rw[hc] at y2;have hsrc:Cz s 5 (.ref iy 0 r.length 5)=some (c::cs):=by grind[Cz]
  rw[hsrc];simp only[wO];have hdiv:(c::cs).length / 5=r.length:=AA;rw[hdiv];refine⟨k2,?_⟩;rcases ha with ⟨rfl,rfl⟩|⟨id,rows,h1,rfl,h2,h3,h4⟩
  .refine⟨⟨AA,AA,AD⟩,?_⟩
   simp only[AN,ZH,Cd,Cc];have e0:0+r.length=r.length:=AA;simp only[B6,e0];refine h (.ref s.bs.length 0 r.length 5) (s.bs++[c::cs]) (.inr ⟨s.bs.length,ry,hlo,rfl,AB,y3,y4⟩) (λj d _ hj=>Ap hj _) AD (λhs=>BP.app (s:=s) hs (k3 _))
  .obtain⟨r1,r2,r3⟩:=IU h3
   have Sd:=(BA.1 h2).1;obtain⟨_,_,_,_,_,_,AJc⟩:=Eu.block (lo:=lo) h2 h3 h4;simp only[h2];refine⟨⟨Ai,Ai,AA,AJc,AA,AA,AA⟩,?_⟩;have et:rows.flatten.take (l.length*5)=rows.flatten:=CV AA;rw[et];have sI:CE (λb row=>CU b (.agg row)) (l++r) (rows++ry):=CE.append h3 y3;refine h (.ref s.bs.length 0 (l.length+r.length) 5) (s.bs.set id []++[rows.flatten++(c::cs)]) (.inr ⟨s.bs.length,rows++ry,hlo,AD,?_,sI,by simp[h4]⟩) (λj d hn hj=>?_) AD (λhs=>?_)
   .grind
   .grind
   .have h5:BP ⟨s.bs.set id [],s.ts⟩:=BP.set (s:=s) hs AR _
    exact BP.app (s:=⟨s.bs.set id [],s.ts⟩) h5 (KA _ _ (r3 _) (k3 _))
theorem AJ6 {n:Nat} {X bs:List (List AV)} {ts:List (Nat×Nat)} {l:List Br} {v:AV} {Post:AV->AQ->Prop} (hn:X.length=n) (hX:∀b∈X,Ag n b=true) (hT:bs.take n=X) (hb:Eu n bs l v)
  (hP:∀v' bs',Eu n bs' l v'->bs'.take n=X->n<=bs'.length->BP ⟨bs',ts⟩->Post v' ⟨bs',ts⟩):QM true n Post v ⟨bs,ts⟩:=by
 have hok:((bs.take n).all (Ag n))=true:=AB
 have ARU:BP ⟨X,ts⟩:=by
  intro b hb
  grind
 rcases hb with ⟨rfl,rfl⟩|⟨id,rows,h1,rfl,h2,h3,h4⟩
 .refine⟨.AE [],⟨X,ts⟩,?_,hP _ X (.inl ⟨rfl,rfl⟩) AB AA ARU⟩
  grind[Hy,IC,Tel.close]
 .obtain⟨c,cs,hc,k1,k2,k3,hal⟩:=Eu.block (lo:=n) (s:=⟨bs,ts⟩) h2 h3 h4
  rw[hc] at h2;refine⟨.ref n 0 l.length 5,⟨X++[c::cs],ts⟩,?_,hP _ (X++[c::cs]) (.inr ⟨n,rows,AY _,rfl,AB,h3,h4⟩) AB AB (BP.app (s:=⟨X,ts⟩) ARU (k3 _))⟩
  grind[Hy,IC,Nat.ble_eq_true_of_le]
theorem Rb {R:RT} {s:AQ} {lo p:Nat} {l:List Br} {y:AV} {c:Br} (hy:Eu lo s.bs l y) (hc:l[p]?=some c) {K:AV->Prop} (hK:∀row,CU c (.agg row)->K (.agg row)):ND s 5 y (AG p) λa=>Df (env R) s (some 5) a K:=by
 rcases hy with ⟨rfl,rfl⟩|⟨id,rows,h1,rfl,h2,h3,h4⟩
 .grind
 .obtain⟨_,_,_,_,_,_,hal⟩:=Eu.block (lo:=lo) h2 h3 h4
  have hp:p<l.length:=(BA.1 hc).1;refine⟨⟨AA,AA,rfl,hal⟩,?_⟩;simp only[Df,h2,wO,DQ]
  have gen:∀(l:List Br) (rows:List (List AV)) (p:Nat) (c:Br),CE (λb row=>CU b (.agg row)) l rows->l[p]?=some c->∃row,CU c (.agg row)/\p*5+5<=rows.flatten.length/\(rows.flatten.drop (p*5)).take 5=row:=by
   intro l
   induction l with
   | nil=>simp
   | cons b l ih=>
    intro rows p c h hc;cases rows with
    | nil=>exact h.elim
    | cons row rows=>
     obtain⟨h1,h2⟩:=h;obtain⟨c1,_,_⟩:=h1.cells;cases p with
     | zero=>
      grind
     | succ p=>
      obtain⟨row',i1,i2,i3⟩:=ih rows p c h2 AB;refine⟨row',i1,AB,?_⟩;have e5:(p+1)*5=row.length+p*5:=AA;simp[*,List.drop_append,CA]
  grind
end Go.Proofs.YtpgfpakdnijngaaGreatDoor
