/-
  typeterm.Compare and Equal.
-/
import Derived.Test.YtpgfpakdnijngaaGreatDoorTE
import Derived.Test.YtpgfpakdnijngaaGreatDoorW1
import Derived.Test.YtpgfpakdnijngaaGreatDoorTD
set_option linter.all false
namespace Go.Proofs.YtpgfpakdnijngaaGreatDoor
open Go.Tel
attribute [local simp] Cl Bs Lf Lg AO Cw FJ wO setCells Ci FC Dn Dh Ax alive Cg GD I1 oU A8 DF BO Gx Dv Cz tM oV okB tN tP tQ tR tS eC tT tU tV tW tX tY tZ td th tj tq okF uA uB uC uD uE YE uF S0 S1 S2 S3 uG uH uI uJ rG uK uL uM uN uO Fz uP rH uQ uR uS uT uU uV uW uX uY uZ Co g0 g1 xI xL xM xF xG xC lf Y4 Y5
theorem cn:∀l:List UInt8,Op.bytesLess l l=false
 | []=>rfl
 | c::l=>by
  rw[Op.bytesLess,cn l];simp
theorem ALG {a b:List UInt8} {K:AV->Prop} (h:K (BB (Op.bytesLess a b))):GD .lss (SS a) (SS b) K:=h
theorem ALH {a b:List UInt8} {K:AV->Prop} (h:K (BB (!(Op.bytesLess a b||(a==b))))):GD .gtr (SS a) (SS b) K:=h
theorem ALI {a b:List UInt8} {K:AV->Prop} (h:K (BB (!(a==b)))):GD .neq (SS a) (SS b) K:=h
def lu:List Int->Int
 | []=>0
 | c::l=>bif c==0 then lu l else c
theorem cq:∀l:List Int,lu l=0<->∀c∈l,c=0
 | []=>by simp[lu]
 | c::l=>by
  rw[lu];cases h:c==0 with
  | true=>
   have:c=0:=by grind
   simp[cq l,this]
  | false=>
   simp_all
section
variable {R:RT}
theorem UH (w:List UInt8):AM (env R) 153 [SS w] λr=>r=BB false:=
 AW2 (u0:=SS w) (by simp) (ALJ (ALI ⟨_,Fz,by simp⟩))
theorem QZ (a b:Int):AM (env R) 132 [AB a,AB b] λr=>∃c:Int,r=AB c/\(c=0<->a=b):=by
 refine AW3 (u0:=AB a) (u1:=AB b) (by simp) (ALK ?_);refine AD (QY a) ?_;rintro v rfl;refine AD (QY b) ?_;rintro v rfl;refine Aq (ALL (Aq (ALM (Ai ?_))))
 by_cases h1:a<b
 .rw[Ap h1]
  exact BH ⟨_,Fz,-1,rfl,by omega⟩
 .rw[Aw h1]
  refine Aq (ALN (Gk ?_))
  by_cases h2:a>b
  .rw[Ap h2]
   exact BH ⟨_,Fz,1,rfl,by omega⟩
  .rw[Aw h2]
   exact Aq (ALO ⟨_,Fz,0,rfl,by omega⟩)
theorem pK (a b:List UInt8):AM (env R) 133 [SS a,SS b] λr=>∃c:Int,r=AB c/\(c=0<->a=b):=by
 refine AW4 (u0:=SS a) (u1:=SS b) (by simp) (ALP ?_);refine AD (UH a) ?_;rintro v rfl;refine AD (UH b) ?_;rintro v rfl;refine Aq (ALQ (Aq (ALR (ALG ?_))));cases h1:Op.bytesLess a b with
 | true=>
  refine BH ⟨_,Fz,-1,rfl,?_⟩
  grind[cn]
 | false=>
  refine Aq (ALS (ALH ?_));rw[h1];cases h2:(a==b) with
  | true=>exact Aq (ALT ⟨_,Fz,0,rfl,by grind⟩)
  | false=>exact BH ⟨_,Fz,1,rfl,by grind⟩
theorem ADa {l:List Int} {y:AV} (hy:BJ y (AW l)) (hl:l.length<2 ^ 40) {Post:AV->Prop} (hP:Post (AB (lu l))) :
  ∀(j p:Nat) (s:AL),p+j=l.length->lu (l.drop p)=lu l->Y1 R 0 0 0 (AB 0) y (AB l.length) (AB p) s (QP Post):=by
 intro j
 induction j with
 | zero=>
  intro p s hi ho;refine xJ (Ai ?_);rw[Aw (by omega)];rw[Bt (by omega),lu] at ho;exact Aq (ALU ⟨_,Fz,by grind⟩)
 | succ j D7=>
  intro p s hi ho;refine xJ (Ai ?_);rw[Ap (by omega)];obtain⟨c,hc⟩:∃c,l[p]?=some c:=⟨_,Ak (by omega)⟩;rw[drop_cons hc,lu] at ho;refine BH (ALV (BR hy (row:=[.sc (.int .i64 c)]) (by omega) (by grind[AW]) rfl (by omega) (El (FD ?_))));cases h:c==0 with
  | true=>
   have:(c != 0)=false:=by grind
   rw[this];rw[h] at ho;refine Aq (ALW (Ba (by omega) (by omega) ?_));have:=D7 (p+1) s (by omega) ho
   grind
  | false=>
   have:(c != 0)=true:=by grind
   rw[this];rw[h] at ho;exact BH ⟨_,Fz,by grind⟩
theorem ADb {l:List Int} {y:AV} (hy:Ao y (AW l)) (hl:l.length<2 ^ 40):AM (env R) 131 [y] λr=>r=AB (lu l):=by
 refine AW5 (u0:=y) (by simp[AX,hy.close]) (ALX (Al (n:=l.length) (by rw[hy.A9,BW]) ?_));exact ADa (Post:=λr=>r=AB (lu l)) (.inl hy) hl rfl l.length 0 _ (by omega) rfl
theorem AW6 {a b c d:Int} {s:AL} {K:AV->AL->Prop} (h:K (.AA (AW [a,b,c,d])) s):Ct false s 1 [(AB 0)] 4 [(0,1,AB a),(1,1,AB b),(2,1,AB c),(3,1,AB d)] K:=by
 simp[Ct,Fg,CR];exact h
theorem pM {k i k' i':Int} {n n':List UInt8} {ts ts':List Ty} {a a':AV} (ha:Ao a (AZ ts)) (J8:Ao a' (AZ ts')) (hl:ts.length<2 ^ 40) (he:ts.length=ts'.length)
  (ih:∀t∈ts,∀(t':Ty) (x x':AV),A7 t x->A7 t' x'->AM (env R) 104 [x,x'] λr=>∃c:Int,r=AB c/\(c=0<->t=t')) {s:AL} (g0:s.bs[0]?=some [AB k,SS n,AB i,a]) (g1:s.bs[1]?=some [AB k',SS n',AB i',a']) {Post:AV->Prop} (hP:∀c:Int,(c=0<->ts=ts')->Post (AB c)) :
  ∀(j p:Nat) (c:Int),p+j=ts.length->(c=0->ts.take p=ts'.take p)->(c≠0->ts≠ts')->UI R 0 0 0 (.ptr 0 0) (.ptr 1 0) (AB c) (AB p) s (QP Post):=by
 intro j
 have done:∀(p:Nat) (c:Int),c≠0->(c≠0->ts≠ts')->UI R 0 0 0 (.ptr 0 0) (.ptr 1 0) (AB c) (AB p) s (QP Post):=by
  intro p c hc h;refine Y2 (Ay ?_);have:(c==0)=false:=by grind
  rw[this];exact Bm (Bm (Bm (Bm (Bm (pk (Aq (hO ⟨_,Fz,hP c (by grind)⟩)))))))
 induction j with
 | zero=>
  intro p c hi h0 h1
  by_cases hc:c=0
  .subst hc
   refine Y2 (Ay (Am (Am (AK (AP g0) (Am (AU (off:=3) g0 rfl (Am (Al (n:=ts.length) (by rw[ha.A9,AQ]) (Am (Ai (pk ?_)))))))))));rw[Aw (by omega)];have:=h0 rfl;rw[CL (by omega),CL (by omega)] at this;exact Aq (hO ⟨_,Fz,hP 0 (by grind)⟩)
  grind
 | succ j D7=>
  intro p c hi h0 h1
  by_cases hc:c=0
  .subst hc
   refine Y2 (Ay (Am (Am (AK (AP g0) (Am (AU (off:=3) g0 rfl (Am (Al (n:=ts.length) (by rw[ha.A9,AQ]) (Am (Ai (pk ?_)))))))))));rw[Ap (by omega)];obtain⟨t,ht⟩:∃c,ts[p]?=some c:=⟨_,Ak (by omega)⟩;obtain⟨t',ht'⟩:∃c,ts'[p]?=some c:=⟨_,Ak (by omega)⟩;have hpre:=h0 rfl;refine BH (ALY (AK (AP g0) (AU (off:=3) g0 rfl (BK ha (row:=Ag t) (by omega) (by grind[BG]) (Af _) (by omega) (Cd (AK (AP g1) (AU (off:=3) g1 rfl (BK J8 (row:=Ag t') (by omega) (by grind[BG]) (Af _) (by omega) (Cd ?_)))))))));refine AD (ih t (A5 ht) t' _ _ (A7.BZ t) (A7.BZ t')) ?_;rintro v ⟨c,rfl,s9⟩;refine ALZ (Ba (by omega) (by omega) ?_);have:=D7 (p+1) c (by omega) (λh=>by grind[List.take_add_one]) (λh e=>by grind)
   grind
  grind
mutual
theorem Ww:∀(t:Ty),size t<2 ^ 38->∀(t':Ty) (x x':AV),A7 t x->A7 t' x'->AM (env R) 104 [x,x'] λr=>∃c:Int,r=AB c/\(c=0<->t=t')
 | .mk k n i ts,h,.mk k' n' i' ts',x,x',hx,hx'=>by
  obtain⟨a,rfl,ha⟩:=hx;obtain⟨a',rfl,J8⟩:=hx';simp only[size] at h;have ih:=UJ ts (by omega);have hts:=BQ ts
  suffices H:∀Post:AV->Prop,(∀c:Int,(c=0<->Ty.mk k n i ts=Ty.mk k' n' i' ts')->Post (AB c))->hU R 0 0 0 (.agg [AB k,SS n,AB i,a]) (.agg [AB k',SS n',AB i',a']) ⟨[],[]⟩ (QP Post) from
   AW7 (u0:=.agg [AB k,SS n,AB i,a]) (u1:=.agg [AB k',SS n',AB i',a']) (by simp[ha.close,J8.close]) (H _ λc hc=>⟨c,rfl,hc⟩)
  intro Post hP;simp only[Ty.mk.injEq] at hP;refine ALa (Bu (cs:=[AB k,SS n,AB i,a]) rfl (by simp[ha.ok]) (Bu (cs:=[AB k',SS n',AB i',a']) rfl (by simp[J8.ok]) ?_));simp only[Ce,CJ,Dx,CT,CP];have g0:(AL.mk [[AB k,SS n,AB i,a],[AB k',SS n',AB i',a']] []).bs[0]?=some [AB k,SS n,AB i,a]:=rfl;have g1:(AL.mk [[AB k,SS n,AB i,a],[AB k',SS n',AB i',a']] []).bs[1]?=some [AB k',SS n',AB i',a']:=rfl;generalize AL.mk [[AB k,SS n,AB i,a],[AB k',SS n',AB i',a']] []=s at g0 g1;have sa:=BJ.Bl (es:=ts) (.inl ha);have sa':=BJ.Bl (es:=ts') (.inl J8);have la:∀(s:AL) (K:AV->Prop),K (AB ts.length)->BO s a K:=λs K h=>Al (n:=ts.length) (by rw[ha.A9,AQ]) h
  have la':∀(s:AL) (K:AV->Prop),K (AB ts'.length)->BO s a' K:=λs K h=>Al (n:=ts'.length) (by rw[J8.A9,AQ]) h
  have eqs:∀w:List UInt8,Tel.Bl (SS w) (SS w)=true:=λw=>by simp[Tel.Bl,NA,Ir]
  have eqi:∀w:Int,Tel.Bl (AB w) (AB w)=true:=λw=>by simp[Tel.Bl,NA,GF]
  have fa0:∀d,Ax s (.ptr 0 0) d λv=>Tel.Bl v (.ptr 0 (0+d))=true:=λd=>AK (AP g0) (EP _ _)
  have fa1:∀d,Ax s (.ptr 1 0) d λv=>Tel.Bl v (.ptr 1 (0+d))=true:=λd=>AK (AP g1) (EP _ _)
  refine AK (AP g0) (AU (off:=0) g0 rfl (AK (AP g1) (AU (off:=0) g1 rfl ?_)));refine AD (QZ k k') ?_;rintro v ⟨c1,rfl,h1⟩;refine AK (AP g0) (AU (off:=1) g0 rfl (AK (AP g1) (AU (off:=1) g1 rfl ?_)));refine AD (pK n n') ?_;rintro v ⟨c2,rfl,h2⟩;refine AK (AP g0) (AU (off:=2) g0 rfl (AK (AP g1) (AU (off:=2) g1 rfl ?_)));refine AD (QZ i i') ?_;rintro v ⟨c3,rfl,h3⟩;refine AK (AP g0) (AU (off:=3) g0 rfl (la _ _ (AK (AP g1) (AU (off:=3) g1 rfl (la' _ _ ?_)))));refine AD (QZ ts.length ts'.length) ?_;rintro v ⟨c4,rfl,h4⟩;refine AW6 (AD (ADb (l:=[c1,c2,c3,c4]) (.AA _) (by simp)) ?_);rintro v rfl;refine⟨fa0 1,AU (off:=1) g0 rfl (eqs n),fa1 1,AU (off:=1) g1 rfl (eqs n'),fa0 2,fa0 2,AU (off:=2) g0 rfl (eqi i),AU (off:=2) g0 rfl (eqi i),fa1 2,fa1 2,AU (off:=2) g1 rfl (eqi i'),AU (off:=2) g1 rfl (eqi i'),fa0 3,fa0 3,fa0 3,AU (off:=3) g0 rfl sa,AU (off:=3) g0 rfl sa,AU (off:=3) g0 rfl sa,la _ _ (eqi _),la _ _ (eqi _),la _ _ (eqi _),fa1 3,fa1 3,fa1 3,AU (off:=3) g1 rfl sa',AU (off:=3) g1 rfl sa',AU (off:=3) g1 rfl sa',la' _ _ (eqi _),la' _ _ (eqi _),la' _ _ (eqi _),?_⟩
  have hz:lu [c1,c2,c3,c4]=0<->(k=k'/\n=n'/\i=i'/\ts.length=ts'.length):=by
   rw[cq];simp only[A6,FZ,Fa,forall_eq_or_imp,forall_eq,h1,h2,h3,h4]
   grind
  by_cases hall:k=k'/\n=n'/\i=i'/\ts.length=ts'.length
  .obtain⟨rfl,rfl,rfl,hle⟩:=hall
   have h0:=hz.2 ⟨rfl,rfl,rfl,hle⟩;exact pM ha J8 (by omega) hle ih g0 g1 (λc hc=>hP c (by grind)) ts.length 0 _ (by omega) (λ_=>rfl) (λh=>absurd h0 h)
  .have hne:lu [c1,c2,c3,c4]≠0:=λh=>hall (hz.1 h)
   generalize lu [c1,c2,c3,c4]=c at hne;refine Y2 (Ay ?_);have:(c==0)=false:=by grind
   rw[this];exact Bm (Bm (Bm (Bm (Bm (pk (Aq (hO ⟨_,Fz,hP c (by grind)⟩)))))))
theorem UJ:∀(l:List Ty),AY l<2 ^ 38->∀t∈l,∀(t':Ty) (x x':AV),A7 t x->A7 t' x'->AM (env R) 104 [x,x'] λr=>∃c:Int,r=AB c/\(c=0<->t=t')
 | [],_,_,h=>by cases h
 | e::l,h,t,hm=>by
  simp only[AY] at h;rcases A6.1 hm with h' | h'
  .rw[h']
   exact Ww e (by omega)
  .exact UJ l (by omega) t h'
end
theorem hY {t t':Ty} {x x':AV} (h:size t<2 ^ 38) (hx:A7 t x) (hx':A7 t' x'):AM (env R) 63 [x,x'] λr=>∃b:Bool,r=BB b/\(b=true<->t=t'):=by
 have hc:=Ww (R:=R) t h t' x x' hx hx';obtain⟨k,n,i,ts⟩:=t;obtain⟨k',n',i',ts'⟩:=t';obtain⟨a,rfl,ha⟩:=hx;obtain⟨a',rfl,J8⟩:=hx';refine e63 (u0:=.agg [AB k,SS n,AB i,a]) (u1:=.agg [AB k',SS n',AB i',a']) (by simp[ha.close,J8.close]) (AQc ?_);refine Bu (cs:=[AB k,SS n,AB i,a]) rfl (by simp[ha.ok]) (Bu (cs:=[AB k',SS n',AB i',a']) rfl (by simp[J8.ok]) (Ae (cs:=[AB k,SS n,AB i,a]) rfl rfl (Ae (cs:=[AB k',SS n',AB i',a']) rfl rfl ?_)));refine AD hc ?_;rintro v ⟨c,rfl,h⟩;exact Ay ⟨_,Fz,c==0,rfl,by grind⟩
end
def EZ (lo:Nat) (bs:List (List AV)) (l:List Br) (a:AV):Prop:=(a=.AA []/\l=[])\/∃id rows,lo<=id/\a=.ref id 0 l.length 5/\bs[id]?=some (List.flatten rows)/\CV (λb row=>CM b (.agg row)) l rows/\l≠[]
theorem CM.cells {b:Br} {row:List AV} (h:CM b (.agg row)):row.length=5/\row.all BE=true/\∀n,Ah n row=true:=by
 obtain⟨a,y,hy,ha,ht⟩:=h;cases hy;obtain⟨h1,h2,h3⟩:=ht.cells;exact⟨by grind,by simp only[HA,ha.ok,h2]; rfl,λn=>by simp[Ah,ha.Ar,h3]⟩
theorem CM.agg {b:Br} {x:AV} (h:CM b x):∃row,x=.agg row:=by
 obtain⟨a,y,rfl,_⟩:=h;simp
theorem Hr {l:List Br} {rows:List (List AV)} (h:CV (λb row=>CM b (.agg row)) l rows):rows.flatten.length=l.length*5/\rows.flatten.all BE=true/\∀n,Ah n rows.flatten=true:=by
 induction l generalizing rows with
 | nil=>
  cases rows with
  | nil=>exact⟨rfl,rfl,λ_=>rfl⟩
  | cons _ _=>exact h.elim
 | cons b l ih=>
  cases rows with
  | nil=>exact h.elim
  | cons row rows=>
   obtain⟨h1,h2⟩:=h;obtain⟨c1,c2,c3⟩:=h1.cells;obtain⟨i1,i2,i3⟩:=ih h2;refine⟨by grind,by grind,λn=>?_⟩;rw[MX]
   have gen:∀(a b:List AV),Ah n a=true->Ah n b=true->Ah n (a++b)=true:=by
    intro a
    induction a with
    | nil=>simp
    | cons x a iha=>
     grind[Ah]
   grind
theorem EZ.A9 {lo:Nat} {s:AL} {l:List Br} {a:AV} (h:EZ lo s.bs l a):A9 s a=some l.length:=by
 rcases h with ⟨rfl,rfl⟩|⟨id,rows,h1,rfl,h2,h3,h4⟩
 .rfl
 .obtain⟨c1,_,_⟩:=Hr h3
  have hal:alive s id=true:=by
   have:rows.flatten≠[]:=by
    intro h;rw[h] at c1;cases l with
    | nil=>grind
    | cons _ _=>grind
   obtain⟨c,r,hc⟩:=Mc this;simp[*]
  grind[Tel.A9]
theorem EZ.mono {lo lo':Nat} {bs bs':List (List AV)} {l:List Br} {a:AV} (h:EZ lo bs l a) (hl:lo'<=lo) (hb:∀j c,lo<=j->bs[j]?=some c->bs'[j]?=some c):EZ lo' bs' l a:=by
 rcases h with h|⟨id,rows,h1,h2,h3,h4,h5⟩
 .exact .inl h
 .exact .inr ⟨id,rows,CN hl h1,h2,hb id _ h1 h3,h4,h5⟩
theorem MQ {b:Br} {row:List AV} (h:CM b (.agg row)) {s:AL} {K:AV->AL->Prop} (hK:K (.ref s.bs.length 0 1 5) ⟨s.bs++[row],s.ts⟩):Ct true s 5 [(.AA []),(AB 0),(SS []),(AB 0),(.AA [])] 1 [(0,5,.agg row)] K:=by
 obtain⟨a,y,hy,ha,ht⟩:=h;cases hy;rcases ZR:b.body with ⟨k,n,i,ts⟩
 rw[ZR] at ht;obtain⟨a2,hy,S9⟩:=ht;cases hy;simp[Ct,Fg,CR,ha.ok,S9.ok];omega
theorem xK {L:A3} {s:AL} {lo id':Nat} {a:AV} {l:List Br} {b:Br} {row:List AV} (hr:CM b (.agg row)) (hid:s.bs[id']?=some row) (ha:EZ lo s.bs l a) (hro:L.ro=0) (hl:l.length<2 ^ 30) {K:AV->AL->Prop}
  (h:∀a' bs',EZ lo bs' (l++[b]) a'->(∀j c,(∀n,a≠.ref j 0 n 5)->s.bs[j]?=some c->bs'[j]?=some c)->s.bs.length<=bs'.length->(BM s->BM ⟨bs',s.ts⟩)->(lo<=s.bs.length->K a' ⟨bs',s.ts⟩)) (hlo:lo<=s.bs.length) :
  Cx true L s 45 5 80 a (.ref id' 0 1 5) K:=by
 obtain⟨c1,c2,c3⟩:=hr.cells
 have hal:alive s id'=true:=by
  obtain⟨c,r,hc⟩:=Mc (l:=row) (by grind);simp[*]
 have hsrc:C0 s 5 (.ref id' 0 1 5)=some row:=by grind[C0]
 unfold Cx;rw[hsrc];obtain⟨c,cs,hc⟩:=Mc (l:=row) (by grind);subst hc;simp only[wO];have hdiv:(c::cs).length / 5=1:=by rw[c1]
 rw[hdiv];refine⟨c2,?_⟩;rcases ha with ⟨rfl,rfl⟩|⟨id,rows,h1,rfl,h2,h3,h4⟩
 .refine⟨⟨by simp,by simp,by simp⟩,?_⟩
  simp only[AN,List.flatten_nil,Cs,Ce];refine h (.ref s.bs.length 0 1 5) (s.bs++[c::cs]) (.inr ⟨s.bs.length,[c::cs],hlo,rfl,by simp,⟨hr,Ab⟩,by simp⟩) (λj c _ hj=>Av hj _) (by simp) (λhs=>BM.app (s:=s) hs (c3 _)) hlo
 .obtain⟨r1,r2,r3⟩:=Hr h3
  have Pb:=(BL.1 h2).1
  have ALb:alive s id=true:=by
   have:rows.flatten≠[]:=by
    intro h;rw[h] at r1;cases l with
    | nil=>grind
    | cons _ _=>grind
   obtain⟨c,r,hc⟩:=Mc this
   simp_all
  simp only[h2];refine⟨⟨Ab,Ab,by omega,ALb,by omega,by omega,by omega⟩,?_⟩;have et:rows.flatten.take (l.length*5)=rows.flatten:=CL (by omega);rw[et];have pN:CV (λb row=>CM b (.agg row)) (l++[b]) (rows++[c::cs]):=CV.append h3 ⟨hr,Ab⟩;refine h (.ref s.bs.length 0 (l.length+1) 5) (s.bs.set id []++[rows.flatten++(c::cs)]) (.inr ⟨s.bs.length,rows++[c::cs],hlo,by simp,?_,pN,by simp⟩) (λj c hn hj=>?_) (by simp) (λhs=>?_) hlo
  .simp
  .grind
  .have h5:BM ⟨s.bs.set id [],s.ts⟩:=BM.set (s:=s) hs (by rfl) _
   refine BM.app (s:=⟨s.bs.set id [],s.ts⟩) h5 ?_
   have gen:∀n (a b:List AV),Ah n a=true->Ah n b=true->Ah n (a++b)=true:=by
    intro n a
    induction a with
    | nil=>simp
    | cons x a iha=>
     grind[Ah]
   grind
section
variable {R:RT}
theorem CM.closed {b:Br} {x:AV} (h:CM b x):∃x',AX [] 0 0 [x]=some [x']/\AX [] 0 0 [x']=some [x']/\QO b x':=by
 obtain⟨a,y,rfl,ha,ht⟩:=h;rcases hb:b.body with ⟨k,n,i,ts⟩
 rw[hb] at ht;obtain⟨a2,hy,S9⟩:=ht;cases hy;obtain⟨a',h1,h2⟩:=ha.closed [] 0;obtain⟨a2',h3,h4⟩:=S9.closed [] 0;refine⟨.agg [a',AB k,SS n,AB i,a2'],by simp[*],by simp[h2.close,h4.close],?_⟩;exact⟨a',[AB k,SS n,AB i,a2'],rfl,h2,by rw[hb]; exact⟨a2',rfl,h4⟩⟩
theorem Ny {b:Br} (h:size b.body<2 ^ 38) (hl:b.bounds.length<2 ^ 38) (hc:(Aj b.body).length<2 ^ 40) {x:AV} (hx:CM b x):AM (env R) 46 [x] λr=>r=BB (decide (b.bounds.length<=6)&&decide ((Aj b.body).length<=3)):=by
 obtain⟨x',h1,h2,h3⟩:=hx.closed;exact AM.open (args':=[x']) (by rfl) (by rfl) rfl h1 h2 (PB h hl hc h3)
end
section
variable {R:RT}
theorem xN {α:Type} {row:α->List PV} (hrow:∀a,(row a).length=4) {f:FuncId} {cs:List AV} {g:α->Bool} {ts:List α} {y:AV} (hy:BJ y (ts.map row)) (hl:ts.length<2 ^ 60) {s:AL} (hf:∀t∈ts,∀L,BA (env R) L f (.agg ((row t).map .pv)::cs) s (BB (g t)) s) {n0 ro rt:Nat} {QR:QT} :
  ∀(j q:Nat),q+j=ts.length->(∀i:Int,decide (0<=i)=(ts.drop q).any g->QR (AB i) s)->P6 R n0 ro rt y (.func (.func f) [] cs) (AB ts.length) (AB q) s QR:=by
 intro j
 induction j with
 | zero=>
  intro q hi hP;refine P7 (Ai ?_);rw[Aw (by omega)];refine Aq (fU ?_);have h2:ts.drop q=[]:=Bt (by omega);rw[h2] at hP;exact hP (-1) (by simp)
 | succ j D7=>
  intro q hi hP;refine P7 (Ai ?_);rw[Ap (by omega)];refine BH (fV ?_);obtain⟨t,ht⟩:∃t,ts[q]?=some t:=⟨_,Ak (by omega)⟩;rw[drop_cons ht] at hP;refine BR hy (row:=row t) (by omega) (by simp[ht]) (hrow t) (by omega) ?_;have hc:=hf t (A5 ht)
  have e4:∀K:AV->Prop,K (.agg ((row t).map .pv))->FC (env R) s (some 4) (.Cn (row t) 0) K:=by
   intro K hK;simp only[FC,Dn,Jl,xL,xM,xF,xG];refine⟨by rw[CC,hrow]; omega,?_⟩;rw[CL (by rw[CC,hrow]; omega)];exact hK
  refine e4 _ ?_;refine⟨BB (g t),s,hc _,?_⟩;cases hg:g t with
  | true=>grind[BH]
  | false=>
   refine Aq (fW (Ba (by omega) (by omega) ?_))
   grind
theorem VQ {α:Type} {row:α->List PV} (hrow:∀a,(row a).length=4) {f:FuncId} {cs:List AV} {g:α->Bool} {ts:List α} {y:AV} (hy:BJ y (ts.map row)) (hl:ts.length<2 ^ 60) {s:AL} (hs:BM s) (hcs:Bo cs=false) (hf:∀t∈ts,∀L,BA (env R) L f (.agg ((row t).map .pv)::cs) s (BB (g t)) s) (L:A3) :
  BA (env R) L 94 [y,.func (.func f) [] cs] s (BB (ts.any g)) s:=by
 have hi:∀L,∃i:Int,decide (0<=i)=ts.any g/\BA (env R) L 125 [y,.func (.func f) [] cs] s (AB i) s:=by
  intro L
  obtain⟨v,s',⟨i,rfl,rfl,h⟩,hc⟩:=APO (R:=R) (L:=L) (s:=s) (t0:=y) (t1:=.func (.func f) [] cs) (Post:=λv s'=>∃i:Int,v=AB i/\s'=s/\decide (0<=i)=ts.any g) (by grind[Bo,GO]) (fX (Al (n:=ts.length) (by rw[hy.A9,CC]) (xN hrow hy hl hf ts.length 0 (by omega) λi h=>by
   have:=Iw (rr:=L.rr 125) hs (m:=[]) (p:=.sc (.int .i64 i)) (Post:=λv s'=>∃i:Int,v=AB i/\s'=s/\decide (0<=i)=ts.any g) ⟨i,rfl,rfl,by grind⟩
   simp_all)))
  grind
 obtain⟨v,s',⟨rfl,rfl⟩,hc⟩:=m94 (R:=R) (L:=L) (s:=s) (t0:=y) (t1:=.func (.func f) [] cs) (Post:=λv s'=>v=BB (ts.any g)/\s'=s) (by grind[Bo,GO]) (uk (by
  obtain⟨i,h,hc⟩:=hi (Dh (env R) 94 0 L.ro L.rt);refine⟨AB i,s,hc,Nq ?_⟩;have:=Iw (rr:=L.rr 94) hs (m:=[]) (p:=.sc (.bool (ts.any g))) (Post:=λv s'=>v=BB (ts.any g)/\s'=s) ⟨rfl,rfl⟩
  simp_all))
 omega
theorem ALc {t u:Ty} (hsz:size t<2 ^ 38) {p:Nat} {s:AL} (hs:BM s) (hp:s.bs[p]?=some ((Ag u).map .pv)) (L:A3):∃b:Bool,(b=true<->t=u)/\BA (env R) L 95 [.agg ((Ag t).map .pv),.ptr p 0] s (BB b) s:=by
 have heq:=hY (R:=R) hsz (A7.BZ t) (A7.BZ u);have hrl:((Ag t).map AV.pv).length=4:=by grind[Af]
 have qw:((Ag u).map AV.pv).length=4:=by grind[Af]
 have hro:=DW t;obtain⟨v0,⟨b,rfl,hb⟩,UK⟩:=heq;refine⟨b,hb,?_⟩;generalize (Ag t).map AV.pv=r at UK hrl hro;generalize (Ag u).map AV.pv=r2 at UK qw hp;obtain⟨v,s',⟨rfl,rfl⟩,hc⟩:=m95 (R:=R) (L:=L) (s:=s) (t0:=.agg r) (t1:=.ptr p 0) (Post:=λv s'=>v=BB b/\s'=s) (by simp[Bo,GO]) (AQd (Bu (cs:=r) rfl hro (Ae (Az s.bs r) hrl (Ae (Av hp r) qw ⟨_,_,UK _ _,Iw hs (m:=[r]) (p:=.sc (.bool b)) ⟨rfl,rfl⟩⟩))));omega
def XOk (R:RT) (t:Ty) (o:List Br×Int):Prop:=∀x,BV t x->∀s,BM s->∀L:A3,L.n0=0->L.ro=0->L.rt=0 ->
 ∃v s',(∃a,v=.tuple [a,AB o.2]/\EZ s.bs.length s'.bs o.1 a/\s'.bs.take s.bs.length=s.bs/\s.bs.length<=s'.bs.length/\CY (.AA []) (.AA []) s.ts s'.ts/\BM s')/\BA (env R) L 14 [x] s v s'
theorem ADd {X:Ty->List Br×Int} {ts:List Ty} {y:AV} (hy:Ao y (AZ ts)) (hl:ts.length<2 ^ 30) (hsz:∀t∈ts,size t<2 ^ 38) (hx:∀t∈ts,XOk R t (X t)) {Post:AV->Prop} (hP:Post (BB (ts.all λt=>Dw (X t)))) :
  ∀(j p:Nat) (ck:List Ty) (s:AL) (b:AV),p+j=ts.length->ck.length<=p->(∀t∈ck,t∈ts/\Dw (X t)=true)->(ts.all λt=>Dw (X t))=((ts.drop p).all λt=>Dw (X t))->BM s->Dr 0 s.ts 25 b (AZ ck) ->
   lz R 0 0 0 b y (AB ts.length) (AB p) s (QP Post):=by
 classical
 intro j
 induction j with
 | zero=>
  intro p ck s b hi Bi hck hall hs hb;refine AFY (Ai ?_);rw[Aw (by omega)];rw[Bt (by omega)] at hall;rw[hall] at hP;exact Aq (AQf ⟨_,Fz,hP⟩)
 | succ j D7=>
  intro p ck s b hi Bi hck hall hs hb;refine AFY (Ai ?_);rw[Ap (by omega)];obtain⟨t,ht⟩:∃t,ts[p]?=some t:=⟨_,Ak (by omega)⟩;have Uu:=A5 ht;rw[drop_cons ht,HA] at hall;have hrl:((Ag t).map AV.pv).length=4:=by grind[Af]
  have hro:=DW t
  have Lp:Ah (s.bs.length+1) ((Ag t).map AV.pv)=true:=by
   obtain⟨k1,n1,i1,t1⟩:=t;rfl
  refine BH (AQg (BK hy (row:=Ag t) (by omega) (by simp[*,BG]) (Af _) (by omega) (Cd (Bq ?_))));obtain⟨bs,tk⟩:=s;refine CG (Az bs Z4) hrl rfl (by decide) (AI _) hro (.inl (AI _)) ?_;have e1:(bs++[Z4]).set bs.length ((Ag t).map AV.pv)=bs++[(Ag t).map AV.pv]:=by simp
  rw[e1];have hs1:BM ⟨bs++[(Ag t).map AV.pv],tk⟩:=BM.app (s:=⟨bs,tk⟩) hs Lp;have gr:=Az bs ((Ag t).map AV.pv)
  have AQh:∀u∈ck,∀L,BA (env R) L 95 [.agg ((Ag u).map .pv),.ptr bs.length 0] ⟨bs++[(Ag t).map AV.pv],tk⟩ (BB (decide (u=t))) ⟨bs++[(Ag t).map AV.pv],tk⟩:=by
   intro u hu L;obtain⟨b',h1,h2⟩:=ALc (R:=R) (t:=u) (u:=t) (hsz u (hck u hu).1) hs1 gr L
   grind
  have l5:=hb.A1;rw[IA] at l5;refine⟨_,_,VQ (λt=>Af t) l5 (by omega) hs1 rfl AQh _,?_⟩;cases hm:ck.any (λu=>decide (u=t)) with
  | true=>
   obtain⟨u,hu,hut⟩:=K1.1 hm;have:u=t:=by grind
   subst this;have hok:=(hck u hu).2;refine BH (AFZ (Ba (by omega) (by omega) ?_));have:=D7 (p+1) ck ⟨bs++[(Ag u).map AV.pv],tk⟩ b (by omega) (by omega) hck (by rw[hall,hok,Fb]) hs1 hb
   grind
  | false=>
   refine Aq (AQi (Ae gr hrl (FR (A7.BZ t).G6 ⟨by decide,Iy hb rfl (by omega) λb' HP hb' KZ=>Ae gr hrl ?_⟩)));have hs2:BM ⟨bs++[(Ag t).map AV.pv],HP⟩:=hs1;obtain⟨v,s',⟨a,rfl,x1,x2,x3,x4,x5⟩,x6⟩:=hx t Uu _ (A7.BZ t).G6 ⟨bs++[(Ag t).map AV.pv],HP⟩ hs2 (Dh (env R) 47 0 0 0) rfl rfl rfl;refine⟨_,_,x6,CB rfl (CB rfl (FD ?_))⟩
   have fail:Dw (X t)=false->(QP Post) (BB false) s':=λh=>by
    rw[hall,h,Gd] at hP;exact⟨_,Fz,hP⟩
   cases h0:(X t).2==0 with
   | false=>
    grind[DJ,pk,BH,Dw]
   | true=>
    have:((X t).2 != 0)=false:=by grind
    rw[this];refine Am (Am (Al x1.A9 (Am (Gk (pk ?_)))))
    by_cases h4:(X t).1.length<=4
    .rw[Aw (by omega)]
     refine Aq (AFZ (Ba (by omega) (by omega) ?_));have AW9:Dw (X t)=true:=by grind[Dw]
     have:=D7 (p+1) (ck++[t]) s' b' (by omega) (by grind) (λu hu=>by
      rcases B9.1 hu with hu|hu
      all_goals grind) (by rw[hall,AW9,Fb]) x5 (x4.keep hb' λ_ h=>by cases h)
     grind
    grind[BH,Dw]
theorem Qa {X:Ty->List Br×Int} {ts:List Ty} {y:AV} (hy:Ao y (AZ ts)) (hl:ts.length<2 ^ 30) (hsz:∀t∈ts,size t<2 ^ 38) (hx:∀t∈ts,XOk R t (X t)):AM (env R) 47 [y] λr=>r=BB (ts.all λt=>Dw (X t)):=by
 refine e47 (u0:=y) (by simp[AX,hy.close]) (AQj (Al (n:=ts.length) (by rw[hy.A9,AQ]) ?_));exact ADd (Post:=λr=>r=BB (ts.all λt=>Dw (X t))) hy hl hsz hx rfl ts.length 0 [] ⟨[],[]⟩ (.AA []) (by omega) (AI _) (λt h=>by cases h) rfl (λb hb=>by grind) (.inl rfl)
theorem PJ {X:Ty->List Br×Int} {ts:List Ty} {y:AV} (hy:BJ y (AZ ts)) (hl:ts.length<2 ^ 30) (hsz:∀t∈ts,size t<2 ^ 38) (hx:∀t∈ts,XOk R t (X t)):AM (env R) 47 [y] λr=>r=BB (ts.all λt=>Dw (X t)):=by
 obtain⟨y',h1,h2⟩:=hy.closed [] 0;exact AM.open (args':=[y']) (by rfl) (by rfl) rfl (by grind[AX]) (by simp[AX,h2.close]) (Qa h2 hl hsz hx)
end
theorem PK {L:A3} {s:AL} {id:Nat} {cs:List AV} {K:AL->Prop} (hb:s.bs[id]?=some Z5) (hk:cs.length=5) (hro:L.ro<=id) (hok:cs.all BE=true) (hn:L.n0<=id) (h:K ⟨s.bs.set id cs,s.ts⟩):Ci L s 5 (.ptr id 0) (.agg cs) K:=
 CG hb hk rfl (by decide) hro hok (.inl hn) h
theorem ADe {B:List Ty} {p:Ty} (ht:Hp B.length p=true):∀b∈(KG B p).bounds,b∈B:=by
 intro b hb;have hb:b∈(LP B.length p []).2.map λx=>B.getD x aR:=hb
 grind[gQ]
section
variable {R:RT}
theorem ADf (hn:Tl R) {B:List Ty} (kj:B.length<=2 ^ 37) (hB:∀t∈B,size t<2 ^ 38/\eE t=true) {ps:List Ty} (Kc:ps.length<=32) (hps:∀p∈ps,size p<2 ^ 37/\Hp B.length p=true) {a:AV} (ha:BJ a (AZ (Bz ps))) {n e:Nat} {X:List (List AV)} {d:AV} (hX:X[e]?=some [d,AB 32]) (hd:BJ d (AZ B)) {OC:List (Nat×Nat)} {QR:QT}
  (hF:(ps.map (KG B)).all RU=false->∀bs tk,BM ⟨bs,tk⟩->bs.take n=X->n<=bs.length->CY (.AA []) (.AA []) OC tk->QR (.tuple [.AA [],AB 4]) ⟨bs,tk⟩)
  (hS:(ps.map (KG B)).all RU=true->∀bs tk t7 t8,BM ⟨bs,tk⟩->bs.take n=X->n<=bs.length->CY (.AA []) (.AA []) OC tk->EZ n bs (ps.map (KG B)) t7->BJ t8 (AZ ((ps.map (KG B)).flatMap Br.bounds))->xO R 0 0 0 t7 t8 ⟨bs,tk⟩ QR) :
  ∀(j p:Nat) (bs:List (List AV)) (tk:List (Nat×Nat)) (t7 t8:AV),p+j=ps.length->BM ⟨bs,tk⟩->bs.take n=X->n<=bs.length->EZ n bs ((ps.take p).map (KG B)) t7->Dr 0 tk 25 t8 (AZ (((ps.take p).map (KG B)).flatMap Br.bounds))->((ps.take p).map (KG B)).all RU=true->(((ps.take p).map (KG B)).flatMap Br.bounds).length<=6*p->CY (.AA []) (.AA []) OC tk->DR t8 OC ->
   l7 R 0 0 0 (.ptr e 0) t7 t8 a (AB ps.length) (AB p) ⟨bs,tk⟩ QR:=by
 intro j
 induction j with
 | zero=>
  intro p bs tk t7 t8 hi hs hT N7 h7 h8 hw hl6 hch hfr;refine AFa (Ai ?_);rw[Aw (by omega)];rw[CL (by omega)] at h7 h8 hw;exact Aq (hS hw bs tk t7 t8 hs hT N7 hch h7 h8.A1)
 | succ j D7=>
  intro p bs tk t7 t8 hi hs hT N7 h7 h8 hw hl6 hch hfr;refine AFa (Ai ?_);rw[Ap (by omega)];obtain⟨c,hc⟩:∃c,ps[p]?=some c:=⟨_,Ak (by omega)⟩;have N8:=A5 hc;obtain⟨c1,c2⟩:=hps c N8;have hrc:(Bz ps)[p]?=some (ren c):=by grind[Bk]
  have hrl:((Ag (ren c)).map AV.pv).length=4:=by grind[Af]
  have hro:=DW (ren c)
  have Lp:Ah (bs.length+1) ((Ag (ren c)).map AV.pv)=true:=by
   obtain⟨k1,n1,i1,t1⟩:=ren c;rfl
  have ES:=A7.BZ (ren c);have Vh:ps.take (p+1)=ps.take p++[c]:=by grind[List.take_add_one]
  refine BH (AQk (BR ha (row:=Ag (ren c)) (by omega) (by grind[BG]) (Af _) (by omega) (Cd (Bq ?_))));generalize (Ag (ren c)).map AV.pv=row at hrl hro Lp ES;refine CG (Az bs Z4) hrl rfl (by decide) (AI _) hro (.inl (AI _)) ?_;have e1:(bs++[Z4]).set bs.length row=bs++[row]:=by simp
  rw[e1];have hs1:BM ⟨bs++[row],tk⟩:=BM.app (s:=⟨bs,tk⟩) hs Lp;have gr:=Az bs row;have SD:=(D1 N7 row).trans hT;have lb:(bs++[row]).length=bs.length+1:=by simp
  have h71:EZ n (bs++[row]) ((ps.take p).map (KG B)) t7:=h7.mono (Ac _) λj c _ hj=>Av hj _
  generalize bs++[row]=b1 at hs1 gr SD lb h71;have gE1:b1[e]?=some [d,AB 32]:=B6 SD hX;obtain⟨w,s',⟨NG,r1,r2,rfl⟩,r3⟩:=cC (R:=R) hn (L:=Dh (env R) 14 0 0 0) (p:=c) (s:=⟨b1,tk⟩) (by omega) hB (by omega) c2 ES hs1 gE1 hd rfl rfl;refine Ae gr hrl ⟨_,_,r3,?_⟩;obtain⟨rw5,rfl⟩:=r1.agg;obtain⟨q1,q2,q3⟩:=r1.cells;have h81:=r2.keep h8 (λ_ h=>by cases h);have o5:=hch.trans r2;refine Bq (PK (Az b1 Z5) q1 (AI _) q2 (AI _) ?_);have e2:(b1++[Z5]).set b1.length rw5=b1++[rw5]:=by simp
  show FC _ ⟨(b1++[Z5]).set b1.length rw5,NG⟩ _ _ _
  rw[e2];have hs2:BM ⟨b1++[rw5],NG⟩:=BM.app (s:=⟨b1,tk⟩) hs1 (q3 _);have g5:=Az b1 rw5;have Ia:=(D1 (n:=n) (by omega) rw5).trans SD;have h72:EZ n (b1++[rw5]) ((ps.take p).map (KG B)) t7:=h71.mono (Ac _) λj c _ hj=>Av hj _
  have lb2:(b1++[rw5]).length=b1.length+1:=by simp
  have h7n:∀m,t7≠.ref b1.length 0 m 5:=by
   intro m h;rcases h71 with ⟨h1,_⟩|⟨id,rows,_,h1,h2,_⟩
   all_goals grind
  generalize b1++[rw5]=b2 at hs2 g5 Ia h72 lb2;have hsz:=wD B c;have hcv:=Gz (KG B c).body;refine Ae g5 q1 (AD (Ny (by omega) (by omega) (by omega) r1) ?_);rintro _ rfl;have ew:(decide ((KG B c).bounds.length<=6)&&decide ((Aj (KG B c).body).length<=3))=RU (KG B c):=rfl;rw[ew];refine nt ?_;cases hwc:RU (KG B c) with
  | false=>
   grind[BH]
  | true=>
   have hb6:(KG B c).bounds.length<=6:=by grind
   obtain⟨a5,y5,hy5,ha5,_⟩:=id r1;cases hy5;refine Aq (AQm (Ae g5 q1 (MQ r1 ⟨by decide,?_⟩)));have g5b:=Av g5 (a5::y5);have hs3:BM ⟨b2++[a5::y5],NG⟩:=BM.app (s:=⟨b2,NG⟩) hs2 (q3 _);have h73:EZ n (b2++[a5::y5]) ((ps.take p).map (KG B)) t7:=h72.mono (Ac _) λj c _ hj=>Av hj _
   refine xK (s:=⟨b2++[a5::y5],NG⟩) r1 (Az b2 _) h73 rfl (by grind) ?_ (by grind);intro a' bs' SX Ll hb3 hb4 _;have hs4:=hb4 hs3;have g5c:=Ll b1.length _ h7n g5b
   have hT4:bs'.take n=X:=by
    rw[<-Ia];refine G9 λj=>?_
    by_cases hj:j<n
    .rw[Rs hj,Rs hj]
     have hj2:j<b2.length:=by omega
     have h1:(b2++[a5::y5])[j]?=some b2[j]:=by rw[CZ hj2,Ak hj2]
     rw[Ll j _ (λm h=>by
      rcases h73 with ⟨h2,_⟩|⟨id,rows,h2,h3,_⟩
      all_goals grind) h1,Ak hj2]
    grind
   have AQn:n<=bs'.length:=by omega
   refine AK (AP g5c) (AU (off:=0) g5c rfl ⟨by decide,Ew (l:=(KG B c).bounds) h81 rfl (by omega) ha5 λt8' J1 x1 x2=>?_⟩);have sa:=BJ.Bl (es:=(KG B c).bounds) ha5;refine⟨AK (AP g5) (EP _ _),AK (AP g5b) (EP _ _),AU (off:=0) g5 rfl sa,AU (off:=0) g5b rfl sa,AQo (Ba (by omega) (by omega) ?_)⟩;have em:(ps.take (p+1)).map (KG B)=(ps.take p).map (KG B)++[KG B c]:=by grind
   have ef:((ps.take (p+1)).map (KG B)).flatMap Br.bounds=((ps.take p).map (KG B)).flatMap Br.bounds++(KG B c).bounds:=by grind
   have:=D7 (p+1) bs' J1 a' t8' (by omega) hs4 hT4 AQn (by grind) (by grind) (by rw[em,XR,hw]; grind) (by grind) (o5.side x2 hfr) (hfr.PC x2 o5.1)
   grind
end
structure Fit (t:Ty):Prop where
 bws:Cj (bw t)
 wts:wt t<=2 ^ 27
 nbs:nb t<2 ^ 37
theorem Fit.sub {t b:Ty} (h:Fit t) (hb:Yx t b):Fit b:=⟨DT h.bws hb.bws,CN hb.wts h.wts,Xd hb.nbs h.nbs⟩
mutual
theorem Qb:∀t:Ty,valid t=true->Vt t
 | .mk k n i ts,h=>by
  have hn:=Tn h;simp only[valid,AG] at h;rw[Vt];exact⟨by grind[YE],UL ts h.2⟩
theorem UL:∀l:List Ty,BT l=true->RO l
 | [],_=>trivial
 | t::l,h=>by
  simp only[BT,AG] at h;rw[RO];exact⟨Qb t h.1,UL l h.2⟩
end
mutual
theorem Wx:∀t:Ty,valid t=true->ixs t=true
 | .mk k n i ts,h=>by
  have hv:=h;simp only[valid,AG] at h;rw[ixs,UM ts h.2];cases h5:k==5 with
  | false=>rfl
  | true=>
   have:k=5:=by grind
   subst this;have h1:=I2 hv;have h2:=QL hv
   grind
theorem UM:∀l:List Ty,BT l=true->pI l=true
 | [],_=>rfl
 | t::l,h=>by
  simp only[BT,AG] at h;rw[pI,Wx t h.1,UM l h.2];rfl
end
theorem pO {t:Ty} (h:valid t=true) (hc:Cv 0 t=true):eE t=true:=by
 have:=Tp [] t 0 h
 grind[ER]
section
variable {R:RT}
theorem UN {t:Ty} (h:size t<2 ^ 60) (ho:Vt t) {x:AV} (hx:BV t x):AM (env R) 42 [x] λr=>r=AB (verdict t):=by
 obtain⟨x',h1,h2⟩:=hx.closed [] 0;exact AM.open (args':=[x']) (by rfl) (by rfl) rfl (by grind[AX]) (by simp[AX,h2.H6]) (VI h ho h2)
theorem UO {t:Ty} (h:size t<2 ^ 18) (SW:ixs t=true) {x:AV} (hx:BV t x):AM (env R) 43 [x] λr=>∃l:List Int,Ao r (AW l)/\l.Pairwise (·<·)/\(∀w,w∈l<->w∈cZ 0 t):=by
 obtain⟨x',h1,h2⟩:=hx.closed [] 0;exact AM.open (args':=[x']) (by rfl) (by rfl) rfl (by grind[AX]) (by simp[AX,h2.H6]) (VO h SW h2)
theorem iA (hn:Tl R):∀(f:Nat) (t:Ty),depth t<=f->size t<2 ^ 60->Vt t->(verdict t=0->Fit t)->XOk R t (xP f t):=by
 intro f
 induction f with
 | zero=>
  intro t hd;obtain⟨k,n,i,ts⟩:=t
  grind[depth]
 | succ f ih=>
  intro t hd hsz hok hfit x hx s hs L hn0 hro Eb;have hv1:=UN (R:=R) hsz hok hx;have hfv:=λh1 h2=>UO (R:=R) (t:=t) h1 h2 hx
  have hxO:=hx;obtain⟨xc,rfl⟩:=hxO.agg;obtain⟨c1,c2,c3⟩:=hxO.cells;have ZV:(s.bs++[xc]).take s.bs.length=s.bs:=by simp
  have hs1:BM ⟨s.bs++[xc],s.ts⟩:=BM.app (s:=s) hs (c3 _);have g0:=Az s.bs xc
  have fail:∀(n:Int) (o:List Br×Int),o=([],n)->∀bs ts,BM ⟨bs,ts⟩->bs.take s.bs.length=s.bs->s.bs.length<=bs.length->CY (.AA []) (.AA []) s.ts ts ->
    ∃a,(AV.tuple [.AA [],AB n])=.tuple [a,AB o.2]/\EZ s.bs.length bs o.1 a/\bs.take s.bs.length=s.bs/\s.bs.length<=bs.length/\CY (.AA []) (.AA []) s.ts ts/\BM ⟨bs,ts⟩:=by
   rintro n o rfl bs ts h1 h2 h3 h4;exact⟨_,rfl,.inl ⟨rfl,rfl⟩,h2,h3,h4,h1⟩
  refine m14 ?_;rw[hn0,hro,Eb];refine AQp (Bu (cs:=xc) rfl c2 (Ae g0 c1 (AD hv1 ?_)));rintro _ rfl;refine FD ?_;rw[xP];cases rF:verdict t==0 with
  | false=>
   have:(verdict t != 0)=true:=by grind
   rw[this];refine DJ (DJ (DJ (DJ (pk (BH ?_)))));exact fail 2 _ rfl _ _ hs1 ZV (by simp) (CY.refl _ _)
  | true=>
   have:(verdict t != 0)=false:=by grind
   rw[this];obtain⟨hv,AQq,AXD⟩:=LU (by simpa using rF);have hft:=hfit (by grind);refine Am (Ae g0 c1 (Am (AD (hfv (by omega) (Wx t hv)) ?_)));rintro v ⟨fl,hfl,hsrt,hmem⟩;refine Am (Al (n:=fl.length) (by rw[hfl.A9,BW]) (Am (Gk (pk ?_))));cases hc:Cv 0 t with
   | false=>
    have hne:0<fl.length:=by
     rcases fl with _|⟨w,fl⟩
     .exfalso
      have:cZ 0 t=[]:=by
       rcases hf:cZ 0 t with _|⟨w,l⟩
       .rfl
       .have:=(hmem w).2 (by grind)
        grind
      grind[UF]
     simp
    rw[Ap (by omega)];refine BH ?_;exact fail 2 _ rfl _ _ hs1 ZV (by simp) (CY.refl _ _)
   | true=>
    have xH:fl=[]:=by
     rcases fl with _|⟨w,fl⟩
     .rfl
     .exfalso
      have:=(hmem w).1 (by simp)
      grind[UF]
    subst xH;rw[Aw (by simp)];simp only[MY,K4,AH];have xQ:=cX (R:=R) hn (e:=s.bs.length+1) (A4:=32) (M:=nb t) (by decide) (by decide) hft.nbs (depth t) t [] (Ac _) hv hc (Xd hft.wts (by decide)) (by omega) [] (λx hx=>by grind);have hnb:=ADV (depth t) t [] [] hv hc hft.bws (λx hx=>by grind);have hall:=JS (BD:=AR 32) (depth t) t [] (nb t) (qM (nb t));have hbd:=Nw (f:=depth t) hv hc;have Np:=Km (BD:=AR 32) (by rfl) (depth t) t [];rw[ER hv hc] at xQ hnb;rw[Mq t hv] at xQ
    have gi:Eu (λi=>qM (nb t) i&&decide (i<(([]:List Ty).length:Nat))) t=true:=by
     have:=JV (q:=λi=>qM (nb t) i&&decide (i<(([]:List Ty).length:Nat))) (σ:=[]) (λx hx=>by grind) t 0 hv
     grind[ER]
    rcases he:BF (AR 32) (depth t) t [] with ⟨r,B⟩
    rw[he] at xQ hnb hall hbd Np;simp only[CJ,CP] at hnb;simp only at xQ hall hbd Np;refine Aq (AQr (IY (cs:=[.AA [],AB 32]) rfl (Bu (cs:=[.AA [],AB 32]) rfl rfl ?_)));have gE:(s.bs++[xc]++[[.AA [],AB 32]])[s.bs.length+1]?=some [.AA [],AB 32]:=by simp
    have rK:=Av g0 [.AA [],AB 32];have hs2:BM ⟨s.bs++[xc]++[[.AA [],AB 32]],s.ts⟩:=BM.app (s:=⟨s.bs++[xc],s.ts⟩) hs1 rfl;have hlen:(s.bs++[xc]++[[.AA [],AB 32]]).length=s.bs.length+2:=by simp
    have hX:(s.bs++[xc]++[[.AA [],AB 32]]).take (s.bs.length+2)=s.bs++[xc]++[[.AA [],AB 32]]:=CL (by omega);have Ia:(s.bs++[xc]++[[.AA [],AB 32]]).take s.bs.length=s.bs:=by simp
    have dz:(s.bs++[xc]).length=s.bs.length+1:=by simp
    rw[dz];generalize s.bs++[xc]++[[.AA [],AB 32]]=b2 at gE rK hs2 hlen hX Ia;obtain⟨w,s',⟨d',NG,q1,q2,q3,rfl⟩,q4⟩:=xQ hnb (.agg xc) hxO ⟨b2,s.ts⟩ hs2 (Dh (env R) 14 0 0 0) (.AA []) rfl rfl gE (.inl rfl);refine Ae rK c1 ⟨_,_,q4,?_⟩;have hs3:BM ⟨b2.set (s.bs.length+1) [d',AB ((32:Nat):Int)],NG⟩:=BM.set (s:=⟨b2,s.ts⟩) hs2 (by simp[Ah,Ar,q2.A1.Ar]) _;have T4:(b2.set (s.bs.length+1) [d',AB ((32:Nat):Int)]).take s.bs.length=s.bs:=(C9 (by omega)).trans Ia;have RV:(b2.set (s.bs.length+1) [d',AB ((32:Nat):Int)])[s.bs.length+1]?=some [d',AB ((32:Nat):Int)]:=Bf gE;have jf:(b2.set (s.bs.length+1) [d',AB ((32:Nat):Int)]).length=s.bs.length+2:=by grind
    have hch:CY (.AA []) (.AA []) s.ts NG:=by
     obtain⟨h1,h2,h3⟩:=q3;exact⟨h1,λt ht _=>h2 t ht (λh=>by cases h),.inl rfl⟩
    generalize b2.set (s.bs.length+1) [d',AB ((32:Nat):Int)]=b3 at hs3 T4 RV jf;cases r with
    | none=>
     cases q1;exact CB rfl (CB rfl (nt (BH (fail 4 _ rfl b3 NG hs3 T4 (by omega) hch))))
    | some ps=>
     obtain⟨ya,rfl,Uw⟩:=q1;simp only at q2;have Kc:ps.length<=32:=by grind
     have hps:∀p∈ps,size p<2 ^ 37/\Hp B.length p=true:=by
      intro p hp;obtain⟨h1,h2⟩:=hall ps (λi h1 h2=>by grind) gi rfl hnb p hp;refine⟨by have:=hft.wts; omega,?_⟩
      obtain⟨h3,_⟩:=JS (BD:=AR 32) (depth t) t [] B.length (qM B.length) ps (λi h1 h2=>by grind) (by
       have:=JV (q:=λi=>qM B.length i&&decide (i<(([]:List Ty).length:Nat))) (σ:=[]) (λx hx=>by grind) t 0 hv
       grind[ER]) (by rw[he]) (by grind) p hp
      grind[Mr]
     have hB:∀b∈B,size b<2 ^ 38/\eE b=true:=by
      intro b hb;have h1:=hbd b hb;exact⟨by have:=h1.Wr; omega,pO h1.val h1.cl⟩
     refine CB rfl (CB rfl (nt (Aq (AQs (Al (n:=ps.length) (by rw[Uw.A9,AQ,Bk,CC]) ?_)))));have hBb:B.length<2 ^ 37:=Xd hnb hft.nbs;refine ADf hn (n:=s.bs.length+2) (X:=b3) (by omega) hB Kc hps Uw RV q2.A1 (OC:=NG) ?_ ?_ ps.length 0 b3 NG (.AA []) (.AA []) (by omega) hs3 (CL (by omega)) (by omega) (.inl ⟨rfl,rfl⟩) (.inl rfl) rfl (by simp) (CY.refl _ _) (DR.AA _ _)
     .intro hall bs tk h1 h2 h3 h4
      have h5:bs.take s.bs.length=s.bs:=by grind
      refine fail 4 _ ?_ bs tk h1 h5 (by omega) (hch.trans h4)
      grind
     .intro hall bs tk t7 t8 h1 h2 h3 h4 h6 h7
      have h5:bs.take s.bs.length=s.bs:=by grind
      have hbm:∀b∈(ps.map (KG B)).flatMap Br.bounds,Yx t b:=by
       intro b hb;obtain⟨br,l5,hb⟩:=OL.1 hb;obtain⟨p,hp,rfl⟩:=C3.1 l5
       grind[ADe]
      have hfl:((ps.map (KG B)).flatMap Br.bounds).length<=6*32:=by
       have:∀l:List Br,l.all RU=true->(l.flatMap Br.bounds).length<=6*l.length:=by
        intro l
        induction l with
        | nil=>simp
        | cons b l ihl=>
         grind[RU]
       grind
      refine AQt (AD (PJ (X:=xP f) h7 (by omega) (λb hb=>by have:=(hbm b hb).Wr; omega) (λb hb=>?_)) ?_)
      .have h8:=hbm b hb
       exact ih b (by have:=h8.dep; omega) (by have:=h8.Wr; omega) (Qb b h8.val) (λ_=>hft.sub h8)
      .rintro _ rfl
       refine nt ?_;cases OB:(((ps.map (KG B)).flatMap Br.bounds).all λb=>Dw (xP f b)) with
       | false=>
        refine BH (fail 4 _ ?_ bs tk h1 h5 (by omega) (hch.trans h4))
        grind
       | true=>
        refine Aq (AQu ?_);simp only[hall,OB,K3,AN];exact⟨t7,rfl,h6.mono (by omega) λj c _ h=>h,h5,by omega,hch.trans h4,h1⟩
end
mutual
def Wy:Ty->Bool
 | .mk k n i ts=>bif k==5 then n==[]&&(ts.isEmpty&&(decide (-(2 ^ 60)<=i)&&decide (i<2 ^ 60))) else bif k==2||k==3 then Qc ts else true
def Qc:List Ty->Bool
 | []=>true
 | t::l=>Wy t&&Qc l
end
theorem SI {n:List UInt8} {i:Int} {ts:List Ty} (h:Wy (.mk 5 n i ts)=true):n=[]/\ts=[]/\-(2 ^ 60)<=i/\i<2 ^ 60:=by grind[Wy]
theorem UP (f:Int->Ty):∀l:List Ty,Cr f l=l.map (CH f)
 | []=>rfl
 | t::l=>by rw[Cr,UP f l]; rfl
section
variable {R:RT}
theorem PL (i:Int):AM (env R) 25 [AB i] λr=>r=.agg [AB 5,SS [],AB i,.AA []]:=by
 refine e25 (u0:=AB i) (by simp) (AQv (Bq (IY (cs:=[AB 5,SS [],AB i,.AA []]) rfl ?_)));refine CG (old:=Z4) rfl rfl rfl (by decide) (AI _) rfl (.inl (AI _)) (Ae (cs:=[AB 5,SS [],AB i,.AA []]) rfl rfl ?_);exact⟨_,by simp,rfl⟩
theorem SJ (i:Int):A7 (var i) (.agg [AB 5,SS [],AB i,.AA []]):=⟨_,rfl,.AA _⟩
theorem Gl {s:AL} {id:Nat} {t:Ty} {cs old:List AV} {Post:AV->Prop} (h1:s.bs[id]?=some old) (ho:old.length=4) (hr:BV t (.agg cs)) (hP:∀r,A7 t r->Post r) {f:FuncId} :
  Ci (Dh (env R) f 0 0 0) s 4 (.ptr id 0) (.agg cs) λs1=>FC (env R) s1 (some 4) (.ptr id 0) λr=>QP Post r s1:=by
 obtain⟨c1,c2,c3⟩:=hr.cells;refine CG h1 c1 ho (by decide) (AI _) c2 (.inl (AI _)) (Ae (Bf h1) c1 ?_);obtain⟨r,h3,h4⟩:=hr.closed (s.bs.set id cs) 0;exact⟨r,h3,hP r h4⟩
theorem ADh {ts:List Ty} {a:AV} (ha:Ao a (AZ ts)) (hl:ts.length<2 ^ 37) {k i n m:Int} {nm:List UInt8} {g:Ty->Ty} (ih:∀t∈ts,AM (env R) 82 [.agg ((Ag t).map .pv),AB n,AB m] λr=>A7 (g t) r) {Post:AV->Prop} (hP:∀r,A7 (.mk k nm i (ts.map g)) r->Post r) :
  ∀(j q:Nat) (s:AL) (b:AV),q+j=ts.length->s.bs[0]?=some [AB k,SS nm,AB i,a]->s.bs[1]?=some Z4->s.bs[2]?=some [AB k,SS nm,AB i,b]->Dr 0 s.ts 25 b (AZ ((ts.take q).map g)) ->
   l8 R 0 0 0 (AB n) (AB m) (.ptr 0 0) (.ptr 1 0) (.ptr 2 0) (AB q) s (QP Post):=by
 intro j
 induction j with
 | zero=>
  intro q s b hi h0 h1 h2 hb;refine AFb (AK (AP h0) (AU (off:=3) h0 rfl (Al (n:=ts.length) (by rw[ha.A9,AQ]) (Ai ?_))));rw[Aw (by omega)];rw[CL (by omega)] at hb;exact Aq (AQw (Ae h2 rfl (Gl h1 rfl (t:=.mk k nm i (ts.map g)) ⟨b,rfl,hb.A1⟩ hP)))
 | succ j D7=>
  intro q s b hi h0 h1 h2 hb;refine AFb (AK (AP h0) (AU (off:=3) h0 rfl (Al (n:=ts.length) (by rw[ha.A9,AQ]) (Ai ?_))));rw[Ap (by omega)];obtain⟨t,ht⟩:∃t,ts[q]?=some t:=⟨_,Ak (by omega)⟩;refine BH (AQx (AK (AP h2) (AU (off:=3) h2 rfl (AK (AP h0) (AU (off:=3) h0 rfl (BK ha (row:=Ag t) (by omega) (by grind[BG]) (Af t) (by omega) (Cd ?_)))))));refine AD (ih t (A5 ht)) ?_;intro v hv;refine FR hv.G6 ⟨by decide,Yb hb rfl (by grind) ?_⟩;intro b' HP hb';have hqt:(ts.take q).map g++[g t]=(ts.take (q+1)).map g:=by grind[List.take_add_one]
  rw[hqt] at hb';refine AK (AP h2) (DG h2 (by simp) hb'.A1.cells (AI _) hb'.A1.ok (.inl (AI _)) ?_);refine⟨AK (AP h2) (EP _ _),AU (off:=3) h2 rfl (HK hb),AQy (Ba (by omega) (by omega) ?_)⟩;have:=D7 (q+1) ⟨s.bs.set 2 [AB k,SS nm,AB i,b'],HP⟩ b' (by omega) (BS h0 (by decide)) (BS h1 (by decide)) (Bf h2) hb'
  grind
mutual
theorem RG (n m:Int):∀(t:Ty),size t<2 ^ 37->Wy t=true->∀(x:AV),A7 t x->AM (env R) 82 [x,AB n,AB m] λr=>A7 (Kg n m t) r
 | .mk k nm i ts,h,hv,x,hx=>by
  obtain⟨a,rfl,ha⟩:=hx;simp only[size] at h;have hln:=BQ ts
  suffices H:∀Post:AV->Prop,(∀r,A7 (Kg n m (.mk k nm i ts)) r->Post r)->xS R 0 0 0 (.agg [AB k,SS nm,AB i,a]) (AB n) (AB m) ⟨[],[]⟩ (QP Post) from
   e82 (u0:=.agg [AB k,SS nm,AB i,a]) (u1:=AB n) (u2:=AB m) (by simp[ha.close]) (H _ λr h=>h)
  intro Post hP;refine AQz (Bu (cs:=[AB k,SS nm,AB i,a]) rfl (by simp[ha.ok]) (Bq ?_));simp only[Ce,CJ,Dx,CT,CP];have g0:(AL.mk [[AB k,SS nm,AB i,a],Z4] []).bs[0]?=some [AB k,SS nm,AB i,a]:=rfl;have g1:(AL.mk [[AB k,SS nm,AB i,a],Z4] []).bs[1]?=some Z4:=rfl;refine AK (AP g0) (AU (off:=0) g0 rfl (Ay ?_));cases h5:(k==5) with
  | true=>
   have:k=5:=by grind
   subst this;obtain⟨rfl,rfl,_,_⟩:=SI hv;rw[Kg,CH] at hP;refine BH (AK (AP g0) (AU (off:=2) g0 rfl (Ay ?_)));cases hin:(i==n) with
   | true=>
    rw[hin] at hP;refine BH (AD (PL m) ?_);rintro _ rfl;exact Gl g1 rfl (t:=var m) (SJ m).G6 hP
   | false=>
    rw[hin] at hP;exact Aq (AQ0 (Ae g0 rfl (Gl g1 rfl (t:=var i) ⟨a,rfl,.inl ha⟩ hP)))
  | false=>
   rw[Wy,h5] at hv;simp only[AH] at hv;rw[Kg,CH,h5] at hP;simp only[AH] at hP;refine Aq (AQ1 (AK (AP g0) (AU (off:=0) g0 rfl (FD ?_))))
   have copy:(k==2||k==3)=true->xT R 0 0 0 (AB n) (AB m) (.ptr 0 0) (.ptr 1 0) ⟨[[AB k,SS nm,AB i,a],Z4],[]⟩ (QP Post):=by
    intro hk;rw[hk] at hv hP;simp only[AN,UP] at hv hP;refine AQ2 (Ae g0 rfl (Bq (CG (Az _ _) rfl rfl (by decide) (AI _) (by simp[ha.ok]) (.inl (AI _)) ?_)))
    show Ax ⟨[[AB k,SS nm,AB i,a],Z4,[AB k,SS nm,AB i,a]],[]⟩ _ _ _
    have g2:(AL.mk [[AB k,SS nm,AB i,a],Z4,[AB k,SS nm,AB i,a]] []).bs[2]?=some [AB k,SS nm,AB i,a]:=rfl;refine AK (AP g2) (DG (off:=3) g2 (by simp) rfl (AI _) rfl (.inl (AI _)) ?_);exact ADh (g:=Kg n m) ha (by omega) (PM n m ts (by omega) hv) (λr h=>hP r h) ts.length 0 _ (.AA []) (by omega) rfl rfl rfl (.inl rfl)
   cases h3:(k==3) with
   | true=>
    simp_all
   | false=>
    have:(k != 3)=true:=by grind
    rw[this];refine Am (AK (AP g0) (Am (AU (off:=0) g0 rfl (Am (FD (pk ?_))))));cases h2:(k==2) with
    | true=>
     simp_all
    | false=>
     have:(k != 2)=true:=by grind
     simp only[this,AN];rw[h2,h3] at hP;exact BH (Ae g0 rfl (Gl g1 rfl (t:=.mk k nm i ts) ⟨a,rfl,.inl ha⟩ hP))
theorem PM (n m:Int):∀(l:List Ty),AY l<2 ^ 37->Qc l=true->∀t∈l,AM (env R) 82 [.agg ((Ag t).map .pv),AB n,AB m] λr=>A7 (Kg n m t) r
 | [],_,_,_,h=>by cases h
 | e::l,h,hv,t,hm=>by
  simp only[AY] at h;simp only[Qc,AG] at hv;rcases A6.1 hm with h' | h'
  .rw[h']
   exact RG n m e (by omega) hv.1 _ (A7.BZ e)
  .exact PM n m l (by omega) hv.2 t h'
end
end
section
variable {R:RT}
def OpC (R:RT) (op n:Int) (g:Ty->Ty) (t:Ty):Prop:=
 (op=0/\AM (env R) 112 [.agg ((Ag t).map .pv),AB n] λr=>A7 (g t) r)\/(op=1/\AM (env R) 97 [.agg ((Ag t).map .pv)] λr=>A7 (g t) r)\/(op=2/\AM (env R) 128 [.agg ((Ag t).map .pv),AB n] λr=>A7 (g t) r)
theorem ADi {op n:Int} {ts:List Ty} {a:AV} (ha:Ao a (AZ ts)) (hl:ts.length<2 ^ 37) {k i:Int} {nm:List UInt8} {g:Ty->Ty} (ih:∀t∈ts,OpC R op n g t) {Post:AV->Prop} (hP:∀r,A7 (.mk k nm i (ts.map g)) r->Post r) :
  ∀(j q:Nat) (s:AL) (b:AV),q+j=ts.length->s.bs[0]?=some [AB k,SS nm,AB i,a]->s.bs[1]?=some Z4->s.bs[2]?=some [AB k,SS nm,AB i,b]->Dr 0 s.ts 25 b (AZ ((ts.take q).map g)) ->
   Y3 R 0 0 0 (AB op) (AB n) (.ptr 0 0) (.ptr 1 0) (.ptr 2 0) (AB q) s (QP Post):=by
 intro j
 induction j with
 | zero=>
  intro q s b hi h0 h1 h2 hb;refine xU (AK (AP h0) (AU (off:=3) h0 rfl (Al (n:=ts.length) (by rw[ha.A9,AQ]) (Ai ?_))));rw[Aw (by omega)];rw[CL (by omega)] at hb;exact Aq (ALe (Ae h2 rfl (Gl h1 rfl (t:=.mk k nm i (ts.map g)) ⟨b,rfl,hb.A1⟩ hP)))
 | succ j D7=>
  intro q s b hi h0 h1 h2 hb;refine xU (AK (AP h0) (AU (off:=3) h0 rfl (Al (n:=ts.length) (by rw[ha.A9,AQ]) (Ai ?_))));rw[Ap (by omega)];obtain⟨t,ht⟩:∃t,ts[q]?=some t:=⟨_,Ak (by omega)⟩
  have fin:∀v,A7 (g t) v->Ct false s 4 [(AB 0),(SS []),(AB 0),(.AA [])] 1 [(0,4,v)] λa51 s1x1=>(4=4/\4≠0)/\Cx false (Dh (env R) 127 0 0 0) s 25 4 56 b a51 λa52 AQ3=>Ax AQ3 (.ptr 2 0) 3 λa53=>Ci (Dh (env R) 127 0 0 0) AQ3 1 a53 a52 λADQ=>
    (Ax s (.ptr 2 0) 3 λv=>Tel.Bl v (.ptr 2 (0+3))=true)/\(FC (env R) s none (.ptr 2 (0+3)) λvx4=>Tel.Bl vx4 b=true)/\UQ R 0 0 0 (AB op) (AB n) (.ptr 0 0) (.ptr 1 0) (.ptr 2 0) (AB q) ADQ (QP Post):=by
   intro v hv;refine FR hv.G6 ⟨by decide,Yb hb rfl (by grind) ?_⟩;intro b' HP hb';have hqt:(ts.take q).map g++[g t]=(ts.take (q+1)).map g:=by grind[List.take_add_one]
   rw[hqt] at hb';refine AK (AP h2) (DG h2 (by simp) hb'.A1.cells (AI _) hb'.A1.ok (.inl (AI _)) ?_);refine⟨AK (AP h2) (EP _ _),AU (off:=3) h2 rfl (HK hb),ALf (Ba (by omega) (by omega) ?_)⟩;have:=D7 (q+1) ⟨s.bs.set 2 [AB k,SS nm,AB i,b'],HP⟩ b' (by omega) (BS h0 (by decide)) (BS h1 (by decide)) (Bf h2) hb'
   grind
  refine BH (ALg (Ay ?_));rcases ih t (A5 ht) with ⟨rfl,hc⟩|⟨rfl,hc⟩|⟨rfl,hc⟩
  .exact BH (AK (AP h2) (AU (off:=3) h2 rfl (AK (AP h0) (AU (off:=3) h0 rfl (BK ha (row:=Ag t) (by omega) (by grind[BG]) (Af t) (by omega) (Cd (AD hc fin)))))))
  .exact Aq (Ay (BH (AK (AP h2) (AU (off:=3) h2 rfl (AK (AP h0) (AU (off:=3) h0 rfl (BK ha (row:=Ag t) (by omega) (by grind[BG]) (Af t) (by omega) (Cd (AD hc fin)))))))))
  .exact Aq (Ay (Aq (AK (AP h2) (AU (off:=3) h2 rfl (AK (AP h0) (AU (off:=3) h0 rfl (BK ha (row:=Ag t) (by omega) (by grind[BG]) (Af t) (by omega) (Cd (AD hc fin)))))))))
theorem Y6 {op n:Int} {g:Ty->Ty} {k i:Int} {nm:List UInt8} {ts:List Ty} (hl:ts.length<2 ^ 37) (ih:(k==2||k==3)=true->∀t∈ts,OpC R op n g t) {x:AV} (hx:A7 (.mk k nm i ts) x):AM (env R) 127 [x,AB op,AB n] λr=>A7 (bif k==2||k==3 then .mk k nm i (ts.map g) else .mk k nm i ts) r:=by
 obtain⟨a,rfl,ha⟩:=hx
 suffices H:∀Post:AV->Prop,(∀r,A7 (bif k==2||k==3 then .mk k nm i (ts.map g) else .mk k nm i ts) r->Post r)->iB R 0 0 0 (.agg [AB k,SS nm,AB i,a]) (AB op) (AB n) ⟨[],[]⟩ (QP Post) from
  AXE (u0:=.agg [AB k,SS nm,AB i,a]) (u1:=AB op) (u2:=AB n) (by simp[ha.close]) (H _ λr h=>h)
 intro Post hP;refine ALh (Bu (cs:=[AB k,SS nm,AB i,a]) rfl (by simp[ha.ok]) (Bq ?_));simp only[Ce,CJ,Dx,CT,CP];have g0:(AL.mk [[AB k,SS nm,AB i,a],Z4] []).bs[0]?=some [AB k,SS nm,AB i,a]:=rfl;have g1:(AL.mk [[AB k,SS nm,AB i,a],Z4] []).bs[1]?=some Z4:=rfl
 have copy:(k==2||k==3)=true->iC R 0 0 0 (AB op) (AB n) (.ptr 0 0) (.ptr 1 0) ⟨[[AB k,SS nm,AB i,a],Z4],[]⟩ (QP Post):=by
  intro hk;rw[hk] at hP;simp only[AN] at hP;refine ALi (Ae g0 rfl (Bq (CG (Az _ _) rfl rfl (by decide) (AI _) (by simp[ha.ok]) (.inl (AI _)) ?_)))
  show Ax ⟨[[AB k,SS nm,AB i,a],Z4,[AB k,SS nm,AB i,a]],[]⟩ _ _ _
  have g2:(AL.mk [[AB k,SS nm,AB i,a],Z4,[AB k,SS nm,AB i,a]] []).bs[2]?=some [AB k,SS nm,AB i,a]:=rfl;refine AK (AP g2) (DG (off:=3) g2 (by simp) rfl (AI _) rfl (.inl (AI _)) ?_);exact ADi (g:=g) ha hl (ih hk) (λr h=>hP r h) ts.length 0 _ (.AA []) (by omega) rfl rfl rfl (.inl rfl)
 refine AK (AP g0) (AU (off:=0) g0 rfl (FD ?_));cases h3:(k==3) with
 | true=>
  simp_all
 | false=>
  have:(k != 3)=true:=by grind
  rw[this];refine Am (AK (AP g0) (Am (AU (off:=0) g0 rfl (Am (FD (pk ?_))))));cases h2:(k==2) with
  | true=>
   simp_all
  | false=>
   have:(k != 2)=true:=by grind
   simp only[this,AN];rw[h2,h3] at hP;exact BH (Ae g0 rfl (Gl g1 rfl (t:=.mk k nm i ts) ⟨a,rfl,.inl ha⟩ hP))
theorem Qd {f:Int->Ty} {k i:Int} {nm:List UInt8} {ts:List Ty} (h5:(k==5)=false):CH f (.mk k nm i ts)=bif k==2||k==3 then .mk k nm i (ts.map (CH f)) else .mk k nm i ts:=by grind[CH,UP]
theorem UR {k i:Int} {nm:List UInt8} {ts:List Ty} (h5:(k==5)=false) (h:Wy (.mk k nm i ts)=true):(k==2||k==3)=true->Qc ts=true:=by grind[Wy]
mutual
theorem Nz {n:Nat} (hn:n<2 ^ 60):∀(t:Ty),size t<2 ^ 37->Wy t=true->∀(x:AV),A7 t x->AM (env R) 112 [x,AB n] λr=>A7 (IB n t) r
 | .mk k nm i ts,h,hv,x,hx=>by
  have hx0:=hx;obtain⟨a,rfl,ha⟩:=hx;simp only[size] at h;have hln:=BQ ts;have hma:=λh5:(k==5)=false=>Y6 (R:=R) (op:=0) (n:=n) (g:=IB n) (by omega) (λhk t ht=>.inl ⟨rfl,RH hn ts (by omega) (UR h5 hv hk) t ht⟩) hx0
  suffices H:∀Post:AV->Prop,(∀r,A7 (IB n (.mk k nm i ts)) r->Post r)->iD R 0 0 0 (.agg [AB k,SS nm,AB i,a]) (AB n) ⟨[],[]⟩ (QP Post) from
   AXF (u0:=.agg [AB k,SS nm,AB i,a]) (u1:=AB n) (by simp[ha.close]) (H _ λr h=>h)
  intro Post hP;refine ALj (Bu (cs:=[AB k,SS nm,AB i,a]) rfl (by simp[ha.ok]) (Bq ?_));simp only[Ce,CJ,Dx,CT,CP];have g0:(AL.mk [[AB k,SS nm,AB i,a],Z4] []).bs[0]?=some [AB k,SS nm,AB i,a]:=rfl;have g1:(AL.mk [[AB k,SS nm,AB i,a],Z4] []).bs[1]?=some Z4:=rfl;refine AK (AP g0) (AU (off:=0) g0 rfl (Ay ?_));cases h5:(k==5) with
  | true=>
   have:k=5:=by grind
   subst this;obtain⟨rfl,rfl,hi0,hi1⟩:=SI hv;rw[IB,CH] at hP;have same:(∀r,A7 (var i) r->Post r)->Y7 R 0 0 0 (.ptr 0 0) (.ptr 1 0) ⟨[[AB 5,SS [],AB i,a],Z4],[]⟩ (QP Post):=λhP=>xV (Ae g0 rfl (Gl g1 rfl (t:=var i) ⟨a,rfl,.inl ha⟩ hP))
   refine BH (AK (AP g0) (AU (off:=2) g0 rfl (Nq ?_)))
   by_cases h0:0<=i
   .have e0:i>=0:=h0
    rw[Ap e0];rw[Ap h0] at hP;refine Am (AK (AP g0) (Am (AU (off:=2) g0 rfl (Am (FD (pk ?_))))));cases hh:(i==hole) with
    | true=>
     have:(i != 1073741824)=false:=by
      have:(i==1073741824)=true:=hh
      grind
     simp_all
    | false=>
     have:(i != 1073741824)=true:=by
      have:(i==1073741824)=false:=hh
      grind
     simp only[this,AN];rw[hh] at hP;refine BH (AK (AP g0) (AU (off:=2) g0 rfl (Ba (by omega) (by omega) (AK (AP g0) (DG (off:=2) g0 (by simp) rfl (AI _) rfl (.inl (AI _)) ?_)))));have rL:(AL.mk ([[AB 5,SS [],AB i,a],Z4].set 0 ([AB 5,SS [],AB i,a].set 2 (AB (i+n)))) []).bs[0]?=some [AB 5,SS [],AB (i+n),a]:=rfl;have g1':(AL.mk ([[AB 5,SS [],AB i,a],Z4].set 0 ([AB 5,SS [],AB i,a].set 2 (AB (i+n)))) []).bs[1]?=some Z4:=rfl;exact xV (Ae rL rfl (Gl g1' rfl (t:=var (i+n)) ⟨a,rfl,.inl ha⟩ hP))
   grind[Bm,pk,Aq]
  | false=>
   rw[IB,Qd h5] at hP;refine Aq (ALk (Ae g0 rfl (AD (hma h5) ?_)));intro r hr;obtain⟨rc,rfl⟩:=hr.G6.agg;exact Gl g1 rfl hr.G6 hP
theorem RH {n:Nat} (hn:n<2 ^ 60):∀(l:List Ty),AY l<2 ^ 37->Qc l=true->∀t∈l,AM (env R) 112 [.agg ((Ag t).map .pv),AB n] λr=>A7 (IB n t) r
 | [],_,_,_,h=>by cases h
 | e::l,h,hv,t,hm=>by
  simp only[AY] at h;simp only[Qc,AG] at hv;rcases A6.1 hm with h' | h'
  .rw[h']
   exact Nz hn e (by omega) hv.1 _ (A7.BZ e)
  .exact RH hn l (by omega) hv.2 t h'
end
mutual
theorem Wz:∀(t:Ty),size t<2 ^ 37->Wy t=true->∀(x:AV),A7 t x->AM (env R) 97 [x] λr=>A7 (rI t) r
 | .mk k nm i ts,h,hv,x,hx=>by
  have hx0:=hx;obtain⟨a,rfl,ha⟩:=hx;simp only[size] at h;have hln:=BQ ts;have hma:=λh5:(k==5)=false=>Y6 (R:=R) (op:=1) (n:=0) (g:=rI) (by omega) (λhk t ht=>.inr (.inl ⟨rfl,US ts (by omega) (UR h5 hv hk) t ht⟩)) hx0
  suffices H:∀Post:AV->Prop,(∀r,A7 (rI (.mk k nm i ts)) r->Post r)->xW R 0 0 0 (.agg [AB k,SS nm,AB i,a]) ⟨[],[]⟩ (QP Post) from
   e97 (u0:=.agg [AB k,SS nm,AB i,a]) (by simp[ha.close]) (H _ λr h=>h)
  intro Post hP;refine AQ4 (Bu (cs:=[AB k,SS nm,AB i,a]) rfl (by simp[ha.ok]) (Bq ?_));simp only[Ce,CJ,Dx,CT,CP];have g0:(AL.mk [[AB k,SS nm,AB i,a],Z4] []).bs[0]?=some [AB k,SS nm,AB i,a]:=rfl;have g1:(AL.mk [[AB k,SS nm,AB i,a],Z4] []).bs[1]?=some Z4:=rfl;refine AK (AP g0) (AU (off:=0) g0 rfl (Ay ?_));cases h5:(k==5) with
  | true=>
   have:k=5:=by grind
   subst this;obtain⟨rfl,rfl,hi0,hi1⟩:=SI hv;rw[rI,CH] at hP;refine BH (AK (AP g0) (AU (off:=2) g0 rfl (QJ (by omega) (by omega) (AD (PL (-1-i)) ?_))));rintro _ rfl;exact Gl g1 rfl (t:=var (-1-i)) (SJ _).G6 hP
  | false=>
   rw[rI,Qd h5] at hP;refine Aq (AQ5 (Ae g0 rfl (AD (hma h5) ?_)));intro r hr;obtain⟨rc,rfl⟩:=hr.G6.agg;exact Gl g1 rfl hr.G6 hP
theorem US:∀(l:List Ty),AY l<2 ^ 37->Qc l=true->∀t∈l,AM (env R) 97 [.agg ((Ag t).map .pv)] λr=>A7 (rI t) r
 | [],_,_,_,h=>by cases h
 | e::l,h,hv,t,hm=>by
  simp only[AY] at h;simp only[Qc,AG] at hv;rcases A6.1 hm with h' | h'
  .rw[h']
   exact Wz e (by omega) hv.1 _ (A7.BZ e)
  .exact US l (by omega) hv.2 t h'
end
mutual
theorem W0 (n:Nat):∀(t:Ty),size t<2 ^ 37->Wy t=true->∀(x:AV),A7 t x->AM (env R) 128 [x,AB n] λr=>A7 (JM n t) r
 | .mk k nm i ts,h,hv,x,hx=>by
  have hx0:=hx;obtain⟨a,rfl,ha⟩:=hx;simp only[size] at h;have hln:=BQ ts;have hma:=λh5:(k==5)=false=>Y6 (R:=R) (op:=2) (n:=n) (g:=JM n) (by omega) (λhk t ht=>.inr (.inr ⟨rfl,UT n ts (by omega) (UR h5 hv hk) t ht⟩)) hx0
  suffices H:∀Post:AV->Prop,(∀r,A7 (JM n (.mk k nm i ts)) r->Post r)->iE R 0 0 0 (.agg [AB k,SS nm,AB i,a]) (AB n) ⟨[],[]⟩ (QP Post) from
   AXG (u0:=.agg [AB k,SS nm,AB i,a]) (u1:=AB n) (by simp[ha.close]) (H _ λr h=>h)
  intro Post hP;refine ALl (Bu (cs:=[AB k,SS nm,AB i,a]) rfl (by simp[ha.ok]) (Bq ?_));simp only[Ce,CJ,Dx,CT,CP];have g0:(AL.mk [[AB k,SS nm,AB i,a],Z4] []).bs[0]?=some [AB k,SS nm,AB i,a]:=rfl;have g1:(AL.mk [[AB k,SS nm,AB i,a],Z4] []).bs[1]?=some Z4:=rfl;refine AK (AP g0) (AU (off:=0) g0 rfl (Ay ?_));cases h5:(k==5) with
  | true=>
   have:k=5:=by grind
   subst this;obtain⟨rfl,rfl,hi0,hi1⟩:=SI hv;rw[JM,CH] at hP;refine BH (AK (AP g0) (AU (off:=2) g0 rfl (Ay ?_)));cases hm1:(i==-1) with
   | true=>
    rw[hm1] at hP;refine BH (AD (PL n) ?_);rintro _ rfl;exact Gl g1 rfl (t:=var n) (SJ _).G6 hP
   | false=>
    rw[hm1] at hP;refine Aq (AK (AP g0) (AU (off:=2) g0 rfl (Ai ?_)))
    by_cases h0:i<0
    .rw[Ap h0] at hP ⊢
     refine BH (AK (AP g0) (AU (off:=2) g0 rfl (Ba (by omega) (by omega) (AD (PL (i+1)) ?_))));rintro _ rfl;exact Gl g1 rfl (t:=var (i+1)) (SJ _).G6 hP
    .rw[Aw h0] at hP ⊢
     exact Aq (ALm (Ae g0 rfl (Gl g1 rfl (t:=var i) ⟨a,rfl,.inl ha⟩ hP)))
  | false=>
   rw[JM,Qd h5] at hP;refine Aq (ALn (Ae g0 rfl (AD (hma h5) ?_)));intro r hr;obtain⟨rc,rfl⟩:=hr.G6.agg;exact Gl g1 rfl hr.G6 hP
theorem UT (n:Nat):∀(l:List Ty),AY l<2 ^ 37->Qc l=true->∀t∈l,AM (env R) 128 [.agg ((Ag t).map .pv),AB n] λr=>A7 (JM n t) r
 | [],_,_,_,h=>by cases h
 | e::l,h,hv,t,hm=>by
  simp only[AY] at h;simp only[Qc,AG] at hv;rcases A6.1 hm with h' | h'
  .rw[h']
   exact W0 n e (by omega) hv.1 _ (A7.BZ e)
  .exact UT n l (by omega) hv.2 t h'
end
end
section
variable {R:RT}
theorem ADk {ts:List Ty} {a:AV} (ha:Ao a (AZ ts)) (hl:ts.length<2 ^ 37) {n i:Int} {nm:List UInt8} {p:Int->Bool} (ih:∀t∈ts,AM (env R) 105 [.agg ((Ag t).map .pv),AB n] λr=>r=BB (oA p t)) {s:AL} (g0:s.bs[0]?=some [AB 2,SS nm,AB i,a]) {Post:AV->Prop} (hP:Post (BB (Vv p ts))) :
  ∀(j q:Nat),q+j=ts.length->Vv p (ts.drop q)=Vv p ts->Y8 R 0 0 0 (AB n) (.ptr 0 0) (AB q) s (QP Post):=by
 intro j
 induction j with
 | zero=>
  intro q hi ho;refine iG (AK (AP g0) (AU (off:=0) g0 rfl (Ay (Am (Am (AK (AP g0) (Am (AU (off:=3) g0 rfl (Am (Al (n:=ts.length) (by rw[ha.A9,AQ]) (Am (Ai (pk ?_)))))))))))));rw[Aw (by omega)];rw[Bt (by omega),Vv] at ho;rw[<-ho] at hP;exact Aq (xX ⟨_,Fz,hP⟩)
 | succ j D7=>
  intro q hi ho;refine iG (AK (AP g0) (AU (off:=0) g0 rfl (Ay (Am (Am (AK (AP g0) (Am (AU (off:=3) g0 rfl (Am (Al (n:=ts.length) (by rw[ha.A9,AQ]) (Am (Ai (pk ?_)))))))))))));rw[Ap (by omega)];obtain⟨t,ht⟩:∃t,ts[q]?=some t:=⟨_,Ak (by omega)⟩;rw[drop_cons ht,Vv] at ho;refine BH (ALo (AK (AP g0) (AU (off:=3) g0 rfl (BK ha (row:=Ag t) (by omega) (by simp[*,BG]) (Af t) (by omega) (Cd (AD (ih t (A5 ht)) ?_))))));rintro _ rfl;cases qx:oA p t with
  | true=>
   rw[qx] at ho;rw[<-ho] at hP;exact BH ⟨_,Fz,hP⟩
  | false=>
   rw[qx] at ho;refine Aq (ALp (Ba (by omega) (by omega) ?_));have:=D7 (q+1) (by omega) (by simpa using ho);simpa using this
mutual
theorem l9 (n:Int):∀(t:Ty),size t<2 ^ 37->∀(x:AV),A7 t x->AM (env R) 105 [x,AB n] λr=>r=BB (oA (·==n) t)
 | .mk k nm i ts,h,x,hx=>by
  obtain⟨a,rfl,ha⟩:=hx;simp only[size] at h;have hln:=BQ ts
  suffices H:∀Post:AV->Prop,Post (BB (oA (·==n) (.mk k nm i ts)))->iH R 0 0 0 (.agg [AB k,SS nm,AB i,a]) (AB n) ⟨[],[]⟩ (QP Post) from
   AXH (u0:=.agg [AB k,SS nm,AB i,a]) (u1:=AB n) (by simp[ha.close]) (H _ rfl)
  intro Post hP;refine ALq (Bu (cs:=[AB k,SS nm,AB i,a]) rfl (by simp[ha.ok]) ?_);simp only[Ce,CJ];have g0:(AL.mk [[AB k,SS nm,AB i,a]] []).bs[0]?=some [AB k,SS nm,AB i,a]:=rfl;refine AK (AP g0) (AU (off:=0) g0 rfl (Ay ?_));rw[oA] at hP;cases h5:(k==5) with
  | true=>
   rw[h5] at hP;exact BH (AK (AP g0) (AU (off:=2) g0 rfl (Ay ⟨_,Fz,hP⟩)))
  | false=>
   rw[h5] at hP;refine Aq (ALr ?_);cases h2:(k==2) with
   | true=>
    have:k=2:=by grind
    subst this;exact ADk (p:=(·==n)) ha (by omega) (cr n ts (by omega)) g0 hP ts.length 0 (by omega) rfl
   | false=>
    rw[h2] at hP;refine iG (AK (AP g0) (AU (off:=0) g0 rfl (Ay ?_)));rw[h2];exact Bm (Bm (Bm (Bm (Bm (pk (Aq (xX ⟨_,Fz,hP⟩)))))))
theorem cr (n:Int):∀(l:List Ty),AY l<2 ^ 37->∀t∈l,AM (env R) 105 [.agg ((Ag t).map .pv),AB n] λr=>r=BB (oA (·==n) t)
 | [],_,_,h=>by cases h
 | e::l,h,t,hm=>by
  simp only[AY] at h;rcases A6.1 hm with h' | h'
  .rw[h']
   exact l9 n e (by omega) _ (A7.BZ e)
  .exact cr n l (by omega) t h'
end
theorem ADl {ts:List Ty} {a:AV} (ha:Ao a (AZ ts)) (hl:ts.length<2 ^ 37) {n i:Int} {nm:List UInt8} {p:Int->Bool} (ih:∀t∈ts,AM (env R) 66 [.agg ((Ag t).map .pv),AB n] λr=>r=BB (oI p t)) {s:AL} (g0:s.bs[0]?=some [AB 3,SS nm,AB i,a]) {Post:AV->Prop} (hP:Post (BB (QA p ts))) :
  ∀(j q:Nat),q+j=ts.length->QA p (ts.drop q)=QA p ts->mA R 0 0 0 (AB n) (.ptr 0 0) (AB q) s (QP Post):=by
 intro j
 induction j with
 | zero=>
  intro q hi ho;refine xY (AK (AP g0) (AU (off:=0) g0 rfl (Ay (Am (Am (AK (AP g0) (Am (AU (off:=3) g0 rfl (Am (Al (n:=ts.length) (by rw[ha.A9,AQ]) (Am (Ai (pk ?_)))))))))))));rw[Aw (by omega)];rw[Bt (by omega),QA] at ho;rw[<-ho] at hP;exact Aq (AFc ⟨_,Fz,hP⟩)
 | succ j D7=>
  intro q hi ho;refine xY (AK (AP g0) (AU (off:=0) g0 rfl (Ay (Am (Am (AK (AP g0) (Am (AU (off:=3) g0 rfl (Am (Al (n:=ts.length) (by rw[ha.A9,AQ]) (Am (Ai (pk ?_)))))))))))));rw[Ap (by omega)];obtain⟨t,ht⟩:∃t,ts[q]?=some t:=⟨_,Ak (by omega)⟩;rw[drop_cons ht,QA] at ho;refine BH (AQ6 (AK (AP g0) (AU (off:=3) g0 rfl (BK ha (row:=Ag t) (by omega) (by simp[*,BG]) (Af t) (by omega) (Cd (AD (ih t (A5 ht)) ?_))))));rintro _ rfl;cases qx:oI p t with
  | true=>
   rw[qx] at ho;rw[<-ho] at hP;exact BH ⟨_,Fz,hP⟩
  | false=>
   rw[qx] at ho;refine Aq (AQ7 (Ba (by omega) (by omega) ?_));have:=D7 (q+1) (by omega) (by simpa using ho);simpa using this
mutual
theorem mB (n:Int):∀(t:Ty),size t<2 ^ 37->∀(x:AV),A7 t x->AM (env R) 66 [x,AB n] λr=>r=BB (oI (·==n) t)
 | .mk k nm i ts,h,x,hx=>by
  have hoA:=l9 (R:=R) n (.mk k nm i ts) h x hx;obtain⟨a,rfl,ha⟩:=hx;simp only[size] at h;have hln:=BQ ts
  suffices H:∀Post:AV->Prop,Post (BB (oI (·==n) (.mk k nm i ts)))->xZ R 0 0 0 (.agg [AB k,SS nm,AB i,a]) (AB n) ⟨[],[]⟩ (QP Post) from
   e66 (u0:=.agg [AB k,SS nm,AB i,a]) (u1:=AB n) (by simp[ha.close]) (H _ rfl)
  intro Post hP;refine AQ8 (Bu (cs:=[AB k,SS nm,AB i,a]) rfl (by simp[ha.ok]) ?_);simp only[Ce,CJ];have g0:(AL.mk [[AB k,SS nm,AB i,a]] []).bs[0]?=some [AB k,SS nm,AB i,a]:=rfl;refine AK (AP g0) (AU (off:=0) g0 rfl (Ay ?_));rw[oI] at hP;cases h2:(k==2) with
  | true=>
   rw[h2] at hP;refine BH (Ae g0 rfl (AD hoA ?_));rintro _ rfl;exact⟨_,Fz,hP⟩
  | false=>
   rw[h2] at hP;refine Aq (AQ9 ?_);cases h3:(k==3) with
   | true=>
    have:k=3:=by grind
    subst this;exact ADl (p:=(·==n)) ha (by omega) (cu n ts (by omega)) g0 hP ts.length 0 (by omega) rfl
   | false=>
    rw[h3] at hP;refine xY (AK (AP g0) (AU (off:=0) g0 rfl (Ay ?_)));rw[h3];exact Bm (Bm (Bm (Bm (Bm (pk (Aq (AFc ⟨_,Fz,hP⟩)))))))
theorem cu (n:Int):∀(l:List Ty),AY l<2 ^ 37->∀t∈l,AM (env R) 66 [.agg ((Ag t).map .pv),AB n] λr=>r=BB (oI (·==n) t)
 | [],_,_,h=>by cases h
 | e::l,h,t,hm=>by
  simp only[AY] at h;rcases A6.1 hm with h' | h'
  .rw[h']
   exact mB n e (by omega) _ (A7.BZ e)
  .exact cu n l (by omega) t h'
end
theorem pP {L:A3} {s:AL} {a y:AV} {l m:List Int} {K:AV->AL->Prop} (ha:Dr 0 s.ts 3 a (AW l)) (Eb:L.rt=0) (hl:l.length+m.length<2 ^ 40) (hy:BJ y (AW m)) (h:∀a' ts',Dr 0 ts' 3 a' (AW (l++m))->CY a a' s.ts ts'->K a' ⟨s.bs,ts'⟩) :
  Cx false L s 3 1 8 a y K:=by
 have h1:=BW l;have h2:=BW m;refine QS (m:=AW m) ha Eb DV DV (by omega) (De hy DV) ?_ (by omega) (by omega) λa' ts' h3 h4=>h a' ts' (by grind[AW]) h4
 rw[C2];intro c hc;obtain⟨p,hp,rfl⟩:=C3.1 hc;obtain⟨r,hr,hpr⟩:=Xa.1 hp;simp only[AW,C3] at hr;obtain⟨n,_,rfl⟩:=hr
 simp_all
theorem ADm {ts:List Ty} {a:AV} (ha:Ao a (AZ ts)) (hl:AY ts<2 ^ 37) {i:Int} {nm:List UInt8} (ih:∀t∈ts,AM (env R) 76 [.agg ((Ag t).map .pv)] λr=>Ao r (AW (Aj t))) {bs:List (List AV)} (g0:bs[0]?=some [AB 3,SS nm,AB i,a]) {Post:AV->Prop} (hP:∀r,Ao r (AW (Bp ts))->Post r) :
  ∀(j q:Nat) (tk:List (Nat×Nat)) (b:AV) (l:List Int),q+j=ts.length->l++Bp (ts.drop q)=Bp ts->Dr 0 tk 3 b (AW l)->mC R 0 0 0 (.ptr 0 0) b (AB q) ⟨bs,tk⟩ (QP Post):=by
 have hln:=BQ ts;have Bi:=Nt ts;intro j
 induction j with
 | zero=>
  intro q tk b l hi ho hb;refine xd (AK (AP g0) (AU (off:=0) g0 rfl (Ay (Am (Am (AK (AP g0) (Am (AU (off:=3) g0 rfl (Am (Al (n:=ts.length) (by rw[ha.A9,AQ]) (Am (Ai (pk ?_)))))))))))));rw[Aw (by omega)];rw[Bt (by omega),Bp,Gb] at ho;subst ho;obtain⟨r,c1,c2⟩:=Nr hb bs 0;exact Aq (AFd ⟨r,c1,hP r c2⟩)
 | succ j D7=>
  intro q tk b l hi ho hb;refine xd (AK (AP g0) (AU (off:=0) g0 rfl (Ay (Am (Am (AK (AP g0) (Am (AU (off:=3) g0 rfl (Am (Al (n:=ts.length) (by rw[ha.A9,AQ]) (Am (Ai (pk ?_)))))))))))));rw[Ap (by omega)];obtain⟨t,ht⟩:∃t,ts[q]?=some t:=⟨_,Ak (by omega)⟩;rw[drop_cons ht,Bp,<-FY] at ho;have hlen:(l++Aj t).length<=(Bp ts).length:=by grind
  rw[CD] at hlen;refine BH (ARA (AK (AP g0) (AU (off:=3) g0 rfl (BK ha (row:=Ag t) (by omega) (by grind[BG]) (Af t) (by omega) (Cd (AD (ih t (A5 ht)) ?_))))));intro v hv;refine⟨by decide,pP hb rfl (by omega) (.inl hv) λb' HP hb' _=>ARB (Ba (by omega) (by omega) ?_)⟩
  grind
mutual
theorem Qe:∀(t:Ty),size t<2 ^ 37->∀(x:AV),A7 t x->AM (env R) 76 [x] λr=>Ao r (AW (Aj t))
 | .mk k nm i ts,h,x,hx=>by
  obtain⟨a,rfl,ha⟩:=hx;simp only[size] at h;have hln:=BQ ts
  suffices H:∀Post:AV->Prop,(∀r,Ao r (AW (Aj (.mk k nm i ts)))->Post r)->xe R 0 0 0 (.agg [AB k,SS nm,AB i,a]) ⟨[],[]⟩ (QP Post) from
   e76 (u0:=.agg [AB k,SS nm,AB i,a]) (by simp[ha.close]) (H _ λr h=>h)
  intro Post hP;refine ARC (Bu (cs:=[AB k,SS nm,AB i,a]) rfl (by simp[ha.ok]) ?_);simp only[Ce,CJ];have g0:(AL.mk [[AB k,SS nm,AB i,a]] []).bs[0]?=some [AB k,SS nm,AB i,a]:=rfl;refine AK (AP g0) (AU (off:=0) g0 rfl (Ay ?_));rw[Aj] at hP;cases h5:(k==5) with
  | true=>
   rw[h5] at hP;refine BH (AK (AP g0) (AU (off:=2) g0 rfl (PA ?_)));exact⟨_,(Ao.AA _).close _ _ _,hP _ (by grind[AW,Ao.AA])⟩
  | false=>
   rw[h5] at hP;refine Aq (ARD ?_);cases h3:(k==3) with
   | true=>
    have:k=3:=by grind
    subst this;exact ADm ha (by omega) (UU ts (by omega)) g0 hP ts.length 0 [] (.AA []) [] (by omega) rfl (.inl rfl)
   | false=>
    rw[h3] at hP;refine xd (AK (AP g0) (AU (off:=0) g0 rfl (Ay ?_)));rw[h3];exact Bm (Bm (Bm (Bm (Bm (pk (Aq (AFd ⟨_,(Ao.AA _).close _ _ _,hP _ (.AA _)⟩)))))))
theorem UU:∀(l:List Ty),AY l<2 ^ 37->∀t∈l,AM (env R) 76 [.agg ((Ag t).map .pv)] λr=>Ao r (AW (Aj t))
 | [],_,_,h=>by cases h
 | e::l,h,t,hm=>by
  simp only[AY] at h;rcases A6.1 hm with h' | h'
  .rw[h']
   exact Qe e (by omega) _ (A7.BZ e)
  .exact UU l (by omega) t h'
end
def W4 (b:Ty):Int:=match GL b with
 | some k=>k
 | none=>-1
theorem ADn {l:List Int} {y:AV} (hy:Ao y (AW l)) (hl:l.length<2 ^ 40) {s:AL} {Post:AV->Prop} (hP:Post (AB (match l.findIdx? (·==hole) with
   | some k=>k
   | none=>-1))):∀(j q:Nat),q+j=l.length->(∀x∈l.take q,(x==hole)=false)->Y9 R 0 0 0 y (AB q) s (QP Post):=by
 intro j
 induction j with
 | zero=>
  intro q hi ho;refine xh (Al (n:=l.length) (by rw[hy.A9,BW]) (Ai ?_));rw[Aw (by omega)];rw[CL (by omega)] at ho;have:l.findIdx? (·==hole)=none:=by grind
  rw[this] at hP;exact Aq (ALs ⟨_,Fz,hP⟩)
 | succ j D7=>
  intro q hi ho;refine xh (Al (n:=l.length) (by rw[hy.A9,BW]) (Ai ?_));rw[Ap (by omega)];obtain⟨c,hc⟩:∃t,l[q]?=some t:=⟨_,Ak (by omega)⟩;refine BH (ALt (BK hy (row:=[.sc (.int .i64 c)]) (by omega) (by simp[*,AW]) rfl (by omega) (El (Ay ?_))));cases hh:(c==hole) with
  | true=>
   have e1:(c==1073741824)=true:=hh;rw[e1]
   have:l.findIdx? (·==hole)=some q:=by
    obtain⟨hlt,hge⟩:=BL.1 hc;rw[jX];refine⟨hlt,by grind,λj hj=>?_⟩;have:=ho l[j] (MV.2 ⟨j,by grind,by rw[List.getElem_take]⟩)
    grind
   rw[this] at hP;exact BH ⟨_,Fz,hP⟩
  | false=>
   have e1:(c==1073741824)=false:=hh;rw[e1];refine Aq (ALu (Ba (by omega) (by omega) ?_));have:=D7 (q+1) (by omega) (λx hx=>by grind[List.take_add_one])
   grind
theorem JX {b:Br} (h:size b.body<2 ^ 37) {x:AV} (hx:CM b x):AM (env R) 129 [x] λr=>r=AB (W4 b.body):=by
 obtain⟨x',h1,h2,h3⟩:=hx.closed;refine AM.open (args':=[x']) (by rfl) (by rfl) rfl h1 h2 ?_;obtain⟨a,y,rfl,ha,hy⟩:=h3;obtain⟨h4,hok,hid,Bi⟩:=hy.cells;refine AXI (u0:=.agg (a::y)) (by omega) (ALv ?_);refine Bu (cs:=a::y) rfl (by simp[ha.ok]; grind) (AK (AP (c:=a) (cs:=y) rfl) ?_)
 show FC _ _ _ (.ptr 0 1) _
 refine Yh rfl h4 (AD (Qe b.body h _ hy) ?_);intro v hv;have:=Gz b.body;exact ADn (Post:=λr=>r=AB (W4 b.body)) hv (by omega) (by rw[W4,GL]) (Aj b.body).length 0 (by omega) (λx hx=>by grind)
end
mutual
def pQ (b:Ty):Ty->Int->Ty
 | .mk c n i ts,k=>bif c==5 then(bif k==0 then b else .mk c n i ts) else bif c==3 then .mk c n i (Qf b ts k) else .mk c n i ts
def Qf (b:Ty):List Ty->Int->List Ty
 | [],_=>[]
 | t::l,k=>pQ b t k::Qf b l (k-(Aj t).length)
end
mutual
theorem mD (b:Ty):∀(t:Ty) (k:Int),k<0\/((Aj t).length:Int)<=k->pQ b t k=t
 | .mk c n i ts,k,h=>by
  rw[Aj] at h;rw[pQ];cases h5:c==5 with
  | true=>
   grind
  | false=>
   cases h3:c==3 with
   | true=>
    rw[h5,h3] at h;simp only[AN,AH] at h ⊢;rw[UW b ts k h]
   | false=>rfl
theorem UW (b:Ty):∀(l:List Ty) (k:Int),k<0\/((Bp l).length:Int)<=k->Qf b l k=l
 | [],_,_=>rfl
 | t::l,k,h=>by
  rw[Bp,CD] at h;rw[Qf,mD b t k (by omega),UW b l (k-(Aj t).length) (by omega)]
end
mutual
theorem xj (b:Ty):∀(t:Ty) (k:Nat),k<(Aj t).length->pQ b t k=QB b t k
 | .mk c n i ts,k,h=>by
  rw[Aj] at h;rw[pQ,QB];cases h5:c==5 with
  | true=>
   grind
  | false=>
   cases hc:c==3 with
   | true=>
    rw[h5,hc] at h;simp only[AN,AH] at h ⊢;rw[mE b ts k h]
   | false=>rfl
theorem mE (b:Ty):∀(l:List Ty) (k:Nat),k<(Bp l).length->Qf b l k=Kh b l k
 | [],_,h=>by rfl
 | t::l,k,h=>by
  rw[Bp,CD] at h;rw[Qf,Kh]
  by_cases hk:k<(Aj t).length
  .rw[Ap hk,AN,xj b t k hk,UW b l _ (by omega)]
  .have:(k:Int)-((Aj t).length:Nat)=((k-(Aj t).length:Nat):Int):=by omega
   rw[Aw hk,AH,mD b t k (by omega),this,mE b l (k-(Aj t).length) (by omega)]
end
section
variable {R:RT}
def xk (R:RT) (C:Nat) (b:Ty) (y:AV) (x:AV) (t:Ty) (k:Int) (s:AL):Prop:=∀(L:A3),L.ro=0->L.rt=0->s.bs[C]?=some [AB k] ->
 ∃w s',(∃ts' ds,w=.agg ds/\BV (pQ b t k) (.agg ds)/\CY (.AA []) (.AA []) s.ts ts'/\s'=⟨s.bs.set C [AB (k-(Aj t).length)],ts'⟩)/\BA (env R) L 111 [x,.ptr C 0,y] s w s'
theorem ADo {C:Nat} {b:Ty} {yc:List AV} {ts:List Ty} {a:AV} (ha:BJ a (AZ ts)) (hl:AY ts<2 ^ 38) {k i k0:Int} {n:List UInt8} (ZQ:-(2 ^ 40)-2 ^ 38<=k0-AY ts) (hk2:k0<2 ^ 40) {s0:AL} (hs0:BM s0) (hC:C<s0.bs.length) (hyl:yc.length=4)
  (ih:∀t∈ts,∀(k:Int) (s:AL),BM s->-(2 ^ 40)-2 ^ 38<=k-size t->k<2 ^ 40->xk R C b (.agg yc) (.agg ((Ag t).map .pv)) t k s)
  {rr:Bool} {Post:AV->AL->Prop}
  (hP:∀ts' ds,CY (.AA []) (.AA []) s0.ts ts'->BV (.mk k n i (Qf b ts k0)) (.agg ds)->Post (.agg ds) ⟨s0.bs.set C [AB (k0-(Bp ts).length)],ts'⟩) :
  ∀(j q:Nat) (kc:Int) (done:List Ty) (bs:List (List AV)) (tk:List (Nat×Nat)) (acc:AV),q+j=ts.length->done++Qf b (ts.drop q) kc=Qf b ts k0->done.length=q->kc-(Bp (ts.drop q)).length=k0-(Bp ts).length->k0-AY ts<=kc-AY (ts.drop q)->kc<2 ^ 40 ->
   BM ⟨bs,tk⟩->bs.take s0.bs.length=s0.bs.set C [AB kc]->bs[s0.bs.length]?=some [AB k,SS n,AB i,a]->bs[s0.bs.length+1]?=some yc->bs[s0.bs.length+2]?=some Z4->bs[s0.bs.length+3]?=some [AB k,SS n,AB i,acc] ->
   Dr 0 tk 25 acc (AZ done)->CY (.AA []) (.AA []) s0.ts tk->DR acc s0.ts ->
   UX R 0 0 0 (.ptr C 0) (.ptr s0.bs.length 0) (.ptr (s0.bs.length+1) 0) (.ptr (s0.bs.length+2) 0) (.ptr (s0.bs.length+3) 0) (AB q) ⟨bs,tk⟩ (QM rr s0.bs.length Post):=by
 have Uv:=BQ ts;intro j
 induction j with
 | zero=>
  intro q kc done bs tk acc hi hd hdl hk hks R2 hs hT h0 h1 h2 h3 hb hch hfr;refine xl (AK (AP h0) (AU (off:=3) h0 rfl (Al (n:=ts.length) (by rw[ha.A9,AQ]) (Ai ?_))));rw[Aw (by omega)];rw[Bt (by omega),Qf,Gb] at hd;rw[Bt (by omega),Bp] at hk;rw[hd] at hb;refine Aq (ALw (Ae h3 rfl (CG h2 rfl rfl (by decide) (AI _) (by simp[hb.A1.ok]) (.inl (AI _)) (Ae (Bf h2) rfl ?_))));obtain⟨ds,c1,c2⟩:=BV.Iz (v:=.mk k n i (Qf b ts k0)) (cs:=[AB k,SS n,AB i,acc]) ⟨acc,rfl,hb.A1⟩ (bs.set (s0.bs.length+2) [AB k,SS n,AB i,acc]) s0.bs.length tk.length;have hkc:kc=k0-(Bp ts).length:=by grind
  rw[hkc] at hT;exact bU hs0 ((C9 (by omega)).trans hT) rfl c1 (hP tk ds hch c2)
 | succ j D7=>
  intro q kc done bs tk acc hi hd hdl hk hks R2 hs hT h0 h1 h2 h3 hb hch hfr;refine xl (AK (AP h0) (AU (off:=3) h0 rfl (Al (n:=ts.length) (by rw[ha.A9,AQ]) (Ai ?_))));rw[Ap (by omega)];obtain⟨t,ht⟩:∃t,ts[q]?=some t:=⟨_,Ak (by omega)⟩;have Uu:=A5 ht;have gK:=ih t Uu;have hdr:ts.drop q=t::ts.drop (q+1):=drop_cons ht;rw[hdr,Qf] at hd;rw[hdr,Bp,CD] at hk;rw[hdr,AY] at hks;have hcs:=Gz t;have l3:=(BL.1 h3).1;have gC:(s0.bs.set C [AB kc])[C]?=some [AB kc]:=by rw[CU hC]
  refine BH (ALx (AK (AP h3) (AU (off:=3) h3 rfl (AK (AP h0) (AU (off:=3) h0 rfl (BR ha (row:=Ag t) (by omega) (by grind[BG]) (Af _) (by omega) (Cd (Ae h1 hyl ?_))))))));obtain⟨w,s',⟨ts',ds,rfl,r4,r2,rfl⟩,r6⟩:=gK kc ⟨bs,tk⟩ hs (by omega) R2 (Dh (env R) 111 0 0 0) rfl rfl (B6 hT gC);have h0':(bs.set C [AB (kc-(Aj t).length)])[s0.bs.length]?=some [AB k,SS n,AB i,a]:=BS h0 (by omega);have Zn:(bs.set C [AB (kc-(Aj t).length)])[s0.bs.length+1]?=some yc:=BS h1 (by omega);have h2':(bs.set C [AB (kc-(Aj t).length)])[s0.bs.length+2]?=some Z4:=BS h2 (by omega);have h3':(bs.set C [AB (kc-(Aj t).length)])[s0.bs.length+3]?=some [AB k,SS n,AB i,acc]:=BS h3 (by omega);refine⟨_,_,r6,FR r4 ⟨by decide,Iy (r2.keep hb (λ_ h=>by cases h)) rfl (by omega) ?_⟩⟩;intro b' HP hb' KZ;refine AK (AP h3') (DG h3' (by simp) hb'.A1.cells (AI _) hb'.A1.ok (.inl (AI _)) ?_);refine⟨AK (AP h3') (EP _ _),AU (off:=3) h3' rfl (HK hb),ALy (Ba (by omega) (by omega) ?_)⟩;have ow:((bs.set C [AB (kc-(Aj t).length)]).set (s0.bs.length+3) [AB k,SS n,AB i,b']).take s0.bs.length=s0.bs.set C [AB (kc-(Aj t).length)]:=by simp[*,C9,EG]
  have hs2:BM ⟨bs.set C [AB (kc-(Aj t).length)],ts'⟩:=BM.set (s:=⟨bs,tk⟩) hs rfl _
  have fin:=D7 (q+1) (kc-(Aj t).length) (done++[pQ b t kc]) _ HP b' (by omega) (by simp[*]) (by grind) (by omega) (by omega) (by omega)
   (BM.set (s:=⟨bs.set C [AB (kc-(Aj t).length)],ts'⟩) hs2 (by simp[Ah,Ar,hb'.A1.Ar]) _) ow (BS h0' (by omega)) (BS Zn (by omega)) (BS h2' (by omega)) (Bf h3')
   hb' ((hch.trans r2).side KZ hfr) (hfr.PC KZ (CN hch.1 r2.1))
  grind
mutual
theorem mF {C:Nat} {b:Ty} {y:AV} (hy:A7 b y):∀(t:Ty),size t<2 ^ 38->∀(x:AV),BV t x->∀(k:Int) (s:AL),BM s->-(2 ^ 40)-2 ^ 38<=k-size t->k<2 ^ 40->xk R C b y x t k s
 | .mk k n i ts,h,x,hx,kc,s,hs,ZQ,hk2,L,hro,Eb,hC=>by
  have lC:=(BL.1 hC).1;have Uv:=BQ ts;simp only[size] at h ZQ;obtain⟨yc,rfl⟩:=hy.G6.agg;have hy':=hy;obtain⟨vu,hyo,hyi,_⟩:=hy'.cells;have hxi:=hx;obtain⟨a,rfl,ha⟩:=hx;refine AXJ (by simp[Bo,GO]) ?_;rw[hro,Eb];have same:s.bs.set C [AB kc]=s.bs:=by grind[List.set_getElem_self]
  refine ALz (Bu (cs:=[AB k,SS n,AB i,a]) rfl (by simp[ha.ok]) (Bu (cs:=yc) rfl hyo (Bq ?_)));simp only[FY,Dx,Ce,CD,CT,CJ,CP,Nat.reduceAdd];have g0:(s.bs++[[AB k,SS n,AB i,a],yc,Z4])[s.bs.length]?=some [AB k,SS n,AB i,a]:=EY (j:=0) rfl rfl;have g1:(s.bs++[[AB k,SS n,AB i,a],yc,Z4])[s.bs.length+1]?=some yc:=EY rfl rfl;have g2:(s.bs++[[AB k,SS n,AB i,a],yc,Z4])[s.bs.length+2]?=some Z4:=EY rfl rfl;have hT:(s.bs++[[AB k,SS n,AB i,a],yc,Z4]).take s.bs.length=s.bs.set C [AB kc]:=by grind
  have hok:BM ⟨s.bs++[[AB k,SS n,AB i,a],yc,Z4],s.ts⟩:=by
   intro d hd;simp only[B9,A6,FZ,Fa] at hd
   show Ah (s.bs++_).length d=true
   rcases hd with hd|rfl|rfl|rfl
   .exact Bn (by simp) d (hs d hd)
   .simp[Ah,Ar,ha.Ar]
   .exact Bn (AI _) _ hyi
   rfl
  have hl:(s.bs++[[AB k,SS n,AB i,a],yc,Z4]).length=s.bs.length+3:=by simp
  generalize s.bs++[[AB k,SS n,AB i,a],yc,Z4]=bs at g0 g1 g2 hT hok hl;have gC:bs[C]?=some [AB kc]:=B6 hT (by grind)
  have back:∀(kd:Int) (bs:List (List AV)) (Post:AV->AL->Prop),bs.take s.bs.length=s.bs.set C [AB kd]->bs[s.bs.length]?=some [AB k,SS n,AB i,a]->bs[s.bs.length+2]?=some Z4 ->
    (∀ds,BV (.mk k n i ts) (.agg ds)->Post (.agg ds) ⟨s.bs.set C [AB kd],s.ts⟩)->FC (env R) ⟨bs,s.ts⟩ (some 4) (.ptr s.bs.length 0) λa26=>Ci (Dh (env R) 111 0 0 0) ⟨bs,s.ts⟩ 4 (.ptr (s.bs.length+2) 0) a26 λpR=>FC (env R) pR (some 4) (.ptr (s.bs.length+2) 0) λr=>QM (L.rr 111) s.bs.length Post r pR:=by
   intro kd bs Post hT g0 g2 hP;refine Ae g0 rfl (CG g2 rfl rfl (by decide) (AI _) (by simp[ha.ok]) (.inl (AI _)) (Ae (Bf g2) rfl ?_));exact T1 hs ((C9 (by omega)).trans hT) rfl (t:=.mk k n i ts) ⟨a,rfl,ha⟩ hP
  refine AK (AP g0) (AU (off:=0) g0 rfl (Ay ?_));cases h5:k==5 with
  | true=>
   have wB:pQ b (.mk k n i ts) kc=bif kc==0 then b else .mk k n i ts:=by grind[pQ]
   have wC:(Aj (.mk k n i ts)).length=1:=by grind[Aj]
   rw[wB,wC];refine BH (C1 (AP gC) (AU (off:=0) gC rfl (QJ (by omega) (by omega) (C1 (AP gC) (DG gC (by simp) rfl (AI _) rfl (.inl (AI _)) ?_)))));have gC':(bs.set C [AB (kc-1)])[C]?=some [AB (kc-1)]:=by rw[CU (by omega)]
   have gM:(bs.set C [AB (kc-1)]).take s.bs.length=s.bs.set C [AB (kc-1)]:=by simp[*,EG]
   refine C1 (AP gC') (AU (off:=0) gC' rfl (Ay ?_));have e0:(kc-1==-1)=(kc==0):=by grind
   rw[e0];cases Ze:kc==0 with
   | true=>
    simp only[AN];refine BH (Ae (BS g1 (by omega)) vu (CG (BS g2 (by omega)) vu rfl (by decide) (AI _) hyo (.inl (AI _)) (Ae (Bf (BS g2 (by omega))) vu ?_)));refine T1 hs ((C9 (by omega)).trans gM) rfl hy'.G6 λds hds=>⟨s.ts,ds,rfl,hds,CY.refl _ _,rfl⟩
   | false=>
    simp only[AH];exact Aq (AL0 (back (kc-1) _ _ gM (BS g0 (by omega)) (BS g2 (by omega)) λds hds=>⟨s.ts,ds,rfl,hds,CY.refl _ _,rfl⟩))
  | false=>
   refine Aq (AL1 (AK (AP g0) (AU (off:=0) g0 rfl (FD ?_))));cases h3:k==3 with
   | false=>
    have hne:(k != 3)=true:=by grind
    rw[hne];have wB:pQ b (.mk k n i ts) kc=.mk k n i ts:=by grind[pQ]
    have wC:(Aj (.mk k n i ts)).length=0:=by grind[Aj]
    rw[wB,wC];exact BH (back kc bs _ hT g0 g2 λds hds=>⟨s.ts,ds,rfl,hds,CY.refl _ _,by simp⟩)
   | true=>
    have hne:(k != 3)=false:=by grind
    rw[hne];have wB:pQ b (.mk k n i ts) kc=.mk k n i (Qf b ts kc):=by grind[pQ]
    have wC:Aj (.mk k n i ts)=Bp ts:=by grind[Aj]
    rw[wB,wC];refine Aq (AL2 (Ae g0 rfl (Bq ?_)));simp only[hl];have gl:(bs++[Z4])[s.bs.length+3]?=some Z4:=by grind
    refine CG gl rfl rfl (by decide) (AI _) (by simp[ha.ok]) (.inl (AI _)) ?_;have gl2:((bs++[Z4]).set (s.bs.length+3) [AB k,SS n,AB i,a])[s.bs.length+3]?=some [AB k,SS n,AB i,a]:=Bf gl;refine AK (AP gl2) (DG (off:=3) gl2 (Ac 4) rfl (AI _) rfl (.inl (AI _)) ?_);have eb:((bs++[Z4]).set (s.bs.length+3) [AB k,SS n,AB i,a]).set (s.bs.length+3) ([AB k,SS n,AB i,a].set 3 (.AA []))=bs++[[AB k,SS n,AB i,.AA []]]:=by grind
    show UX R 0 0 0 _ _ _ _ _ _ ⟨((bs++[Z4]).set (s.bs.length+3) [AB k,SS n,AB i,a]).set (s.bs.length+3) ([AB k,SS n,AB i,a].set 3 (.AA [])),s.ts⟩ _
    rw[eb]
    exact ADo (C:=C) (yc:=yc) ha (by omega) (k0:=kc) (by omega) hk2 hs lC vu (λt hm k s hs h1 h2=>cw hy' ts (by omega) t hm k s hs h1 h2) (λts' ds h1 h2=>⟨ts',ds,rfl,h2,h1,rfl⟩) ts.length 0 kc [] _ s.ts (.AA []) (by omega) (by simp) rfl (by simp) (by simp) hk2
     (BM.app (s:=⟨bs,s.ts⟩) hok (by rfl)) ((D1 (by omega) _).trans hT) (Av g0 _) (Av g1 _) (Av g2 _) (by grind) (.inl rfl) (CY.refl _ _) (DR.AA _ _)
theorem cw {C:Nat} {b:Ty} {y:AV} (hy:A7 b y):∀(ts:List Ty),AY ts<2 ^ 38->∀t∈ts,∀(k:Int) (s:AL),BM s->-(2 ^ 40)-2 ^ 38<=k-size t->k<2 ^ 40->xk R C b y (.agg ((Ag t).map .pv)) t k s
 | [],_,_,h=>by cases h
 | u::l,h,t,hm=>by
  simp only[AY] at h;rcases A6.1 hm with h' | h'
  .rw[h']
   exact mF hy u (by omega) _ (A7.BZ _).G6
  .exact cw hy l (by omega) t h'
end
end
theorem MR {t:Ty} {cs:List AV} (h:BV t (.agg cs)):Tel.Bl (.agg cs) (.agg cs)=true:=by
 obtain⟨k,n,i,ts⟩:=t;obtain⟨a,he,ha⟩:=h
 grind[BJ.Bl,Tel.Bl,IM,NA,GF,Ir]
theorem xm {a:AV} {ds:List AV} {t:Ty} (ha:BE a=true) (hc:cellsOf a=[a]) (h:BV t (.agg ds)):FJ Z5 [(0,1,a),(1,4,.agg ds)]=some (a::ds):=by
 obtain⟨c1,c2,_⟩:=h.cells
 match ds,c1,c2 with
 | [d1,d2,d3,d4],_,c2=>
  simp[*]
theorem N0 {E:Env} {s:AL} {id:Nat} {a:AV} {cs:List AV} {K:AV->Prop} (hb:s.bs[id]?=some (a::cs)) (hk:cs.length=4) (h:K (.agg cs)):FC E s (some 4) (.ptr id (0+1)) K:=Yh hb hk h
section
variable {R:RT}
theorem cx {n:Nat} (hn:n<2 ^ 60) {t:Ty} (h:size t<2 ^ 37) (hv:Wy t=true) {x:AV} (hx:BV t x):AM (env R) 112 [x,AB n] λr=>A7 (IB n t) r:=by
 obtain⟨x',h1,h2⟩:=hx.closed [] 0;exact AM.open (args':=[x',AB n]) (by rfl) (by rfl) rfl (by simp[*]) (by simp[AX,h2.H6,Tel.close]) (Nz hn t h hv x' h2)
theorem iI {t:Ty} (h:size t<2 ^ 37) (hv:Wy t=true) {x:AV} (hx:BV t x):AM (env R) 97 [x] λr=>A7 (rI t) r:=by
 obtain⟨x',h1,h2⟩:=hx.closed [] 0;exact AM.open (args':=[x']) (by rfl) (by rfl) rfl (by simp[*]) (by simp[AX,h2.H6]) (Wz t h hv x' h2)
theorem iJ (n:Nat) {t:Ty} (h:size t<2 ^ 37) (hv:Wy t=true) {x:AV} (hx:BV t x):AM (env R) 128 [x,AB n] λr=>A7 (JM n t) r:=by
 obtain⟨x',h1,h2⟩:=hx.closed [] 0;exact AM.open (args':=[x',AB n]) (by rfl) (by rfl) rfl (by simp[*]) (by simp[AX,h2.H6,Tel.close]) (W0 n t h hv x' h2)
theorem LW (n m:Int) {t:Ty} (h:size t<2 ^ 37) (hv:Wy t=true) {x:AV} (hx:BV t x):AM (env R) 82 [x,AB n,AB m] λr=>A7 (Kg n m t) r:=by
 obtain⟨x',h1,h2⟩:=hx.closed [] 0;exact AM.open (args':=[x',AB n,AB m]) (by rfl) (by rfl) rfl (by simp[*]) (by simp[AX,h2.H6,Tel.close]) (RG n m t h hv x' h2)
theorem xo (n:Int) {t:Ty} (h:size t<2 ^ 37) {x:AV} (hx:BV t x):AM (env R) 66 [x,AB n] λr=>r=BB (oI (·==n) t):=by
 obtain⟨x',h1,h2⟩:=hx.closed [] 0;exact AM.open (args':=[x',AB n]) (by rfl) (by rfl) rfl (by simp[*]) (by simp[AX,h2.H6,Tel.close]) (mB n t h x' h2)
theorem ADp {s:AL} {K:AV->AL->Prop} (hK:K (.AA []) s):Ct false s 4 [(AB 0),(SS []),(AB 0),(.AA [])] 0 [] K:=by
 simpa[Ct,Fg,CR] using hK
theorem mG {b c:Br} {k:Nat} (hk:k<(Aj b.body).length) (Zz:size b.body<2 ^ 37) (hsc:size c.body<2 ^ 37) (hvc:Wy c.body=true) (Ng:b.bounds.length+c.bounds.length<2 ^ 38) {x y:AV} (hx:CM b x) (hy:CM c y) {s:AL} (hs:BM s) {QR:QT}
  (hQ:∀row bs ts',CM (Dp b k c) (.agg row)->BM ⟨bs,ts'⟩->bs.take s.bs.length=s.bs->s.bs.length<=bs.length->CY (.AA []) (.AA []) s.ts ts'->QR (.agg row) ⟨bs,ts'⟩):mH R 0 0 0 x (AB k) y s QR:=by
 obtain⟨xr,rfl⟩:=hx.agg;obtain⟨yr,rfl⟩:=hy.agg;obtain⟨xk1,xk2,xk3⟩:=hx.cells;obtain⟨yk1,yk2,yk3⟩:=hy.cells;obtain⟨xa,xb,hxe,T6,hxb⟩:=id hx;cases hxe;obtain⟨ya,yb,hye,Uw,hyb⟩:=id hy;cases hye;obtain⟨xb1,xb2,_⟩:=hxb.cells;obtain⟨yb1,yb2,_⟩:=hyb.cells;refine ARF (Bu (cs:=xa::xb) rfl xk2 (Bu (cs:=[AB k]) rfl rfl (Bu (cs:=ya::yb) rfl yk2 (Bq ?_))));simp only[FY,Dx,Ce,CD,CT,CJ,CP,Nat.reduceAdd];have g0:(s.bs++[xa::xb,[AB k],ya::yb,Z5])[s.bs.length]?=some (xa::xb):=EY (j:=0) rfl rfl;have g1:(s.bs++[xa::xb,[AB k],ya::yb,Z5])[s.bs.length+1]?=some [AB k]:=EY rfl rfl;have g2:(s.bs++[xa::xb,[AB k],ya::yb,Z5])[s.bs.length+2]?=some (ya::yb):=EY rfl rfl;have g3:(s.bs++[xa::xb,[AB k],ya::yb,Z5])[s.bs.length+3]?=some Z5:=EY rfl rfl;have hT:(s.bs++[xa::xb,[AB k],ya::yb,Z5]).take s.bs.length=s.bs:=by simp
 have hl:(s.bs++[xa::xb,[AB k],ya::yb,Z5]).length=s.bs.length+4:=by simp
 have hok:BM ⟨s.bs++[xa::xb,[AB k],ya::yb,Z5],s.ts⟩:=by
  intro d hd;simp only[B9,A6,FZ,Fa] at hd
  show Ah (s.bs++_).length d=true
  rcases hd with hd|rfl|rfl|rfl|rfl
  .exact Bn (by simp) d (hs d hd)
  .grind
  .rfl
  .grind
  rfl
 generalize s.bs++[xa::xb,[AB k],ya::yb,Z5]=bs at g0 g1 g2 g3 hT hl hok;refine ADp (AK (AP g0) (AU (off:=0) g0 rfl ⟨by decide,Ew (es:=[]) (l:=b.bounds) (.inl rfl) rfl (by grind) T6 λa10 NG w1 w2=>?_⟩));rw[Ce] at w1;refine AK (AP g2) (AU (off:=0) g2 rfl ⟨by decide,Ew w1 rfl (by omega) Uw λa13 J1 v1 v2=>?_⟩);have AL3:=cx (R:=R) (n:=b.bounds.length) (by omega) hsc hvc hyb;refine AK (AP g0) (N0 g0 xb1 (AK (AP g2) (N0 g2 yb1 (AK (AP g0) (AU (off:=0) g0 rfl (Al (n:=b.bounds.length) (by rw[T6.A9,AQ]) (AD AL3 ?_)))))));intro sv hsv;have Yt:BM ⟨bs,J1⟩:=hok;have hcs:=Gz b.body;obtain⟨w,s',⟨Ms,ds,rfl,r4,r2,rfl⟩,r6⟩:=mF (R:=R) (C:=s.bs.length+1) hsv b.body (by omega) (.agg xb) hxb k ⟨bs,J1⟩ Yt (by omega) (by omega) (Dh (env R) 78 0 0 0) rfl rfl g1;rw[xj _ _ _ hk] at r4;obtain⟨d1,d2,d3⟩:=r4.cells;have hF:DR (.AA []) s.ts:=DR.AA _ _;have o5:CY (.AA []) a10 s.ts NG:=w2;have v1':=r2.keep v1 (λ_ h=>by cases h);have AXM:CY (.AA []) (.AA []) s.ts Ms:=((CY.refl (.AA []) s.ts).side w2 hF |>.side v2 (w2.T5)).trans r2;have rL:=BS (b:=[AB ((k:Int)-(Aj b.body).length)]) g0 (k:=s.bs.length+1) (by omega);have g3':=BS (b:=[AB ((k:Int)-(Aj b.body).length)]) g3 (k:=s.bs.length+1) (by omega);have AK4:BM ⟨bs.set (s.bs.length+1) [AB ((k:Int)-(Aj b.body).length)],Ms⟩:=BM.set (s:=⟨bs,J1⟩) Yt rfl _;have ES:CM (Dp b k c) (.agg (a13::ds)):=⟨a13,ds,rfl,v1.A1,r4⟩;obtain⟨q1,q2,q3⟩:=ES.cells;refine⟨_,_,r6,IY (xm v1.A1.ok v1.A1.cells r4) (PK g3' q1 (AI _) q2 (AI _) ?_)⟩;have sxa:Tel.Bl xa xa=true:=BJ.Bl T6;have sya:Tel.Bl ya ya=true:=BJ.Bl Uw;have sxb:=MR hxb;have syb:=MR hyb;have f0:∀(ts:List (Nat×Nat)) d,Ax ⟨bs,ts⟩ (.ptr s.bs.length 0) d λv=>Tel.Bl v (.ptr s.bs.length (0+d))=true:=λts d=>AK (AP g0) (EP _ _)
 have f2:∀(ts:List (Nat×Nat)) d,Ax ⟨bs,ts⟩ (.ptr (s.bs.length+2) 0) d λv=>Tel.Bl v (.ptr (s.bs.length+2) (0+d))=true:=λts d=>AK (AP g2) (EP _ _)
 have eqn:∀n:Int,Tel.Bl (AB n) (AB n)=true:=λn=>by simp[Tel.Bl,NA,GF]
 have lx:∀(ts:List (Nat×Nat)),BO ⟨bs,ts⟩ xa λv=>Tel.Bl v (AB b.bounds.length)=true:=λts=>Al (n:=b.bounds.length) (by rw[T6.A9,AQ]) (eqn _)
 refine⟨f2 _ 0,AU (off:=0) g2 rfl sya,f0 _ 1,f0 _ 1,f0 _ 1,N0 g0 xb1 sxb,N0 g0 xb1 sxb,N0 g0 xb1 sxb,f2 _ 1,f2 _ 1,N0 g2 yb1 syb,N0 g2 yb1 syb,f0 _ 0,f0 _ 0,AU (off:=0) g0 rfl sxa,AU (off:=0) g0 rfl sxa,lx _,lx _,?_⟩;refine Ae (Bf g3') q1 ?_;refine hQ (a13::ds) _ Ms ES (BM.set (s:=⟨_,Ms⟩) AK4 (q3 _) _) ?_ (by grind) AXM
 grind[C9]
theorem CM.Iz {b:Br} {row:List AV} (h:CM b (.agg row)) (bs:List (List AV)) (n m:Nat):∃r',AX bs n m row=some r'/\CM b (.agg r'):=by
 obtain⟨a,y,he,ha,ht⟩:=h;cases he;obtain⟨a',h1,h2⟩:=ha.close bs n m;obtain⟨y',h3,h4⟩:=ht.Iz bs n m;exact⟨a'::y',by simp[*],a',y',rfl,h2,h4⟩
theorem ARG {rr:Bool} {b:Br} {row:List AV} {s0:AL} {bs:List (List AV)} {ts:List (Nat×Nat)} {Post:AV->AL->Prop} (h0:BM s0) (hT:bs.take s0.bs.length=s0.bs) (hb:CM b (.agg row)) (hP:∀r,CM b (.agg r)->Post (.agg r) ⟨s0.bs,ts⟩):QM rr s0.bs.length Post (.agg row) ⟨bs,ts⟩:=by
 obtain⟨r',h1,h2⟩:=hb.Iz bs s0.bs.length ts.length;refine Yi (ds:=r') ?_ h1 ?_
 .rw[C2]
  intro c hc;exact h0 c (by grind)
 grind
theorem iK {b c:Br} {k:Nat} (hk:k<(Aj b.body).length) (Zz:size b.body<2 ^ 37) (hsc:size c.body<2 ^ 37) (hvc:Wy c.body=true) (Ng:b.bounds.length+c.bounds.length<2 ^ 38) {x y:AV} (hx:CM b x) (hy:CM c y) {s:AL} (hs:BM s) {L:A3} (hro:L.ro=0) (Eb:L.rt=0) :
  ∃v s',(∃ts',CM (Dp b k c) v/\CY (.AA []) (.AA []) s.ts ts'/\s'=⟨s.bs,ts'⟩)/\BA (env R) L 78 [x,AB k,y] s v s':=by
 cases hn:Bo [x,AB k,y] with
 | true=>
  have h0:BM ⟨[],[]⟩:=λb hb=>by grind
  obtain⟨v,hv,hc⟩:=e78 (R:=R) (Post:=λv=>CM (Dp b k c) v) hn (mG hk Zz hsc hvc Ng hx hy h0 λrow bs ts' h1 h2 h3 h4 h5=>by
   obtain⟨r',q1,q2⟩:=h1.Iz bs 0 0;exact⟨.agg r',by simp[*],q2⟩)
  exact⟨v,s,⟨s.ts,hv,CY.refl _ _,rfl⟩,hc L s⟩
 | false=>
  refine m78 hn ?_
  grind[mG,ARG]
end
theorem UY {n:Nat}:∀(a b:List AV),Ah n a=true->Ah n b=true->Ah n (a++b)=true
 | [],b,_,h=>h
 | x::a,b,h1,h2=>by
  simp only[Ah,AG] at h1;simp only[Dx,Ah,h1.1,UY a b h1.2 h2,K3]
theorem EZ.block {lo:Nat} {s:AL} {l:List Br} {id:Nat} {rows:List (List AV)} (h2:s.bs[id]?=some rows.flatten) (h3:CV (λb row=>CM b (.agg row)) l rows) (h4:l≠[]):∃c cs,rows.flatten=c::cs/\(c::cs).length=l.length*5/\(c::cs).all BE=true/\(∀n,Ah n (c::cs)=true)/\alive s id=true:=by
 obtain⟨c1,c2,c3⟩:=Hr h3
 have:rows.flatten≠[]:=by
  intro h;rw[h] at c1;cases l with
  | nil=>grind
  | cons _ _=>grind
 obtain⟨c,r,hc⟩:=Mc this
 grind[AP]
theorem ZA {L:A3} {s:AL} {lo:Nat} {a y:AV} {l r:List Br} (ha:EZ lo s.bs l a) (hy:EZ lo s.bs r y) (hro:L.ro=0) (hl:l.length+r.length<2 ^ 38) (hlo:lo<=s.bs.length) {K:AV->AL->Prop}
  (h:∀a' bs',EZ lo bs' (l++r) a'->(∀j c,(∀n,a≠.ref j 0 n 5)->s.bs[j]?=some c->bs'[j]?=some c)->s.bs.length<=bs'.length->(BM s->BM ⟨bs',s.ts⟩)->K a' ⟨bs',s.ts⟩) :
  Cx true L s 45 5 80 a y K:=by
 unfold Cx;rcases hy with ⟨rfl,rfl⟩|⟨iy,ry,y1,rfl,y2,y3,y4⟩
 .have hsrc:C0 s 5 (.AA [])=some []:=rfl
  rw[hsrc];rw[Gb] at h;have hk:=h a s.bs ha (λj c _ hj=>hj) (Ac _) (λh=>h);rcases ha with ⟨rfl,rfl⟩|⟨id,rows,h1,rfl,h2,h3,h4⟩
  .exact hk
  .obtain⟨c,cs,_,_,_,_,hal⟩:=EZ.block (lo:=lo) h2 h3 h4
   exact⟨hal,hk⟩
 .obtain⟨c,cs,hc,k1,k2,k3,hal⟩:=EZ.block (lo:=lo) y2 y3 y4
  rw[hc] at y2;have hsrc:C0 s 5 (.ref iy 0 r.length 5)=some (c::cs):=by grind[C0]
  rw[hsrc];simp only[wO];have hdiv:(c::cs).length / 5=r.length:=by omega
  rw[hdiv];refine⟨k2,?_⟩;rcases ha with ⟨rfl,rfl⟩|⟨id,rows,h1,rfl,h2,h3,h4⟩
  .refine⟨⟨by omega,by omega,by simp⟩,?_⟩
   simp only[AN,List.flatten_nil,Cs,Ce];have e0:0+r.length=r.length:=by omega
   simp only[CJ,e0];refine h (.ref s.bs.length 0 r.length 5) (s.bs++[c::cs]) (.inr ⟨s.bs.length,ry,hlo,rfl,by grind,y3,y4⟩) (λj d _ hj=>Av hj _) (by simp) (λhs=>BM.app (s:=s) hs (k3 _))
  .obtain⟨r1,r2,r3⟩:=Hr h3
   have Pb:=(BL.1 h2).1;obtain⟨_,_,_,_,_,_,ALb⟩:=EZ.block (lo:=lo) h2 h3 h4;simp only[h2];refine⟨⟨Ab,Ab,by omega,ALb,by omega,by omega,by omega⟩,?_⟩;have et:rows.flatten.take (l.length*5)=rows.flatten:=CL (by omega);rw[et];have pN:CV (λb row=>CM b (.agg row)) (l++r) (rows++ry):=CV.append h3 y3;refine h (.ref s.bs.length 0 (l.length+r.length) 5) (s.bs.set id []++[rows.flatten++(c::cs)]) (.inr ⟨s.bs.length,rows++ry,hlo,by simp,?_,pN,by simp[h4]⟩) (λj d hn hj=>?_) (by simp) (λhs=>?_)
   .grind
   .grind
   .have h5:BM ⟨s.bs.set id [],s.ts⟩:=BM.set (s:=s) hs (by rfl) _
    exact BM.app (s:=⟨s.bs.set id [],s.ts⟩) h5 (UY _ _ (r3 _) (k3 _))
theorem AL4 {n:Nat} {X bs:List (List AV)} {ts:List (Nat×Nat)} {l:List Br} {v:AV} {Post:AV->AL->Prop} (hn:X.length=n) (hX:∀b∈X,Ah n b=true) (hT:bs.take n=X) (hb:EZ n bs l v)
  (hP:∀v' bs',EZ n bs' l v'->bs'.take n=X->n<=bs'.length->BM ⟨bs',ts⟩->Post v' ⟨bs',ts⟩):QM true n Post v ⟨bs,ts⟩:=by
 have hok:((bs.take n).all (Ah n))=true:=by grind
 have ARH:BM ⟨X,ts⟩:=by
  intro b hb
  grind
 rcases hb with ⟨rfl,rfl⟩|⟨id,rows,h1,rfl,h2,h3,h4⟩
 .refine⟨.AA [],⟨X,ts⟩,?_,hP _ X (.inl ⟨rfl,rfl⟩) (by grind) (by omega) ARH⟩
  grind[HR,HX,Tel.close]
 .obtain⟨c,cs,hc,k1,k2,k3,hal⟩:=EZ.block (lo:=n) (s:=⟨bs,ts⟩) h2 h3 h4
  rw[hc] at h2;refine⟨.ref n 0 l.length 5,⟨X++[c::cs],ts⟩,?_,hP _ (X++[c::cs]) (.inr ⟨n,rows,Ac _,rfl,by grind,h3,h4⟩) (by grind) (by grind) (BM.app (s:=⟨X,ts⟩) ARH (k3 _))⟩
  grind[HR,HX,Nat.ble_eq_true_of_le]
theorem Qg {R:RT} {s:AL} {lo p:Nat} {l:List Br} {y:AV} {c:Br} (hy:EZ lo s.bs l y) (hc:l[p]?=some c) {K:AV->Prop} (hK:∀row,CM c (.agg row)->K (.agg row)):Bj s 5 y (AB p) λa=>FC (env R) s (some 5) a K:=by
 rcases hy with ⟨rfl,rfl⟩|⟨id,rows,h1,rfl,h2,h3,h4⟩
 .grind
 .obtain⟨_,_,_,_,_,_,hal⟩:=EZ.block (lo:=lo) h2 h3 h4
  have hp:p<l.length:=(BL.1 hc).1;refine⟨⟨by omega,by omega,rfl,hal⟩,?_⟩;simp only[FC,h2,wO,Dn,xL,xM,xF,xG]
  have gen:∀(l:List Br) (rows:List (List AV)) (p:Nat) (c:Br),CV (λb row=>CM b (.agg row)) l rows->l[p]?=some c->∃row,CM c (.agg row)/\p*5+5<=rows.flatten.length/\(rows.flatten.drop (p*5)).take 5=row:=by
   intro l
   induction l with
   | nil=>simp
   | cons b l ih=>
    intro rows p c h hc;cases rows with
    | nil=>exact h.elim
    | cons row rows=>
     obtain⟨h1,h2⟩:=h;obtain⟨c1,_,_⟩:=h1.cells;cases p with
     | zero=>
      grind
     | succ p=>
      obtain⟨row',i1,i2,i3⟩:=ih rows p c h2 (by grind);refine⟨row',i1,by grind,?_⟩;have e5:(p+1)*5=row.length+p*5:=by omega
      simp[*,List.drop_append,Bt]
  grind
end Go.Proofs.YtpgfpakdnijngaaGreatDoor
