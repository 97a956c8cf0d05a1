/-
  typeterm.Compare and Equal.
-/
import Derived.Test.YtpgfpakdnijngaaGreatDoorTE
import Derived.Test.YtpgfpakdnijngaaGreatDoorW1
import Derived.Test.YtpgfpakdnijngaaGreatDoorTD
set_option linter.all false
namespace Go.Proofs.YtpgfpakdnijngaaGreatDoor
open Go.Tel
attribute [local simp] CI Bs LP LQ AO CU FJ wO setCells CJ D6 DV Cv A0 alive CY F9 I4 nx A6 DC BO Gs Dt DT si qd okB sj sk sq sr su jh sw sx sy s7 s8 s9 tA tB tC tD tE okF tF tG tH tI tJ Xs tK SR SU SV SW tL tM tN tP tQ tR tS tT tU tV Fw tW qe tX tY tZ td th tj tq uA uB uC Cm g0 g1 xI xL xM xF xG xC lf Y4 Y5
theorem cL:∀l:List UInt8,Op.bytesLess l l=false
 | []=>rfl
 | c::l=>by
  rw[Op.bytesLess,cL l];simp
theorem ALM {a b:List UInt8} {K:AV->Prop} (h:K (BB (Op.bytesLess a b))):F9 .lss (SS a) (SS b) K:=h
theorem ALN {a b:List UInt8} {K:AV->Prop} (h:K (BB (!(Op.bytesLess a b||(a==b))))):F9 .gtr (SS a) (SS b) K:=h
theorem ALO {a b:List UInt8} {K:AV->Prop} (h:K (BB (!(a==b)))):F9 .neq (SS a) (SS b) K:=h
def lO:List Int->Int
 | []=>0
 | c::l=>bif c==0 then lO l else c
theorem cM:∀l:List Int,lO l=0<->∀c∈l,c=0
 | []=>by simp[lO]
 | c::l=>by
  rw[lO];cases h:c==0 with
  | true=>
   have:c=0:=by grind
   simp[cM l,this]
  | false=>
   simp_all
section
variable {R:RT}
theorem Tk (w:List UInt8):AL (env R) 153 [SS w] λr=>r=BB false:=
 AXU (u0:=SS w) (by simp) (ALP (ALO ⟨_,Fw,by simp⟩))
theorem P7 (a b:Int):AL (env R) 132 [AA a,AA b] λr=>∃c:Int,r=AA c/\(c=0<->a=b):=by
 refine AXV (u0:=AA a) (u1:=AA b) (by simp) (ALQ ?_);refine AD (P6 a) ?_;rintro v rfl;refine AD (P6 b) ?_;rintro v rfl;refine Am (ALR (Am (ALS (Ah ?_))))
 by_cases h1:a<b
 .rw[Ap h1]
  exact A4 ⟨_,Fw,-1,rfl,by omega⟩
 .rw[Aw h1]
  refine Am (ALT (Fp ?_))
  by_cases h2:a>b
  .rw[Ap h2]
   exact A4 ⟨_,Fw,1,rfl,by omega⟩
  .rw[Aw h2]
   exact Am (ALU ⟨_,Fw,0,rfl,by omega⟩)
theorem oo (a b:List UInt8):AL (env R) 133 [SS a,SS b] λr=>∃c:Int,r=AA c/\(c=0<->a=b):=by
 refine AXW (u0:=SS a) (u1:=SS b) (by simp) (ALV ?_);refine AD (Tk a) ?_;rintro v rfl;refine AD (Tk b) ?_;rintro v rfl;refine Am (ALW (Am (ALX (ALM ?_))));cases h1:Op.bytesLess a b with
 | true=>
  refine A4 ⟨_,Fw,-1,rfl,?_⟩
  grind[cL]
 | false=>
  refine Am (ALY (ALN ?_));rw[h1];cases h2:(a==b) with
  | true=>exact Am (ALZ ⟨_,Fw,0,rfl,by grind⟩)
  | false=>exact A4 ⟨_,Fw,1,rfl,by grind⟩
theorem ADL {l:List Int} {y:AV} (hy:BF y (AX l)) (hl:l.length<2 ^ 40) {Post:AV->Prop} (hP:Post (AA (lO l))) :
  ∀(j p:Nat) (s:AM),p+j=l.length->lO (l.drop p)=lO l->Yh R 0 0 0 (AA 0) y (AA l.length) (AA p) s (QP Post):=by
 intro j
 induction j with
 | zero=>
  intro p s hi ho;refine wP (Ah ?_);rw[Aw (by omega)];rw[Bu (by omega),lO] at ho;exact Am (ALa ⟨_,Fw,by grind⟩)
 | succ j D2=>
  intro p s hi ho;refine wP (Ah ?_);rw[Ap (by omega)];obtain⟨c,hc⟩:∃c,l[p]?=some c:=⟨_,Ak (by omega)⟩;rw[drop_cons hc,lO] at ho;refine A4 (ALb (BQ hy (row:=[.sc (.int .i64 c)]) (by omega) (by grind[AX]) rfl (by omega) (Ej (FE ?_))));cases h:c==0 with
  | true=>
   have:(c != 0)=false:=by grind
   rw[this];rw[h] at ho;refine Am (ALc (BW (by omega) (by omega) ?_));have:=D2 (p+1) s (by omega) ho
   grind
  | false=>
   have:(c != 0)=true:=by grind
   rw[this];rw[h] at ho;exact A4 ⟨_,Fw,by grind⟩
theorem ADM {l:List Int} {y:AV} (hy:Aq y (AX l)) (hl:l.length<2 ^ 40):AL (env R) 131 [y] λr=>r=AA (lO l):=by
 refine AXX (u0:=y) (by simp[AY,hy.close]) (ALd (Al (n:=l.length) (by rw[hy.A7,BV]) ?_));exact ADL (Post:=λr=>r=AA (lO l)) (.inl hy) hl rfl l.length 0 _ (by omega) rfl
theorem AXY {a b c d:Int} {s:AM} {K:AV->AM->Prop} (h:K (.AB (AX [a,b,c,d])) s):CV false s 1 [(AA 0)] 4 [(0,1,AA a),(1,1,AA b),(2,1,AA c),(3,1,AA d)] K:=by
 simp[CV,FY,CB];exact h
theorem oq {k i k' i':Int} {n n':List UInt8} {ts ts':List Ty} {a a':AV} (ha:Aq a (AW ts)) (Ir:Aq a' (AW ts')) (hl:ts.length<2 ^ 40) (he:ts.length=ts'.length)
  (ih:∀t∈ts,∀(t':Ty) (x x':AV),A5 t x->A5 t' x'->AL (env R) 104 [x,x'] λr=>∃c:Int,r=AA c/\(c=0<->t=t')) {s:AM} (g0:s.bs[0]?=some [AA k,SS n,AA i,a]) (g1:s.bs[1]?=some [AA k',SS n',AA i',a']) {Post:AV->Prop} (hP:∀c:Int,(c=0<->ts=ts')->Post (AA c)) :
  ∀(j p:Nat) (c:Int),p+j=ts.length->(c=0->ts.take p=ts'.take p)->(c≠0->ts≠ts')->Tl R 0 0 0 (.ptr 0 0) (.ptr 1 0) (AA c) (AA p) s (QP Post):=by
 intro j
 have done:∀(p:Nat) (c:Int),c≠0->(c≠0->ts≠ts')->Tl R 0 0 0 (.ptr 0 0) (.ptr 1 0) (AA c) (AA p) s (QP Post):=by
  intro p c hc h;refine Yi (Au ?_);have:(c==0)=false:=by grind
  rw[this];exact Bm (Bm (Bm (Bm (Bm (pk (Am (gM ⟨_,Fw,hP c (by grind)⟩)))))))
 induction j with
 | zero=>
  intro p c hi h0 h1
  by_cases hc:c=0
  .subst hc
   refine Yi (Au (Ao (Ao (AK (AP g0) (Ao (AU (off:=3) g0 rfl (Ao (Al (n:=ts.length) (by rw[ha.A7,AR]) (Ao (Ah (pk ?_)))))))))));rw[Aw (by omega)];have:=h0 rfl;rw[CA (by omega),CA (by omega)] at this;exact Am (gM ⟨_,Fw,hP 0 (by grind)⟩)
  grind
 | succ j D2=>
  intro p c hi h0 h1
  by_cases hc:c=0
  .subst hc
   refine Yi (Au (Ao (Ao (AK (AP g0) (Ao (AU (off:=3) g0 rfl (Ao (Al (n:=ts.length) (by rw[ha.A7,AR]) (Ao (Ah (pk ?_)))))))))));rw[Ap (by omega)];obtain⟨t,ht⟩:∃c,ts[p]?=some c:=⟨_,Ak (by omega)⟩;obtain⟨t',ht'⟩:∃c,ts'[p]?=some c:=⟨_,Ak (by omega)⟩;have hpre:=h0 rfl;refine A4 (ALe (AK (AP g0) (AU (off:=3) g0 rfl (BI ha (row:=Af t) (by omega) (by grind[BE]) (Ac _) (by omega) (Cg (AK (AP g1) (AU (off:=3) g1 rfl (BI Ir (row:=Af t') (by omega) (by grind[BE]) (Ac _) (by omega) (Cg ?_)))))))));refine AD (ih t (A2 ht) t' _ _ (A5.BZ t) (A5.BZ t')) ?_;rintro v ⟨c,rfl,hcc⟩;refine ALf (BW (by omega) (by omega) ?_);have:=D2 (p+1) c (by omega) (λh=>by grind[List.take_add_one]) (λh e=>by grind)
   grind
  grind
mutual
theorem WR:∀(t:Ty),size t<2 ^ 38->∀(t':Ty) (x x':AV),A5 t x->A5 t' x'->AL (env R) 104 [x,x'] λr=>∃c:Int,r=AA c/\(c=0<->t=t')
 | .mk k n i ts,h,.mk k' n' i' ts',x,x',hx,hx'=>by
  obtain⟨a,rfl,ha⟩:=hx;obtain⟨a',rfl,Ir⟩:=hx';simp only[size] at h;have ih:=Tm ts (by omega);have hts:=BP ts
  suffices H:∀Post:AV->Prop,(∀c:Int,(c=0<->Ty.mk k n i ts=Ty.mk k' n' i' ts')->Post (AA c))->gN R 0 0 0 (.agg [AA k,SS n,AA i,a]) (.agg [AA k',SS n',AA i',a']) ⟨[],[]⟩ (QP Post) from
   AXZ (u0:=.agg [AA k,SS n,AA i,a]) (u1:=.agg [AA k',SS n',AA i',a']) (by simp[ha.close,Ir.close]) (H _ λc hc=>⟨c,rfl,hc⟩)
  intro Post hP;simp only[Ty.mk.injEq] at hP;refine ALg (Bw (cs:=[AA k,SS n,AA i,a]) rfl (by simp[ha.ok]) (Bw (cs:=[AA k',SS n',AA i',a']) rfl (by simp[Ir.ok]) ?_));simp only[Cb,B8,Dh,CO,CQ];have g0:(AM.mk [[AA k,SS n,AA i,a],[AA k',SS n',AA i',a']] []).bs[0]?=some [AA k,SS n,AA i,a]:=rfl;have g1:(AM.mk [[AA k,SS n,AA i,a],[AA k',SS n',AA i',a']] []).bs[1]?=some [AA k',SS n',AA i',a']:=rfl;generalize AM.mk [[AA k,SS n,AA i,a],[AA k',SS n',AA i',a']] []=s at g0 g1;have sa:=BF.Bg (es:=ts) (.inl ha);have sa':=BF.Bg (es:=ts') (.inl Ir);have la:∀(s:AM) (K:AV->Prop),K (AA ts.length)->BO s a K:=λs K h=>Al (n:=ts.length) (by rw[ha.A7,AR]) h
  have la':∀(s:AM) (K:AV->Prop),K (AA ts'.length)->BO s a' K:=λs K h=>Al (n:=ts'.length) (by rw[Ir.A7,AR]) h
  have eqs:∀w:List UInt8,Tel.Bg (SS w) (SS w)=true:=λw=>by simp[Tel.Bg,Mm,Ht]
  have eqi:∀w:Int,Tel.Bg (AA w) (AA w)=true:=λw=>by simp[Tel.Bg,Mm,FX]
  have fa0:∀d,A0 s (.ptr 0 0) d λv=>Tel.Bg v (.ptr 0 (0+d))=true:=λd=>AK (AP g0) (EO _ _)
  have fa1:∀d,A0 s (.ptr 1 0) d λv=>Tel.Bg v (.ptr 1 (0+d))=true:=λd=>AK (AP g1) (EO _ _)
  refine AK (AP g0) (AU (off:=0) g0 rfl (AK (AP g1) (AU (off:=0) g1 rfl ?_)));refine AD (P7 k k') ?_;rintro v ⟨c1,rfl,h1⟩;refine AK (AP g0) (AU (off:=1) g0 rfl (AK (AP g1) (AU (off:=1) g1 rfl ?_)));refine AD (oo n n') ?_;rintro v ⟨c2,rfl,h2⟩;refine AK (AP g0) (AU (off:=2) g0 rfl (AK (AP g1) (AU (off:=2) g1 rfl ?_)));refine AD (P7 i i') ?_;rintro v ⟨c3,rfl,h3⟩;refine AK (AP g0) (AU (off:=3) g0 rfl (la _ _ (AK (AP g1) (AU (off:=3) g1 rfl (la' _ _ ?_)))));refine AD (P7 ts.length ts'.length) ?_;rintro v ⟨c4,rfl,h4⟩;refine AXY (AD (ADM (l:=[c1,c2,c3,c4]) (.AB _) (by simp)) ?_);rintro v rfl;refine⟨fa0 1,AU (off:=1) g0 rfl (eqs n),fa1 1,AU (off:=1) g1 rfl (eqs n'),fa0 2,fa0 2,AU (off:=2) g0 rfl (eqi i),AU (off:=2) g0 rfl (eqi i),fa1 2,fa1 2,AU (off:=2) g1 rfl (eqi i'),AU (off:=2) g1 rfl (eqi i'),fa0 3,fa0 3,fa0 3,AU (off:=3) g0 rfl sa,AU (off:=3) g0 rfl sa,AU (off:=3) g0 rfl sa,la _ _ (eqi _),la _ _ (eqi _),la _ _ (eqi _),fa1 3,fa1 3,fa1 3,AU (off:=3) g1 rfl sa',AU (off:=3) g1 rfl sa',AU (off:=3) g1 rfl sa',la' _ _ (eqi _),la' _ _ (eqi _),la' _ _ (eqi _),?_⟩
  have hz:lO [c1,c2,c3,c4]=0<->(k=k'/\n=n'/\i=i'/\ts.length=ts'.length):=by
   rw[cM];simp only[A1,Ed,Ee,forall_eq_or_imp,forall_eq,h1,h2,h3,h4]
   grind
  by_cases hall:k=k'/\n=n'/\i=i'/\ts.length=ts'.length
  .obtain⟨rfl,rfl,rfl,hle⟩:=hall
   have h0:=hz.2 ⟨rfl,rfl,rfl,hle⟩;exact oq ha Ir (by omega) hle ih g0 g1 (λc hc=>hP c (by grind)) ts.length 0 _ (by omega) (λ_=>rfl) (λh=>absurd h0 h)
  .have hne:lO [c1,c2,c3,c4]≠0:=λh=>hall (hz.1 h)
   generalize lO [c1,c2,c3,c4]=c at hne;refine Yi (Au ?_);have:(c==0)=false:=by grind
   rw[this];exact Bm (Bm (Bm (Bm (Bm (pk (Am (gM ⟨_,Fw,hP c (by grind)⟩)))))))
theorem Tm:∀(l:List Ty),AZ l<2 ^ 38->∀t∈l,∀(t':Ty) (x x':AV),A5 t x->A5 t' x'->AL (env R) 104 [x,x'] λr=>∃c:Int,r=AA c/\(c=0<->t=t')
 | [],_,_,h=>by cases h
 | e::l,h,t,hm=>by
  simp only[AZ] at h;rcases A1.1 hm with h' | h'
  .rw[h']
   exact WR e (by omega)
  .exact Tm l (by omega) t h'
end
theorem gO {t t':Ty} {x x':AV} (h:size t<2 ^ 38) (hx:A5 t x) (hx':A5 t' x'):AL (env R) 63 [x,x'] λr=>∃b:Bool,r=BB b/\(b=true<->t=t'):=by
 have hc:=WR (R:=R) t h t' x x' hx hx';obtain⟨k,n,i,ts⟩:=t;obtain⟨k',n',i',ts'⟩:=t';obtain⟨a,rfl,ha⟩:=hx;obtain⟨a',rfl,Ir⟩:=hx';refine e63 (u0:=.agg [AA k,SS n,AA i,a]) (u1:=.agg [AA k',SS n',AA i',a']) (by simp[ha.close,Ir.close]) (AQp ?_);refine Bw (cs:=[AA k,SS n,AA i,a]) rfl (by simp[ha.ok]) (Bw (cs:=[AA k',SS n',AA i',a']) rfl (by simp[Ir.ok]) (Ad (cs:=[AA k,SS n,AA i,a]) rfl rfl (Ad (cs:=[AA k',SS n',AA i',a']) rfl rfl ?_)));refine AD hc ?_;rintro v ⟨c,rfl,h⟩;exact Au ⟨_,Fw,c==0,rfl,by grind⟩
end
def EY (lo:Nat) (bs:List (List AV)) (l:List Br) (a:AV):Prop:=(a=.AB []/\l=[])\/∃id rows,lo<=id/\a=.ref id 0 l.length 5/\bs[id]?=some (List.flatten rows)/\CT (λb row=>CP b (.agg row)) l rows/\l≠[]
theorem CP.cells {b:Br} {row:List AV} (h:CP b (.agg row)):row.length=5/\row.all A9=true/\∀n,Ab n row=true:=by
 obtain⟨a,y,hy,ha,ht⟩:=h;cases hy;obtain⟨h1,h2,h3⟩:=ht.cells;exact⟨by grind,by simp only[G5,ha.ok,h2]; rfl,λn=>by simp[Ab,ha.Ar,h3]⟩
theorem CP.agg {b:Br} {x:AV} (h:CP b x):∃row,x=.agg row:=by
 obtain⟨a,y,rfl,_⟩:=h;simp
theorem Hj {l:List Br} {rows:List (List AV)} (h:CT (λb row=>CP b (.agg row)) l rows):rows.flatten.length=l.length*5/\rows.flatten.all A9=true/\∀n,Ab n rows.flatten=true:=by
 induction l generalizing rows with
 | nil=>
  cases rows with
  | nil=>exact⟨rfl,rfl,λ_=>rfl⟩
  | cons _ _=>exact h.elim
 | cons b l ih=>
  cases rows with
  | nil=>exact h.elim
  | cons row rows=>
   obtain⟨h1,h2⟩:=h;obtain⟨c1,c2,c3⟩:=h1.cells;obtain⟨i1,i2,i3⟩:=ih h2;refine⟨by grind,by grind,λn=>?_⟩;rw[MK]
   have gen:∀(a b:List AV),Ab n a=true->Ab n b=true->Ab n (a++b)=true:=by
    intro a
    induction a with
    | nil=>simp
    | cons x a wQ=>
     grind[Ab]
   grind
theorem EY.A7 {lo:Nat} {s:AM} {l:List Br} {a:AV} (h:EY lo s.bs l a):A7 s a=some l.length:=by
 rcases h with ⟨rfl,rfl⟩|⟨id,rows,h1,rfl,h2,h3,h4⟩
 .rfl
 .obtain⟨c1,_,_⟩:=Hj h3
  have hal:alive s id=true:=by
   have:rows.flatten≠[]:=by
    intro h;rw[h] at c1;cases l with
    | nil=>grind
    | cons _ _=>grind
   obtain⟨c,r,hc⟩:=MP this;simp[*]
  grind[Tel.A7]
theorem EY.mono {lo lo':Nat} {bs bs':List (List AV)} {l:List Br} {a:AV} (h:EY lo bs l a) (hl:lo'<=lo) (hb:∀j c,lo<=j->bs[j]?=some c->bs'[j]?=some c):EY lo' bs' l a:=by
 rcases h with h|⟨id,rows,h1,h2,h3,h4,h5⟩
 .exact .inl h
 .exact .inr ⟨id,rows,Bq hl h1,h2,hb id _ h1 h3,h4,h5⟩
theorem MC {b:Br} {row:List AV} (h:CP b (.agg row)) {s:AM} {K:AV->AM->Prop} (hK:K (.ref s.bs.length 0 1 5) ⟨s.bs++[row],s.ts⟩):CV true s 5 [(.AB []),(AA 0),(SS []),(AA 0),(.AB [])] 1 [(0,5,.agg row)] K:=by
 obtain⟨a,y,hy,ha,ht⟩:=h;cases hy;rcases ZB:b.body with ⟨k,n,i,ts⟩
 rw[ZB] at ht;obtain⟨a2,hy,Q1⟩:=ht;cases hy;simp[CV,FY,CB,ha.ok,Q1.ok];omega
theorem wR {L:A8} {s:AM} {lo id':Nat} {a:AV} {l:List Br} {b:Br} {row:List AV} (hr:CP b (.agg row)) (hid:s.bs[id']?=some row) (ha:EY lo s.bs l a) (hro:L.ro=0) (hl:l.length<2 ^ 30) {K:AV->AM->Prop}
  (h:∀a' bs',EY lo bs' (l++[b]) a'->(∀j c,(∀n,a≠.ref j 0 n 5)->s.bs[j]?=some c->bs'[j]?=some c)->s.bs.length<=bs'.length->(BM s->BM ⟨bs',s.ts⟩)->(lo<=s.bs.length->K a' ⟨bs',s.ts⟩)) (hlo:lo<=s.bs.length) :
  Ct true L s 45 5 80 a (.ref id' 0 1 5) K:=by
 obtain⟨c1,c2,c3⟩:=hr.cells
 have hal:alive s id'=true:=by
  obtain⟨c,r,hc⟩:=MP (l:=row) (by grind);simp[*]
 have hsrc:Cx s 5 (.ref id' 0 1 5)=some row:=by grind[Cx]
 unfold Ct;rw[hsrc];obtain⟨c,cs,hc⟩:=MP (l:=row) (by grind);subst hc;simp only[wO];have hdiv:(c::cs).length / 5=1:=by rw[c1]
 rw[hdiv];refine⟨c2,?_⟩;rcases ha with ⟨rfl,rfl⟩|⟨id,rows,h1,rfl,h2,h3,h4⟩
 .refine⟨⟨by simp,by simp,by simp⟩,?_⟩
  simp only[AN,List.flatten_nil,Cs,Cb];refine h (.ref s.bs.length 0 1 5) (s.bs++[c::cs]) (.inr ⟨s.bs.length,[c::cs],hlo,rfl,by simp,⟨hr,Ae⟩,by simp⟩) (λj c _ hj=>Av hj _) (by simp) (λhs=>BM.app (s:=s) hs (c3 _)) hlo
 .obtain⟨r1,r2,r3⟩:=Hj h3
  have PE:=(BL.1 h2).1
  have ALh:alive s id=true:=by
   have:rows.flatten≠[]:=by
    intro h;rw[h] at r1;cases l with
    | nil=>grind
    | cons _ _=>grind
   obtain⟨c,r,hc⟩:=MP this
   simp_all
  simp only[h2];refine⟨⟨Ae,Ae,by omega,ALh,by omega,by omega,by omega⟩,?_⟩;have et:rows.flatten.take (l.length*5)=rows.flatten:=CA (by omega);rw[et];have ot:CT (λb row=>CP b (.agg row)) (l++[b]) (rows++[c::cs]):=CT.append h3 ⟨hr,Ae⟩;refine h (.ref s.bs.length 0 (l.length+1) 5) (s.bs.set id []++[rows.flatten++(c::cs)]) (.inr ⟨s.bs.length,rows++[c::cs],hlo,by simp,?_,ot,by simp⟩) (λj c hn hj=>?_) (by simp) (λhs=>?_) hlo
  .simp
  .grind
  .have h5:BM ⟨s.bs.set id [],s.ts⟩:=BM.set (s:=s) hs (by rfl) _
   refine BM.app (s:=⟨s.bs.set id [],s.ts⟩) h5 ?_
   have gen:∀n (a b:List AV),Ab n a=true->Ab n b=true->Ab n (a++b)=true:=by
    intro n a
    induction a with
    | nil=>simp
    | cons x a wQ=>
     grind[Ab]
   grind
section
variable {R:RT}
theorem CP.closed {b:Br} {x:AV} (h:CP b x):∃x',AY [] 0 0 [x]=some [x']/\AY [] 0 0 [x']=some [x']/\Py b x':=by
 obtain⟨a,y,rfl,ha,ht⟩:=h;rcases hb:b.body with ⟨k,n,i,ts⟩
 rw[hb] at ht;obtain⟨a2,hy,Q1⟩:=ht;cases hy;obtain⟨a',h1,h2⟩:=ha.closed [] 0;obtain⟨a2',h3,h4⟩:=Q1.closed [] 0;refine⟨.agg [a',AA k,SS n,AA i,a2'],by simp[*],by simp[h2.close,h4.close],?_⟩;exact⟨a',[AA k,SS n,AA i,a2'],rfl,h2,by rw[hb]; exact⟨a2',rfl,h4⟩⟩
theorem Nd {b:Br} (h:size b.body<2 ^ 38) (hl:b.bounds.length<2 ^ 38) (hc:(Ai b.body).length<2 ^ 40) {x:AV} (hx:CP b x):AL (env R) 46 [x] λr=>r=BB (decide (b.bounds.length<=6)&&decide ((Ai b.body).length<=3)):=by
 obtain⟨x',h1,h2,h3⟩:=hx.closed;exact AL.open (args':=[x']) (by rfl) (by rfl) rfl h1 h2 (Ov h hl hc h3)
end
section
variable {R:RT}
theorem wS {α:Type} {row:α->List PV} (hrow:∀a,(row a).length=4) {f:FuncId} {cs:List AV} {g:α->Bool} {ts:List α} {y:AV} (hy:BF y (ts.map row)) (hl:ts.length<2 ^ 60) {s:AM} (hf:∀t∈ts,∀L,BD (env R) L f (.agg ((row t).map .pv)::cs) s (BB (g t)) s) {n0 ro rt:Nat} {QR:QT} :
  ∀(j q:Nat),q+j=ts.length->(∀i:Int,decide (0<=i)=(ts.drop q).any g->QR (AA i) s)->Pc R n0 ro rt y (.func (.func f) [] cs) (AA ts.length) (AA q) s QR:=by
 intro j
 induction j with
 | zero=>
  intro q hi hP;refine Pd (Ah ?_);rw[Aw (by omega)];refine Am (e9 ?_);have h2:ts.drop q=[]:=Bu (by omega);rw[h2] at hP;exact hP (-1) (by simp)
 | succ j D2=>
  intro q hi hP;refine Pd (Ah ?_);rw[Ap (by omega)];refine A4 (fB ?_);obtain⟨t,ht⟩:∃t,ts[q]?=some t:=⟨_,Ak (by omega)⟩;rw[drop_cons ht] at hP;refine BQ hy (row:=row t) (by omega) (by simp[ht]) (hrow t) (by omega) ?_;have hc:=hf t (A2 ht)
  have e4:∀K:AV->Prop,K (.agg ((row t).map .pv))->D6 (env R) s (some 4) (.Cq (row t) 0) K:=by
   intro K hK;simp only[D6,DV,Ih,xL,xM,xF,xG];refine⟨by rw[Bx,hrow]; omega,?_⟩;rw[CA (by rw[Bx,hrow]; omega)];exact hK
  refine e4 _ ?_;refine⟨BB (g t),s,hc _,?_⟩;cases hg:g t with
  | true=>grind[A4]
  | false=>
   refine Am (fC (BW (by omega) (by omega) ?_))
   grind
theorem Uv {α:Type} {row:α->List PV} (hrow:∀a,(row a).length=4) {f:FuncId} {cs:List AV} {g:α->Bool} {ts:List α} {y:AV} (hy:BF y (ts.map row)) (hl:ts.length<2 ^ 60) {s:AM} (hs:BM s) (hcs:Bi cs=false) (hf:∀t∈ts,∀L,BD (env R) L f (.agg ((row t).map .pv)::cs) s (BB (g t)) s) (L:A8) :
  BD (env R) L 94 [y,.func (.func f) [] cs] s (BB (ts.any g)) s:=by
 have hi:∀L,∃i:Int,decide (0<=i)=ts.any g/\BD (env R) L 125 [y,.func (.func f) [] cs] s (AA i) s:=by
  intro L
  obtain⟨v,s',⟨i,rfl,rfl,h⟩,hc⟩:=APb (R:=R) (L:=L) (s:=s) (t0:=y) (t1:=.func (.func f) [] cs) (Post:=λv s'=>∃i:Int,v=AA i/\s'=s/\decide (0<=i)=ts.any g) (by grind[Bi,F1]) (fD (Al (n:=ts.length) (by rw[hy.A7,Bx]) (wS hrow hy hl hf ts.length 0 (by omega) λi h=>by
   have:=Iy (rr:=L.rr 125) hs (m:=[]) (p:=.sc (.int .i64 i)) (Post:=λv s'=>∃i:Int,v=AA i/\s'=s/\decide (0<=i)=ts.any g) ⟨i,rfl,rfl,by grind⟩
   simp_all)))
  grind
 obtain⟨v,s',⟨rfl,rfl⟩,hc⟩:=m94 (R:=R) (L:=L) (s:=s) (t0:=y) (t1:=.func (.func f) [] cs) (Post:=λv s'=>v=BB (ts.any g)/\s'=s) (by grind[Bi,F1]) (uK (by
  obtain⟨i,h,hc⟩:=hi (Cv (env R) 94 0 L.ro L.rt);refine⟨AA i,s,hc,NU ?_⟩;have:=Iy (rr:=L.rr 94) hs (m:=[]) (p:=.sc (.bool (ts.any g))) (Post:=λv s'=>v=BB (ts.any g)/\s'=s) ⟨rfl,rfl⟩
  simp_all))
 omega
theorem ALi {t u:Ty} (hsz:size t<2 ^ 38) {p:Nat} {s:AM} (hs:BM s) (hp:s.bs[p]?=some ((Af u).map .pv)) (L:A8):∃b:Bool,(b=true<->t=u)/\BD (env R) L 95 [.agg ((Af t).map .pv),.ptr p 0] s (BB b) s:=by
 have heq:=gO (R:=R) hsz (A5.BZ t) (A5.BZ u);have hrl:((Af t).map AV.pv).length=4:=by grind[Ac]
 have qZ:((Af u).map AV.pv).length=4:=by grind[Ac]
 have hro:=DK t;obtain⟨v0,⟨b,rfl,hb⟩,Tn⟩:=heq;refine⟨b,hb,?_⟩;generalize (Af t).map AV.pv=r at Tn hrl hro;generalize (Af u).map AV.pv=r2 at Tn qZ hp;obtain⟨v,s',⟨rfl,rfl⟩,hc⟩:=m95 (R:=R) (L:=L) (s:=s) (t0:=.agg r) (t1:=.ptr p 0) (Post:=λv s'=>v=BB b/\s'=s) (by simp[Bi,F1]) (AQq (Bw (cs:=r) rfl hro (Ad (Ay s.bs r) hrl (Ad (Av hp r) qZ ⟨_,_,Tn _ _,Iy hs (m:=[r]) (p:=.sc (.bool b)) ⟨rfl,rfl⟩⟩))));omega
def XOk (R:RT) (t:Ty) (o:List Br×Int):Prop:=∀x,BJ t x->∀s,BM s->∀L:A8,L.n0=0->L.ro=0->L.rt=0 ->
 ∃v s',(∃a,v=.tuple [a,AA o.2]/\EY s.bs.length s'.bs o.1 a/\s'.bs.take s.bs.length=s.bs/\s.bs.length<=s'.bs.length/\Ca (.AB []) (.AB []) s.ts s'.ts/\BM s')/\BD (env R) L 14 [x] s v s'
theorem ADN {X:Ty->List Br×Int} {ts:List Ty} {y:AV} (hy:Aq y (AW ts)) (hl:ts.length<2 ^ 30) (hsz:∀t∈ts,size t<2 ^ 38) (hx:∀t∈ts,XOk R t (X t)) {Post:AV->Prop} (hP:Post (BB (ts.all λt=>Dp (X t)))) :
  ∀(j p:Nat) (ck:List Ty) (s:AM) (b:AV),p+j=ts.length->ck.length<=p->(∀t∈ck,t∈ts/\Dp (X t)=true)->(ts.all λt=>Dp (X t))=((ts.drop p).all λt=>Dp (X t))->BM s->Dg 0 s.ts 25 b (AW ck) ->
   lQ R 0 0 0 b y (AA ts.length) (AA p) s (QP Post):=by
 classical
 intro j
 induction j with
 | zero=>
  intro p ck s b hi Be hck hall hs hb;refine AFK (Ah ?_);rw[Aw (by omega)];rw[Bu (by omega)] at hall;rw[hall] at hP;exact Am (AQr ⟨_,Fw,hP⟩)
 | succ j D2=>
  intro p ck s b hi Be hck hall hs hb;refine AFK (Ah ?_);rw[Ap (by omega)];obtain⟨t,ht⟩:∃t,ts[p]?=some t:=⟨_,Ak (by omega)⟩;have V2:=A2 ht;rw[drop_cons ht,G5] at hall;have hrl:((Af t).map AV.pv).length=4:=by grind[Ac]
  have hro:=DK t
  have La:Ab (s.bs.length+1) ((Af t).map AV.pv)=true:=by
   obtain⟨k1,n1,i1,t1⟩:=t;rfl
  refine A4 (AQs (BI hy (row:=Af t) (by omega) (by simp[*,BE]) (Ac _) (by omega) (Cg (Bt ?_))));obtain⟨bs,tk⟩:=s;refine CL (Ay bs Z4) hrl rfl (by decide) (AI _) hro (.inl (AI _)) ?_;have e1:(bs++[Z4]).set bs.length ((Af t).map AV.pv)=bs++[(Af t).map AV.pv]:=by simp
  rw[e1];have hs1:BM ⟨bs++[(Af t).map AV.pv],tk⟩:=BM.app (s:=⟨bs,tk⟩) hs La;have gr:=Ay bs ((Af t).map AV.pv)
  have AQt:∀u∈ck,∀L,BD (env R) L 95 [.agg ((Af u).map .pv),.ptr bs.length 0] ⟨bs++[(Af t).map AV.pv],tk⟩ (BB (decide (u=t))) ⟨bs++[(Af t).map AV.pv],tk⟩:=by
   intro u hu L;obtain⟨b',h1,h2⟩:=ALi (R:=R) (t:=u) (u:=t) (hsz u (hck u hu).1) hs1 gr L
   grind
  have lR:=hb.Ax;rw[H7] at lR;refine⟨_,_,Uv (λt=>Ac t) lR (by omega) hs1 rfl AQt _,?_⟩;cases hm:ck.any (λu=>decide (u=t)) with
  | true=>
   obtain⟨u,hu,hut⟩:=Kq.1 hm;have:u=t:=by grind
   subst this;have hok:=(hck u hu).2;refine A4 (AFL (BW (by omega) (by omega) ?_));have:=D2 (p+1) ck ⟨bs++[(Af u).map AV.pv],tk⟩ b (by omega) (by omega) hck (by rw[hall,hok,E6]) hs1 hb
   grind
  | false=>
   refine Am (AQu (Ad gr hrl (FO (A5.BZ t).G1 ⟨by decide,Iz hb rfl (by omega) λb' HN hb' KQ=>Ad gr hrl ?_⟩)));have hs2:BM ⟨bs++[(Af t).map AV.pv],HN⟩:=hs1;obtain⟨v,s',⟨a,rfl,x1,x2,x3,x4,x5⟩,x6⟩:=hx t V2 _ (A5.BZ t).G1 ⟨bs++[(Af t).map AV.pv],HN⟩ hs2 (Cv (env R) 47 0 0 0) rfl rfl rfl;refine⟨_,_,x6,CE rfl (CE rfl (FE ?_))⟩
   have fail:Dp (X t)=false->(QP Post) (BB false) s':=λh=>by
    rw[hall,h,Ga] at hP;exact⟨_,Fw,hP⟩
   cases h0:(X t).2==0 with
   | false=>
    grind[DF,pk,A4,Dp]
   | true=>
    have:((X t).2 != 0)=false:=by grind
    rw[this];refine Ao (Ao (Al x1.A7 (Ao (Fp (pk ?_)))))
    by_cases h4:(X t).1.length<=4
    .rw[Aw (by omega)]
     refine Am (AFL (BW (by omega) (by omega) ?_));have AXb:Dp (X t)=true:=by grind[Dp]
     have:=D2 (p+1) (ck++[t]) s' b' (by omega) (by grind) (λu hu=>by
      rcases CG.1 hu with hu|hu
      all_goals grind) (by rw[hall,AXb,E6]) x5 (x4.keep hb' λ_ h=>by cases h)
     grind
    grind[A4,Dp]
theorem P8 {X:Ty->List Br×Int} {ts:List Ty} {y:AV} (hy:Aq y (AW ts)) (hl:ts.length<2 ^ 30) (hsz:∀t∈ts,size t<2 ^ 38) (hx:∀t∈ts,XOk R t (X t)):AL (env R) 47 [y] λr=>r=BB (ts.all λt=>Dp (X t)):=by
 refine e47 (u0:=y) (by simp[AY,hy.close]) (AQv (Al (n:=ts.length) (by rw[hy.A7,AR]) ?_));exact ADN (Post:=λr=>r=BB (ts.all λt=>Dp (X t))) hy hl hsz hx rfl ts.length 0 [] ⟨[],[]⟩ (.AB []) (by omega) (AI _) (λt h=>by cases h) rfl (λb hb=>by grind) (.inl rfl)
theorem O1 {X:Ty->List Br×Int} {ts:List Ty} {y:AV} (hy:BF y (AW ts)) (hl:ts.length<2 ^ 30) (hsz:∀t∈ts,size t<2 ^ 38) (hx:∀t∈ts,XOk R t (X t)):AL (env R) 47 [y] λr=>r=BB (ts.all λt=>Dp (X t)):=by
 obtain⟨y',h1,h2⟩:=hy.closed [] 0;exact AL.open (args':=[y']) (by rfl) (by rfl) rfl (by grind[AY]) (by simp[AY,h2.close]) (P8 h2 hl hsz hx)
end
theorem O2 {L:A8} {s:AM} {id:Nat} {cs:List AV} {K:AM->Prop} (hb:s.bs[id]?=some Z5) (hk:cs.length=5) (hro:L.ro<=id) (hok:cs.all A9=true) (hn:L.n0<=id) (h:K ⟨s.bs.set id cs,s.ts⟩):CJ L s 5 (.ptr id 0) (.agg cs) K:=
 CL hb hk rfl (by decide) hro hok (.inl hn) h
theorem ADO {B:List Ty} {p:Ty} (ht:HM B.length p=true):∀b∈(Jf B p).bounds,b∈B:=by
 intro b hb;have hb:b∈(LA B.length p []).2.map λx=>B.getD x Z9:=hb
 grind[fe]
section
variable {R:RT}
theorem ADP (hn:Rj R) {B:List Ty} (kR:B.length<=2 ^ 37) (hB:∀t∈B,size t<2 ^ 38/\aW t=true) {ps:List Ty} (KT:ps.length<=32) (hps:∀p∈ps,size p<2 ^ 37/\HM B.length p=true) {a:AV} (ha:BF a (AW (B4 ps))) {n e:Nat} {X:List (List AV)} {d:AV} (hX:X[e]?=some [d,AA 32]) (hd:BF d (AW B)) {Nv:List (Nat×Nat)} {QR:QT}
  (hF:(ps.map (Jf B)).all Qr=false->∀bs tk,BM ⟨bs,tk⟩->bs.take n=X->n<=bs.length->Ca (.AB []) (.AB []) Nv tk->QR (.tuple [.AB [],AA 4]) ⟨bs,tk⟩)
  (hS:(ps.map (Jf B)).all Qr=true->∀bs tk t7 t8,BM ⟨bs,tk⟩->bs.take n=X->n<=bs.length->Ca (.AB []) (.AB []) Nv tk->EY n bs (ps.map (Jf B)) t7->BF t8 (AW ((ps.map (Jf B)).flatMap Br.bounds))->wT R 0 0 0 t7 t8 ⟨bs,tk⟩ QR) :
  ∀(j p:Nat) (bs:List (List AV)) (tk:List (Nat×Nat)) (t7 t8:AV),p+j=ps.length->BM ⟨bs,tk⟩->bs.take n=X->n<=bs.length->EY n bs ((ps.take p).map (Jf B)) t7->Dg 0 tk 25 t8 (AW (((ps.take p).map (Jf B)).flatMap Br.bounds))->((ps.take p).map (Jf B)).all Qr=true->(((ps.take p).map (Jf B)).flatMap Br.bounds).length<=6*p->Ca (.AB []) (.AB []) Nv tk->DL t8 Nv ->
   lS R 0 0 0 (.ptr e 0) t7 t8 a (AA ps.length) (AA p) ⟨bs,tk⟩ QR:=by
 intro j
 induction j with
 | zero=>
  intro p bs tk t7 t8 hi hs hT ND h7 h8 hw hl6 hch hfr;refine AFM (Ah ?_);rw[Aw (by omega)];rw[CA (by omega)] at h7 h8 hw;exact Am (hS hw bs tk t7 t8 hs hT ND hch h7 h8.Ax)
 | succ j D2=>
  intro p bs tk t7 t8 hi hs hT ND h7 h8 hw hl6 hch hfr;refine AFM (Ah ?_);rw[Ap (by omega)];obtain⟨c,hc⟩:∃c,ps[p]?=some c:=⟨_,Ak (by omega)⟩;have Nr:=A2 hc;obtain⟨c1,c2⟩:=hps c Nr;have hrc:(B4 ps)[p]?=some (ren c):=by grind[Bk]
  have hrl:((Af (ren c)).map AV.pv).length=4:=by grind[Ac]
  have hro:=DK (ren c)
  have La:Ab (bs.length+1) ((Af (ren c)).map AV.pv)=true:=by
   obtain⟨k1,n1,i1,t1⟩:=ren c;rfl
  have EA:=A5.BZ (ren c);have VG:ps.take (p+1)=ps.take p++[c]:=by grind[List.take_add_one]
  refine A4 (AQw (BQ ha (row:=Af (ren c)) (by omega) (by grind[BE]) (Ac _) (by omega) (Cg (Bt ?_))));generalize (Af (ren c)).map AV.pv=row at hrl hro La EA;refine CL (Ay bs Z4) hrl rfl (by decide) (AI _) hro (.inl (AI _)) ?_;have e1:(bs++[Z4]).set bs.length row=bs++[row]:=by simp
  rw[e1];have hs1:BM ⟨bs++[row],tk⟩:=BM.app (s:=⟨bs,tk⟩) hs La;have gr:=Ay bs row;have Ro:=(Dy ND row).trans hT;have lb:(bs++[row]).length=bs.length+1:=by simp
  have h71:EY n (bs++[row]) ((ps.take p).map (Jf B)) t7:=h7.mono (Aa _) λj c _ hj=>Av hj _
  generalize bs++[row]=b1 at hs1 gr Ro lb h71;have gE1:b1[e]?=some [d,AA 32]:=B5 Ro hX;obtain⟨w,s',⟨My,r1,r2,rfl⟩,r3⟩:=bN (R:=R) hn (L:=Cv (env R) 14 0 0 0) (p:=c) (s:=⟨b1,tk⟩) (by omega) hB (by omega) c2 EA hs1 gE1 hd rfl rfl;refine Ad gr hrl ⟨_,_,r3,?_⟩;obtain⟨rw5,rfl⟩:=r1.agg;obtain⟨q1,q2,q3⟩:=r1.cells;have h81:=r2.keep h8 (λ_ h=>by cases h);have oS:=hch.trans r2;refine Bt (O2 (Ay b1 Z5) q1 (AI _) q2 (AI _) ?_);have e2:(b1++[Z5]).set b1.length rw5=b1++[rw5]:=by simp
  show D6 _ ⟨(b1++[Z5]).set b1.length rw5,My⟩ _ _ _
  rw[e2];have hs2:BM ⟨b1++[rw5],My⟩:=BM.app (s:=⟨b1,tk⟩) hs1 (q3 _);have g5:=Ay b1 rw5;have IZ:=(Dy (n:=n) (by omega) rw5).trans Ro;have h72:EY n (b1++[rw5]) ((ps.take p).map (Jf B)) t7:=h71.mono (Aa _) λj c _ hj=>Av hj _
  have lb2:(b1++[rw5]).length=b1.length+1:=by simp
  have h7n:∀m,t7≠.ref b1.length 0 m 5:=by
   intro m h;rcases h71 with ⟨h1,_⟩|⟨id,rows,_,h1,h2,_⟩
   all_goals grind
  generalize b1++[rw5]=b2 at hs2 g5 IZ h72 lb2;have hsz:=vQ B c;have hcv:=Gu (Jf B c).body;refine Ad g5 q1 (AD (Nd (by omega) (by omega) (by omega) r1) ?_);rintro _ rfl;have ew:(decide ((Jf B c).bounds.length<=6)&&decide ((Ai (Jf B c).body).length<=3))=Qr (Jf B c):=rfl;rw[ew];refine nt ?_;cases hwc:Qr (Jf B c) with
  | false=>
   grind[A4]
  | true=>
   have hb6:(Jf B c).bounds.length<=6:=by grind
   obtain⟨a5,y5,hy5,ha5,_⟩:=id r1;cases hy5;refine Am (AQy (Ad g5 q1 (MC r1 ⟨by decide,?_⟩)));have g5b:=Av g5 (a5::y5);have hs3:BM ⟨b2++[a5::y5],My⟩:=BM.app (s:=⟨b2,My⟩) hs2 (q3 _);have h73:EY n (b2++[a5::y5]) ((ps.take p).map (Jf B)) t7:=h72.mono (Aa _) λj c _ hj=>Av hj _
   refine wR (s:=⟨b2++[a5::y5],My⟩) r1 (Ay b2 _) h73 rfl (by grind) ?_ (by grind);intro a' bs' Qz Lf hb3 hb4 _;have hs4:=hb4 hs3;have g5c:=Lf b1.length _ h7n g5b
   have hT4:bs'.take n=X:=by
    rw[<-IZ];refine G3 λj=>?_
    by_cases hj:j<n
    .rw[RS hj,RS hj]
     have hj2:j<b2.length:=by omega
     have h1:(b2++[a5::y5])[j]?=some b2[j]:=by rw[Ci hj2,Ak hj2]
     rw[Lf j _ (λm h=>by
      rcases h73 with ⟨h2,_⟩|⟨id,rows,h2,h3,_⟩
      all_goals grind) h1,Ak hj2]
    grind
   have AQz:n<=bs'.length:=by omega
   refine AK (AP g5c) (AU (off:=0) g5c rfl ⟨by decide,Ew (l:=(Jf B c).bounds) h81 rfl (by omega) ha5 λt8' Jw x1 x2=>?_⟩);have sa:=BF.Bg (es:=(Jf B c).bounds) ha5;refine⟨AK (AP g5) (EO _ _),AK (AP g5b) (EO _ _),AU (off:=0) g5 rfl sa,AU (off:=0) g5b rfl sa,AQ0 (BW (by omega) (by omega) ?_)⟩;have em:(ps.take (p+1)).map (Jf B)=(ps.take p).map (Jf B)++[Jf B c]:=by grind
   have ef:((ps.take (p+1)).map (Jf B)).flatMap Br.bounds=((ps.take p).map (Jf B)).flatMap Br.bounds++(Jf B c).bounds:=by grind
   have:=D2 (p+1) bs' Jw a' t8' (by omega) hs4 hT4 AQz (by grind) (by grind) (by rw[em,W7,hw]; grind) (by grind) (oS.side x2 hfr) (hfr.Ow x2 oS.1)
   grind
end
structure Fit (t:Ty):Prop where
 bws:Cl (bw t)
 wts:wt t<=2 ^ 27
 nbs:nb t<2 ^ 37
theorem Fit.sub {t b:Ty} (h:Fit t) (hb:Yd t b):Fit b:=⟨DN h.bws hb.bws,Bq hb.wts h.wts,XF hb.nbs h.nbs⟩
mutual
theorem P9:∀t:Ty,valid t=true->X4 t
 | .mk k n i ts,h=>by
  have hn:=TI h;simp only[valid,AE] at h;rw[X4];exact⟨by grind[Xs],Tp ts h.2⟩
theorem Tp:∀l:List Ty,BS l=true->Q2 l
 | [],_=>trivial
 | t::l,h=>by
  simp only[BS,AE] at h;rw[Q2];exact⟨P9 t h.1,Tp l h.2⟩
end
mutual
theorem WS:∀t:Ty,valid t=true->ixs t=true
 | .mk k n i ts,h=>by
  have hv:=h;simp only[valid,AE] at h;rw[ixs,Tq ts h.2];cases h5:k==5 with
  | false=>rfl
  | true=>
   have:k=5:=by grind
   subst this;have h1:=I5 hv;have h2:=Pv hv
   grind
theorem Tq:∀l:List Ty,BS l=true->og l=true
 | [],_=>rfl
 | t::l,h=>by
  simp only[BS,AE] at h;rw[og,WS t h.1,Tq l h.2];rfl
end
theorem ou {t:Ty} (h:valid t=true) (hc:Co 0 t=true):aW t=true:=by
 have:=TJ [] t 0 h
 grind[EP]
section
variable {R:RT}
theorem Tr {t:Ty} (h:size t<2 ^ 60) (ho:X4 t) {x:AV} (hx:BJ t x):AL (env R) 42 [x] λr=>r=AA (verdict t):=by
 obtain⟨x',h1,h2⟩:=hx.closed [] 0;exact AL.open (args':=[x']) (by rfl) (by rfl) rfl (by grind[AY]) (by simp[AY,h2.Hv]) (Uo h ho h2)
theorem Ts {t:Ty} (h:size t<2 ^ 18) (R3:ixs t=true) {x:AV} (hx:BJ t x):AL (env R) 43 [x] λr=>∃l:List Int,Aq r (AX l)/\l.Pairwise (·<·)/\(∀w,w∈l<->w∈cJ 0 t):=by
 obtain⟨x',h1,h2⟩:=hx.closed [] 0;exact AL.open (args':=[x']) (by rfl) (by rfl) rfl (by grind[AY]) (by simp[AY,h2.Hv]) (Uu h R3 h2)
structure XH (R:RT) (X:Ty->List Br×Int) (t:Ty) (r:Option (List Ty)) (B:List Ty):Prop where
 run:∀(e:Nat) (x:AV),BJ t x->∀s,BM s->Ur R e 32 44 [x] (r,B) [] s
 len:B.length<2 ^ 37
 bds:∀b∈B,size b<2 ^ 38/\aW b=true
 few:∀ps,r=some ps->ps.length<=32
 pat:∀ps,r=some ps->∀p∈ps,size p<2 ^ 37/\HM B.length p=true
 sub:∀ps,r=some ps->∀b∈(ps.map (Jf B)).flatMap Br.bounds,size b<2 ^ 38/\XOk R b (X b)
def xO (X:Ty->List Br×Int) (r:Option (List Ty)) (B:List Ty):List Br×Int:=match r with
 | none=>([],4)
 | some ps=>bif (ps.map (Jf B)).all Qr&&(((ps.map (Jf B)).flatMap Br.bounds).all λb=>Dp (X b)) then(ps.map (Jf B),0) else([],4)
theorem ow (hn:Rj R) {X:Ty->List Br×Int} {t:Ty} {r:Option (List Ty)} {B:List Ty} (hsz:size t<2 ^ 60) (hok:X4 t) (H:verdict t=0->Co 0 t=true->XH R X t r B):XOk R t (bif !(verdict t==0)||!(Co 0 t) then([],2) else xO X r B):=by
 intro x hx s hs L hn0 hro EU;have hv1:=Tr (R:=R) hsz hok hx;have hfv:=λh1 h2=>Ts (R:=R) (t:=t) h1 h2 hx
 have hxO:=hx;obtain⟨xc,rfl⟩:=hxO.agg;obtain⟨c1,c2,c3⟩:=hxO.cells;have ZH:(s.bs++[xc]).take s.bs.length=s.bs:=by simp
 have hs1:BM ⟨s.bs++[xc],s.ts⟩:=BM.app (s:=s) hs (c3 _);have g0:=Ay s.bs xc
 have fail:∀(n:Int) (o:List Br×Int),o=([],n)->∀bs ts,BM ⟨bs,ts⟩->bs.take s.bs.length=s.bs->s.bs.length<=bs.length->Ca (.AB []) (.AB []) s.ts ts ->
   ∃a,(AV.tuple [.AB [],AA n])=.tuple [a,AA o.2]/\EY s.bs.length bs o.1 a/\bs.take s.bs.length=s.bs/\s.bs.length<=bs.length/\Ca (.AB []) (.AB []) s.ts ts/\BM ⟨bs,ts⟩:=by
  rintro n o rfl bs ts h1 h2 h3 h4;exact⟨_,rfl,.inl ⟨rfl,rfl⟩,h2,h3,h4,h1⟩
 refine m14 ?_;rw[hn0,hro,EU];refine AQ1 (Bw (cs:=xc) rfl c2 (Ad g0 c1 (AD hv1 ?_)));rintro _ rfl;refine FE ?_;cases ZE:verdict t==0 with
 | false=>
  have:(verdict t != 0)=true:=by grind
  rw[this];refine DF (DF (DF (DF (pk (A4 ?_)))));exact fail 2 _ rfl _ _ hs1 ZH (by simp) (Ca.refl _ _)
 | true=>
  have:(verdict t != 0)=false:=by grind
  rw[this];obtain⟨hv,AFN,AQ2⟩:=Hh (by simpa using ZE);refine Ao (Ad g0 c1 (Ao (AD (hfv (by omega) (WS t hv)) ?_)));rintro v ⟨fl,hfl,hsrt,hmem⟩;refine Ao (Al (n:=fl.length) (by rw[hfl.A7,BV]) (Ao (Fp (pk ?_))));cases hc:Co 0 t with
  | false=>
   have hne:0<fl.length:=by
    rcases fl with _|⟨w,fl⟩
    .exfalso
     have:cJ 0 t=[]:=by
      rcases hf:cJ 0 t with _|⟨w,l⟩
      .rfl
      .have:=(hmem w).2 (by grind)
       grind
     grind[Ti]
    simp
   rw[Ap (by omega)];refine A4 ?_;exact fail 2 _ rfl _ _ hs1 ZH (by simp) (Ca.refl _ _)
  | true=>
   have wN:fl=[]:=by
    rcases fl with _|⟨w,fl⟩
    .rfl
    .exfalso
     have:=(hmem w).1 (by simp)
     grind[Ti]
   subst wN;rw[Aw (by simp)];simp only[MM,Ks,AG];have hH:=H (by simpa using ZE) hc;refine Am (AQ3 (IC (cs:=[.AB [],AA 32]) rfl (Bw (cs:=[.AB [],AA 32]) rfl rfl ?_)));have gE:(s.bs++[xc]++[[.AB [],AA 32]])[s.bs.length+1]?=some [.AB [],AA 32]:=by simp
   have qi:=Av g0 [.AB [],AA 32];have hs2:BM ⟨s.bs++[xc]++[[.AB [],AA 32]],s.ts⟩:=BM.app (s:=⟨s.bs++[xc],s.ts⟩) hs1 rfl;have hlen:(s.bs++[xc]++[[.AB [],AA 32]]).length=s.bs.length+2:=by simp
   have hX:(s.bs++[xc]++[[.AB [],AA 32]]).take (s.bs.length+2)=s.bs++[xc]++[[.AB [],AA 32]]:=CA (by omega);have IZ:(s.bs++[xc]++[[.AB [],AA 32]]).take s.bs.length=s.bs:=by simp
   have dR:(s.bs++[xc]).length=s.bs.length+1:=by simp
   rw[dR];generalize s.bs++[xc]++[[.AB [],AA 32]]=b2 at gE qi hs2 hlen hX IZ;obtain⟨w,s',⟨d',My,q1,q2,q3,rfl⟩,q4⟩:=hH.run (s.bs.length+1) (.agg xc) hxO ⟨b2,s.ts⟩ hs2 (Cv (env R) 14 0 0 0) (.AB []) rfl rfl gE (.inl rfl);refine Ad qi c1 ⟨_,_,q4,?_⟩;have hs3:BM ⟨b2.set (s.bs.length+1) [d',AA ((32:Nat):Int)],My⟩:=BM.set (s:=⟨b2,s.ts⟩) hs2 (by simp[Ab,Ar,q2.Ax.Ar]) _;have TX:(b2.set (s.bs.length+1) [d',AA ((32:Nat):Int)]).take s.bs.length=s.bs:=(C6 (by omega)).trans IZ;have Q9:(b2.set (s.bs.length+1) [d',AA ((32:Nat):Int)])[s.bs.length+1]?=some [d',AA ((32:Nat):Int)]:=Bf gE;have jT:(b2.set (s.bs.length+1) [d',AA ((32:Nat):Int)]).length=s.bs.length+2:=by grind
   have hch:Ca (.AB []) (.AB []) s.ts My:=by
    obtain⟨h1,h2,h3⟩:=q3;exact⟨h1,λt ht _=>h2 t ht (λh=>by cases h),.inl rfl⟩
   generalize b2.set (s.bs.length+1) [d',AA ((32:Nat):Int)]=b3 at hs3 TX Q9 jT;cases r with
   | none=>
    cases q1;exact CE rfl (CE rfl (nt (A4 (fail 4 _ rfl b3 My hs3 TX (by omega) hch))))
   | some ps=>
    obtain⟨ya,rfl,UU⟩:=q1;simp only at q2;have KT:=hH.few ps rfl;have hps:=hH.pat ps rfl;have hB:=hH.bds;refine CE rfl (CE rfl (nt (Am (AQ4 (Al (n:=ps.length) (by rw[UU.A7,AR,Bk,Bx]) ?_)))));have hBb:=hH.len;refine ADP hn (n:=s.bs.length+2) (X:=b3) (by omega) hB KT hps UU Q9 q2.Ax (Nv:=My) ?_ ?_ ps.length 0 b3 My (.AB []) (.AB []) (by omega) hs3 (CA (by omega)) (by omega) (.inl ⟨rfl,rfl⟩) (.inl rfl) rfl (by simp) (Ca.refl _ _) (DL.AB _ _)
    .intro hall bs tk h1 h2 h3 h4
     have h5:bs.take s.bs.length=s.bs:=by grind
     refine fail 4 _ ?_ bs tk h1 h5 (by omega) (hch.trans h4)
     grind[xO]
    .intro hall bs tk t7 t8 h1 h2 h3 h4 h6 h7
     have h5:bs.take s.bs.length=s.bs:=by grind
     have hbm:=hH.sub ps rfl
     have hfl:((ps.map (Jf B)).flatMap Br.bounds).length<=6*32:=by
      have:∀l:List Br,l.all Qr=true->(l.flatMap Br.bounds).length<=6*l.length:=by
       intro l
       induction l with
       | nil=>simp
       | cons b l ihl=>
        grind[Qr]
      grind
     refine AQ5 (AD (O1 (X:=X) h7 (by omega) (λb hb=>(hbm b hb).1) (λb hb=>(hbm b hb).2)) ?_);rintro _ rfl;refine nt ?_;cases Nu:(((ps.map (Jf B)).flatMap Br.bounds).all λb=>Dp (X b)) with
     | false=>
      refine A4 (fail 4 _ ?_ bs tk h1 h5 (by omega) (hch.trans h4))
      grind[xO]
     | true=>
      refine Am (AQ6 ?_);simp only[xO,hall,Nu,Kr,AN];exact⟨t7,rfl,h6.mono (by omega) λj c _ h=>h,h5,by omega,hch.trans h4,h1⟩
theorem gQ (hn:Rj R):∀(f:Nat) (t:Ty),depth t<=f->size t<2 ^ 60->X4 t->(verdict t=0->Fit t)->XOk R t (xP f t):=by
 intro f
 induction f with
 | zero=>
  intro t hd;obtain⟨k,n,i,ts⟩:=t
  grind[depth]
 | succ f ih=>
  intro t hd hsz hok hfit;have ho:=ow (R:=R) hn (X:=xP f) (t:=t) (r:=(A3 (AQ 32) (depth t) t []).1) (B:=(A3 (AQ 32) (depth t) t []).2) hsz hok ?_
  .rw[xP]
   revert ho;rcases A3 (AQ 32) (depth t) t [] with ⟨_|ps,B⟩
   .exact λho=>ho
   .exact λho=>ho
  intro ZE hc;obtain⟨hv,AFN,AQ2⟩:=Hh ZE;have hft:=hfit ZE;have wU:=λ(e:Nat)=>cH (R:=R) hn (e:=e) (Az:=32) (M:=nb t) (by decide) (by decide) hft.nbs (depth t) t [] (Aa _) hv hc (XF hft.wts (by decide)) (by omega) [] (λx hx=>by grind)
  have hnb:=ADF (depth t) t [] [] hv hc hft.bws (λx hx=>by grind);have hall:=IA (BA:=AQ 32) (depth t) t [] (nb t) (qM (nb t));have hbd:=Nb (f:=depth t) hv hc;have NT:=Kb (BA:=AQ 32) (by rfl) (depth t) t [];rw[EP hv hc] at wU hnb;rw[Mc t hv] at wU
  have gG:Eu (λi=>qM (nb t) i&&decide (i<(([]:List Ty).length:Nat))) t=true:=by
   have:=ID (q:=λi=>qM (nb t) i&&decide (i<(([]:List Ty).length:Nat))) (σ:=[]) (λx hx=>by grind) t 0 hv
   grind[EP]
  rcases he:A3 (AQ 32) (depth t) t [] with ⟨r,B⟩
  rw[he] at wU hnb hall hbd NT;simp only[B8,CQ] at hnb;simp only at wU hall hbd NT
  have hB:∀b∈B,size b<2 ^ 38/\aW b=true:=by
   intro b hb;have h1:=hbd b hb;exact⟨by have:=h1.WL; omega,ou h1.val h1.cl⟩
  have hpt:∀ps,r=some ps->∀p∈ps,size p<2 ^ 37/\HM B.length p=true:=by
   rintro ps rfl p hp;obtain⟨h1,h2⟩:=hall ps (λi h1 h2=>by grind) gG rfl hnb p hp;refine⟨by have:=hft.wts; omega,?_⟩
   obtain⟨h3,_⟩:=IA (BA:=AQ 32) (depth t) t [] B.length (qM B.length) ps (λi h1 h2=>by grind) (by
    have:=ID (q:=λi=>qM B.length i&&decide (i<(([]:List Ty).length:Nat))) (σ:=[]) (λx hx=>by grind) t 0 hv
    grind[EP]) (by rw[he]) (by grind) p hp
   rw[Md];exact h3
  refine⟨λe=>wU e hnb,XF hnb hft.nbs,hB,λps hps=>by grind,hpt,?_⟩
  .rintro ps rfl b hb
   have h8:Yd t b:=by
    obtain⟨br,lR,hb⟩:=N3.1 hb;obtain⟨p,hp,rfl⟩:=C0.1 lR;have:=(hpt ps rfl p hp).2
    grind[ADO]
   exact⟨by have:=h8.WL; omega,ih b (by have:=h8.dep; omega) (by have:=h8.WL; omega) (P9 b h8.val) (λ_=>hft.sub h8)⟩
end
mutual
def WT:Ty->Bool
 | .mk k n i ts=>bif k==5 then n==[]&&(ts.isEmpty&&(decide (-(2 ^ 60)<=i)&&decide (i<2 ^ 60))) else bif k==2||k==3 then QA ts else true
def QA:List Ty->Bool
 | []=>true
 | t::l=>WT t&&QA l
end
theorem Rs {n:List UInt8} {i:Int} {ts:List Ty} (h:WT (.mk 5 n i ts)=true):n=[]/\ts=[]/\-(2 ^ 60)<=i/\i<2 ^ 60:=by grind[WT]
theorem Tt (f:Int->Ty):∀l:List Ty,Cp f l=l.map (CM f)
 | []=>rfl
 | t::l=>by rw[Cp,Tt f l]; rfl
section
variable {R:RT}
theorem JY (i:Int):AL (env R) 25 [AA i] λr=>r=.agg [AA 5,SS [],AA i,.AB []]:=by
 refine e25 (u0:=AA i) (by simp) (AQ7 (Bt (IC (cs:=[AA 5,SS [],AA i,.AB []]) rfl ?_)));refine CL (old:=Z4) rfl rfl rfl (by decide) (AI _) rfl (.inl (AI _)) (Ad (cs:=[AA 5,SS [],AA i,.AB []]) rfl rfl ?_);exact⟨_,by simp,rfl⟩
theorem Rt (i:Int):A5 (var i) (.agg [AA 5,SS [],AA i,.AB []]):=⟨_,rfl,.AB _⟩
theorem Gi {s:AM} {id:Nat} {t:Ty} {cs old:List AV} {Post:AV->Prop} (h1:s.bs[id]?=some old) (ho:old.length=4) (hr:BJ t (.agg cs)) (hP:∀r,A5 t r->Post r) {f:FuncId} :
  CJ (Cv (env R) f 0 0 0) s 4 (.ptr id 0) (.agg cs) λs1=>D6 (env R) s1 (some 4) (.ptr id 0) λr=>QP Post r s1:=by
 obtain⟨c1,c2,c3⟩:=hr.cells;refine CL h1 c1 ho (by decide) (AI _) c2 (.inl (AI _)) (Ad (Bf h1) c1 ?_);obtain⟨r,h3,h4⟩:=hr.closed (s.bs.set id cs) 0;exact⟨r,h3,hP r h4⟩
theorem ADR {ts:List Ty} {a:AV} (ha:Aq a (AW ts)) (hl:ts.length<2 ^ 37) {k i n m:Int} {nm:List UInt8} {g:Ty->Ty} (ih:∀t∈ts,AL (env R) 82 [.agg ((Af t).map .pv),AA n,AA m] λr=>A5 (g t) r) {Post:AV->Prop} (hP:∀r,A5 (.mk k nm i (ts.map g)) r->Post r) :
  ∀(j q:Nat) (s:AM) (b:AV),q+j=ts.length->s.bs[0]?=some [AA k,SS nm,AA i,a]->s.bs[1]?=some Z4->s.bs[2]?=some [AA k,SS nm,AA i,b]->Dg 0 s.ts 25 b (AW ((ts.take q).map g)) ->
   lT R 0 0 0 (AA n) (AA m) (.ptr 0 0) (.ptr 1 0) (.ptr 2 0) (AA q) s (QP Post):=by
 intro j
 induction j with
 | zero=>
  intro q s b hi h0 h1 h2 hb;refine AFO (AK (AP h0) (AU (off:=3) h0 rfl (Al (n:=ts.length) (by rw[ha.A7,AR]) (Ah ?_))));rw[Aw (by omega)];rw[CA (by omega)] at hb;exact Am (AQ8 (Ad h2 rfl (Gi h1 rfl (t:=.mk k nm i (ts.map g)) ⟨b,rfl,hb.Ax⟩ hP)))
 | succ j D2=>
  intro q s b hi h0 h1 h2 hb;refine AFO (AK (AP h0) (AU (off:=3) h0 rfl (Al (n:=ts.length) (by rw[ha.A7,AR]) (Ah ?_))));rw[Ap (by omega)];obtain⟨t,ht⟩:∃t,ts[q]?=some t:=⟨_,Ak (by omega)⟩;refine A4 (AQ9 (AK (AP h2) (AU (off:=3) h2 rfl (AK (AP h0) (AU (off:=3) h0 rfl (BI ha (row:=Af t) (by omega) (by grind[BE]) (Ac t) (by omega) (Cg ?_)))))));refine AD (ih t (A2 ht)) ?_;intro v hv;refine FO hv.G1 ⟨by decide,YH hb rfl (by grind) ?_⟩;intro b' HN hb';have hqt:(ts.take q).map g++[g t]=(ts.take (q+1)).map g:=by grind[List.take_add_one]
  rw[hqt] at hb';refine AK (AP h2) (DD h2 (by simp) hb'.Ax.cells (AI _) hb'.Ax.ok (.inl (AI _)) ?_);refine⟨AK (AP h2) (EO _ _),AU (off:=3) h2 rfl (HF hb),ARA (BW (by omega) (by omega) ?_)⟩;have:=D2 (q+1) ⟨s.bs.set 2 [AA k,SS nm,AA i,b'],HN⟩ b' (by omega) (BR h0 (by decide)) (BR h1 (by decide)) (Bf h2) hb'
  grind
mutual
theorem Qt (n m:Int):∀(t:Ty),size t<2 ^ 37->WT t=true->∀(x:AV),A5 t x->AL (env R) 82 [x,AA n,AA m] λr=>A5 (KV n m t) r
 | .mk k nm i ts,h,hv,x,hx=>by
  obtain⟨a,rfl,ha⟩:=hx;simp only[size] at h;have hln:=BP ts
  suffices H:∀Post:AV->Prop,(∀r,A5 (KV n m (.mk k nm i ts)) r->Post r)->wV R 0 0 0 (.agg [AA k,SS nm,AA i,a]) (AA n) (AA m) ⟨[],[]⟩ (QP Post) from
   e82 (u0:=.agg [AA k,SS nm,AA i,a]) (u1:=AA n) (u2:=AA m) (by simp[ha.close]) (H _ λr h=>h)
  intro Post hP;refine ARB (Bw (cs:=[AA k,SS nm,AA i,a]) rfl (by simp[ha.ok]) (Bt ?_));simp only[Cb,B8,Dh,CO,CQ];have g0:(AM.mk [[AA k,SS nm,AA i,a],Z4] []).bs[0]?=some [AA k,SS nm,AA i,a]:=rfl;have g1:(AM.mk [[AA k,SS nm,AA i,a],Z4] []).bs[1]?=some Z4:=rfl;refine AK (AP g0) (AU (off:=0) g0 rfl (Au ?_));cases h5:(k==5) with
  | true=>
   have:k=5:=by grind
   subst this;obtain⟨rfl,rfl,_,_⟩:=Rs hv;rw[KV,CM] at hP;refine A4 (AK (AP g0) (AU (off:=2) g0 rfl (Au ?_)));cases hin:(i==n) with
   | true=>
    rw[hin] at hP;refine A4 (AD (JY m) ?_);rintro _ rfl;exact Gi g1 rfl (t:=var m) (Rt m).G1 hP
   | false=>
    rw[hin] at hP;exact Am (ARC (Ad g0 rfl (Gi g1 rfl (t:=var i) ⟨a,rfl,.inl ha⟩ hP)))
  | false=>
   rw[WT,h5] at hv;simp only[AG] at hv;rw[KV,CM,h5] at hP;simp only[AG] at hP;refine Am (ARD (AK (AP g0) (AU (off:=0) g0 rfl (FE ?_))))
   have copy:(k==2||k==3)=true->wW R 0 0 0 (AA n) (AA m) (.ptr 0 0) (.ptr 1 0) ⟨[[AA k,SS nm,AA i,a],Z4],[]⟩ (QP Post):=by
    intro hk;rw[hk] at hv hP;simp only[AN,Tt] at hv hP;refine ARF (Ad g0 rfl (Bt (CL (Ay _ _) rfl rfl (by decide) (AI _) (by simp[ha.ok]) (.inl (AI _)) ?_)))
    show A0 ⟨[[AA k,SS nm,AA i,a],Z4,[AA k,SS nm,AA i,a]],[]⟩ _ _ _
    have g2:(AM.mk [[AA k,SS nm,AA i,a],Z4,[AA k,SS nm,AA i,a]] []).bs[2]?=some [AA k,SS nm,AA i,a]:=rfl;refine AK (AP g2) (DD (off:=3) g2 (by simp) rfl (AI _) rfl (.inl (AI _)) ?_);exact ADR (g:=KV n m) ha (by omega) (O3 n m ts (by omega) hv) (λr h=>hP r h) ts.length 0 _ (.AB []) (by omega) rfl rfl rfl (.inl rfl)
   cases h3:(k==3) with
   | true=>
    simp_all
   | false=>
    have:(k != 3)=true:=by grind
    rw[this];refine Ao (AK (AP g0) (Ao (AU (off:=0) g0 rfl (Ao (FE (pk ?_))))));cases h2:(k==2) with
    | true=>
     simp_all
    | false=>
     have:(k != 2)=true:=by grind
     simp only[this,AN];rw[h2,h3] at hP;exact A4 (Ad g0 rfl (Gi g1 rfl (t:=.mk k nm i ts) ⟨a,rfl,.inl ha⟩ hP))
theorem O3 (n m:Int):∀(l:List Ty),AZ l<2 ^ 37->QA l=true->∀t∈l,AL (env R) 82 [.agg ((Af t).map .pv),AA n,AA m] λr=>A5 (KV n m t) r
 | [],_,_,_,h=>by cases h
 | e::l,h,hv,t,hm=>by
  simp only[AZ] at h;simp only[QA,AE] at hv;rcases A1.1 hm with h' | h'
  .rw[h']
   exact Qt n m e (by omega) hv.1 _ (A5.BZ e)
  .exact O3 n m l (by omega) hv.2 t h'
end
end
section
variable {R:RT}
def OpC (R:RT) (op n:Int) (g:Ty->Ty) (t:Ty):Prop:=
 (op=0/\AL (env R) 112 [.agg ((Af t).map .pv),AA n] λr=>A5 (g t) r)\/(op=1/\AL (env R) 97 [.agg ((Af t).map .pv)] λr=>A5 (g t) r)\/(op=2/\AL (env R) 128 [.agg ((Af t).map .pv),AA n] λr=>A5 (g t) r)
theorem ADS {op n:Int} {ts:List Ty} {a:AV} (ha:Aq a (AW ts)) (hl:ts.length<2 ^ 37) {k i:Int} {nm:List UInt8} {g:Ty->Ty} (ih:∀t∈ts,OpC R op n g t) {Post:AV->Prop} (hP:∀r,A5 (.mk k nm i (ts.map g)) r->Post r) :
  ∀(j q:Nat) (s:AM) (b:AV),q+j=ts.length->s.bs[0]?=some [AA k,SS nm,AA i,a]->s.bs[1]?=some Z4->s.bs[2]?=some [AA k,SS nm,AA i,b]->Dg 0 s.ts 25 b (AW ((ts.take q).map g)) ->
   Yj R 0 0 0 (AA op) (AA n) (.ptr 0 0) (.ptr 1 0) (.ptr 2 0) (AA q) s (QP Post):=by
 intro j
 induction j with
 | zero=>
  intro q s b hi h0 h1 h2 hb;refine wX (AK (AP h0) (AU (off:=3) h0 rfl (Al (n:=ts.length) (by rw[ha.A7,AR]) (Ah ?_))));rw[Aw (by omega)];rw[CA (by omega)] at hb;exact Am (ALl (Ad h2 rfl (Gi h1 rfl (t:=.mk k nm i (ts.map g)) ⟨b,rfl,hb.Ax⟩ hP)))
 | succ j D2=>
  intro q s b hi h0 h1 h2 hb;refine wX (AK (AP h0) (AU (off:=3) h0 rfl (Al (n:=ts.length) (by rw[ha.A7,AR]) (Ah ?_))));rw[Ap (by omega)];obtain⟨t,ht⟩:∃t,ts[q]?=some t:=⟨_,Ak (by omega)⟩
  have fin:∀v,A5 (g t) v->CV false s 4 [(AA 0),(SS []),(AA 0),(.AB [])] 1 [(0,4,v)] λa51 ALm=>(4=4/\4≠0)/\Ct false (Cv (env R) 127 0 0 0) s 25 4 56 b a51 λa52 ARG=>A0 ARG (.ptr 2 0) 3 λa53=>CJ (Cv (env R) 127 0 0 0) ARG 1 a53 a52 λAC7=>
    (A0 s (.ptr 2 0) 3 λv=>Tel.Bg v (.ptr 2 (0+3))=true)/\(D6 (env R) s none (.ptr 2 (0+3)) λvx4=>Tel.Bg vx4 b=true)/\Tu R 0 0 0 (AA op) (AA n) (.ptr 0 0) (.ptr 1 0) (.ptr 2 0) (AA q) AC7 (QP Post):=by
   intro v hv;refine FO hv.G1 ⟨by decide,YH hb rfl (by grind) ?_⟩;intro b' HN hb';have hqt:(ts.take q).map g++[g t]=(ts.take (q+1)).map g:=by grind[List.take_add_one]
   rw[hqt] at hb';refine AK (AP h2) (DD h2 (by simp) hb'.Ax.cells (AI _) hb'.Ax.ok (.inl (AI _)) ?_);refine⟨AK (AP h2) (EO _ _),AU (off:=3) h2 rfl (HF hb),ALn (BW (by omega) (by omega) ?_)⟩;have:=D2 (q+1) ⟨s.bs.set 2 [AA k,SS nm,AA i,b'],HN⟩ b' (by omega) (BR h0 (by decide)) (BR h1 (by decide)) (Bf h2) hb'
   grind
  refine A4 (ALo (Au ?_));rcases ih t (A2 ht) with ⟨rfl,hc⟩|⟨rfl,hc⟩|⟨rfl,hc⟩
  .exact A4 (AK (AP h2) (AU (off:=3) h2 rfl (AK (AP h0) (AU (off:=3) h0 rfl (BI ha (row:=Af t) (by omega) (by grind[BE]) (Ac t) (by omega) (Cg (AD hc fin)))))))
  .exact Am (Au (A4 (AK (AP h2) (AU (off:=3) h2 rfl (AK (AP h0) (AU (off:=3) h0 rfl (BI ha (row:=Af t) (by omega) (by grind[BE]) (Ac t) (by omega) (Cg (AD hc fin)))))))))
  .exact Am (Au (Am (AK (AP h2) (AU (off:=3) h2 rfl (AK (AP h0) (AU (off:=3) h0 rfl (BI ha (row:=Af t) (by omega) (by grind[BE]) (Ac t) (by omega) (Cg (AD hc fin)))))))))
theorem Yk {op n:Int} {g:Ty->Ty} {k i:Int} {nm:List UInt8} {ts:List Ty} (hl:ts.length<2 ^ 37) (ih:(k==2||k==3)=true->∀t∈ts,OpC R op n g t) {x:AV} (hx:A5 (.mk k nm i ts) x):AL (env R) 127 [x,AA op,AA n] λr=>A5 (bif k==2||k==3 then .mk k nm i (ts.map g) else .mk k nm i ts) r:=by
 obtain⟨a,rfl,ha⟩:=hx
 suffices H:∀Post:AV->Prop,(∀r,A5 (bif k==2||k==3 then .mk k nm i (ts.map g) else .mk k nm i ts) r->Post r)->gR R 0 0 0 (.agg [AA k,SS nm,AA i,a]) (AA op) (AA n) ⟨[],[]⟩ (QP Post) from
  AXf (u0:=.agg [AA k,SS nm,AA i,a]) (u1:=AA op) (u2:=AA n) (by simp[ha.close]) (H _ λr h=>h)
 intro Post hP;refine ALp (Bw (cs:=[AA k,SS nm,AA i,a]) rfl (by simp[ha.ok]) (Bt ?_));simp only[Cb,B8,Dh,CO,CQ];have g0:(AM.mk [[AA k,SS nm,AA i,a],Z4] []).bs[0]?=some [AA k,SS nm,AA i,a]:=rfl;have g1:(AM.mk [[AA k,SS nm,AA i,a],Z4] []).bs[1]?=some Z4:=rfl
 have copy:(k==2||k==3)=true->gS R 0 0 0 (AA op) (AA n) (.ptr 0 0) (.ptr 1 0) ⟨[[AA k,SS nm,AA i,a],Z4],[]⟩ (QP Post):=by
  intro hk;rw[hk] at hP;simp only[AN] at hP;refine ALq (Ad g0 rfl (Bt (CL (Ay _ _) rfl rfl (by decide) (AI _) (by simp[ha.ok]) (.inl (AI _)) ?_)))
  show A0 ⟨[[AA k,SS nm,AA i,a],Z4,[AA k,SS nm,AA i,a]],[]⟩ _ _ _
  have g2:(AM.mk [[AA k,SS nm,AA i,a],Z4,[AA k,SS nm,AA i,a]] []).bs[2]?=some [AA k,SS nm,AA i,a]:=rfl;refine AK (AP g2) (DD (off:=3) g2 (by simp) rfl (AI _) rfl (.inl (AI _)) ?_);exact ADS (g:=g) ha hl (ih hk) (λr h=>hP r h) ts.length 0 _ (.AB []) (by omega) rfl rfl rfl (.inl rfl)
 refine AK (AP g0) (AU (off:=0) g0 rfl (FE ?_));cases h3:(k==3) with
 | true=>
  simp_all
 | false=>
  have:(k != 3)=true:=by grind
  rw[this];refine Ao (AK (AP g0) (Ao (AU (off:=0) g0 rfl (Ao (FE (pk ?_))))));cases h2:(k==2) with
  | true=>
   simp_all
  | false=>
   have:(k != 2)=true:=by grind
   simp only[this,AN];rw[h2,h3] at hP;exact A4 (Ad g0 rfl (Gi g1 rfl (t:=.mk k nm i ts) ⟨a,rfl,.inl ha⟩ hP))
theorem QB {f:Int->Ty} {k i:Int} {nm:List UInt8} {ts:List Ty} (h5:(k==5)=false):CM f (.mk k nm i ts)=bif k==2||k==3 then .mk k nm i (ts.map (CM f)) else .mk k nm i ts:=by grind[CM,Tt]
theorem Tv {k i:Int} {nm:List UInt8} {ts:List Ty} (h5:(k==5)=false) (h:WT (.mk k nm i ts)=true):(k==2||k==3)=true->QA ts=true:=by grind[WT]
mutual
theorem Nf {n:Nat} (hn:n<2 ^ 60):∀(t:Ty),size t<2 ^ 37->WT t=true->∀(x:AV),A5 t x->AL (env R) 112 [x,AA n] λr=>A5 (H8 n t) r
 | .mk k nm i ts,h,hv,x,hx=>by
  have hx0:=hx;obtain⟨a,rfl,ha⟩:=hx;simp only[size] at h;have hln:=BP ts;have hma:=λh5:(k==5)=false=>Yk (R:=R) (op:=0) (n:=n) (g:=H8 n) (by omega) (λhk t ht=>.inl ⟨rfl,Qu hn ts (by omega) (Tv h5 hv hk) t ht⟩) hx0
  suffices H:∀Post:AV->Prop,(∀r,A5 (H8 n (.mk k nm i ts)) r->Post r)->gT R 0 0 0 (.agg [AA k,SS nm,AA i,a]) (AA n) ⟨[],[]⟩ (QP Post) from
   AXg (u0:=.agg [AA k,SS nm,AA i,a]) (u1:=AA n) (by simp[ha.close]) (H _ λr h=>h)
  intro Post hP;refine ALr (Bw (cs:=[AA k,SS nm,AA i,a]) rfl (by simp[ha.ok]) (Bt ?_));simp only[Cb,B8,Dh,CO,CQ];have g0:(AM.mk [[AA k,SS nm,AA i,a],Z4] []).bs[0]?=some [AA k,SS nm,AA i,a]:=rfl;have g1:(AM.mk [[AA k,SS nm,AA i,a],Z4] []).bs[1]?=some Z4:=rfl;refine AK (AP g0) (AU (off:=0) g0 rfl (Au ?_));cases h5:(k==5) with
  | true=>
   have:k=5:=by grind
   subst this;obtain⟨rfl,rfl,hi0,hi1⟩:=Rs hv;rw[H8,CM] at hP;have same:(∀r,A5 (var i) r->Post r)->Yl R 0 0 0 (.ptr 0 0) (.ptr 1 0) ⟨[[AA 5,SS [],AA i,a],Z4],[]⟩ (QP Post):=λhP=>wY (Ad g0 rfl (Gi g1 rfl (t:=var i) ⟨a,rfl,.inl ha⟩ hP))
   refine A4 (AK (AP g0) (AU (off:=2) g0 rfl (NU ?_)))
   by_cases h0:0<=i
   .have e0:i>=0:=h0
    rw[Ap e0];rw[Ap h0] at hP;refine Ao (AK (AP g0) (Ao (AU (off:=2) g0 rfl (Ao (FE (pk ?_))))));cases hh:(i==hole) with
    | true=>
     have:(i != 1073741824)=false:=by
      have:(i==1073741824)=true:=hh
      grind
     simp_all
    | false=>
     have:(i != 1073741824)=true:=by
      have:(i==1073741824)=false:=hh
      grind
     simp only[this,AN];rw[hh] at hP;refine A4 (AK (AP g0) (AU (off:=2) g0 rfl (BW (by omega) (by omega) (AK (AP g0) (DD (off:=2) g0 (by simp) rfl (AI _) rfl (.inl (AI _)) ?_)))));have qj:(AM.mk ([[AA 5,SS [],AA i,a],Z4].set 0 ([AA 5,SS [],AA i,a].set 2 (AA (i+n)))) []).bs[0]?=some [AA 5,SS [],AA (i+n),a]:=rfl;have g1':(AM.mk ([[AA 5,SS [],AA i,a],Z4].set 0 ([AA 5,SS [],AA i,a].set 2 (AA (i+n)))) []).bs[1]?=some Z4:=rfl;exact wY (Ad qj rfl (Gi g1' rfl (t:=var (i+n)) ⟨a,rfl,.inl ha⟩ hP))
   grind[Bm,pk,Am]
  | false=>
   rw[H8,QB h5] at hP;refine Am (ALs (Ad g0 rfl (AD (hma h5) ?_)));intro r hr;obtain⟨rc,rfl⟩:=hr.G1.agg;exact Gi g1 rfl hr.G1 hP
theorem Qu {n:Nat} (hn:n<2 ^ 60):∀(l:List Ty),AZ l<2 ^ 37->QA l=true->∀t∈l,AL (env R) 112 [.agg ((Af t).map .pv),AA n] λr=>A5 (H8 n t) r
 | [],_,_,_,h=>by cases h
 | e::l,h,hv,t,hm=>by
  simp only[AZ] at h;simp only[QA,AE] at hv;rcases A1.1 hm with h' | h'
  .rw[h']
   exact Nf hn e (by omega) hv.1 _ (A5.BZ e)
  .exact Qu hn l (by omega) hv.2 t h'
end
mutual
theorem WU:∀(t:Ty),size t<2 ^ 37->WT t=true->∀(x:AV),A5 t x->AL (env R) 97 [x] λr=>A5 (qf t) r
 | .mk k nm i ts,h,hv,x,hx=>by
  have hx0:=hx;obtain⟨a,rfl,ha⟩:=hx;simp only[size] at h;have hln:=BP ts;have hma:=λh5:(k==5)=false=>Yk (R:=R) (op:=1) (n:=0) (g:=qf) (by omega) (λhk t ht=>.inr (.inl ⟨rfl,Tw ts (by omega) (Tv h5 hv hk) t ht⟩)) hx0
  suffices H:∀Post:AV->Prop,(∀r,A5 (qf (.mk k nm i ts)) r->Post r)->wZ R 0 0 0 (.agg [AA k,SS nm,AA i,a]) ⟨[],[]⟩ (QP Post) from
   e97 (u0:=.agg [AA k,SS nm,AA i,a]) (by simp[ha.close]) (H _ λr h=>h)
  intro Post hP;refine ARH (Bw (cs:=[AA k,SS nm,AA i,a]) rfl (by simp[ha.ok]) (Bt ?_));simp only[Cb,B8,Dh,CO,CQ];have g0:(AM.mk [[AA k,SS nm,AA i,a],Z4] []).bs[0]?=some [AA k,SS nm,AA i,a]:=rfl;have g1:(AM.mk [[AA k,SS nm,AA i,a],Z4] []).bs[1]?=some Z4:=rfl;refine AK (AP g0) (AU (off:=0) g0 rfl (Au ?_));cases h5:(k==5) with
  | true=>
   have:k=5:=by grind
   subst this;obtain⟨rfl,rfl,hi0,hi1⟩:=Rs hv;rw[qf,CM] at hP;refine A4 (AK (AP g0) (AU (off:=2) g0 rfl (JV (by omega) (by omega) (AD (JY (-1-i)) ?_))));rintro _ rfl;exact Gi g1 rfl (t:=var (-1-i)) (Rt _).G1 hP
  | false=>
   rw[qf,QB h5] at hP;refine Am (ARI (Ad g0 rfl (AD (hma h5) ?_)));intro r hr;obtain⟨rc,rfl⟩:=hr.G1.agg;exact Gi g1 rfl hr.G1 hP
theorem Tw:∀(l:List Ty),AZ l<2 ^ 37->QA l=true->∀t∈l,AL (env R) 97 [.agg ((Af t).map .pv)] λr=>A5 (qf t) r
 | [],_,_,_,h=>by cases h
 | e::l,h,hv,t,hm=>by
  simp only[AZ] at h;simp only[QA,AE] at hv;rcases A1.1 hm with h' | h'
  .rw[h']
   exact WU e (by omega) hv.1 _ (A5.BZ e)
  .exact Tw l (by omega) hv.2 t h'
end
mutual
theorem WV (n:Nat):∀(t:Ty),size t<2 ^ 37->WT t=true->∀(x:AV),A5 t x->AL (env R) 128 [x,AA n] λr=>A5 (JO n t) r
 | .mk k nm i ts,h,hv,x,hx=>by
  have hx0:=hx;obtain⟨a,rfl,ha⟩:=hx;simp only[size] at h;have hln:=BP ts;have hma:=λh5:(k==5)=false=>Yk (R:=R) (op:=2) (n:=n) (g:=JO n) (by omega) (λhk t ht=>.inr (.inr ⟨rfl,Tx n ts (by omega) (Tv h5 hv hk) t ht⟩)) hx0
  suffices H:∀Post:AV->Prop,(∀r,A5 (JO n (.mk k nm i ts)) r->Post r)->gU R 0 0 0 (.agg [AA k,SS nm,AA i,a]) (AA n) ⟨[],[]⟩ (QP Post) from
   AXh (u0:=.agg [AA k,SS nm,AA i,a]) (u1:=AA n) (by simp[ha.close]) (H _ λr h=>h)
  intro Post hP;refine ALt (Bw (cs:=[AA k,SS nm,AA i,a]) rfl (by simp[ha.ok]) (Bt ?_));simp only[Cb,B8,Dh,CO,CQ];have g0:(AM.mk [[AA k,SS nm,AA i,a],Z4] []).bs[0]?=some [AA k,SS nm,AA i,a]:=rfl;have g1:(AM.mk [[AA k,SS nm,AA i,a],Z4] []).bs[1]?=some Z4:=rfl;refine AK (AP g0) (AU (off:=0) g0 rfl (Au ?_));cases h5:(k==5) with
  | true=>
   have:k=5:=by grind
   subst this;obtain⟨rfl,rfl,hi0,hi1⟩:=Rs hv;rw[JO,CM] at hP;refine A4 (AK (AP g0) (AU (off:=2) g0 rfl (Au ?_)));cases hm1:(i==-1) with
   | true=>
    rw[hm1] at hP;refine A4 (AD (JY n) ?_);rintro _ rfl;exact Gi g1 rfl (t:=var n) (Rt _).G1 hP
   | false=>
    rw[hm1] at hP;refine Am (AK (AP g0) (AU (off:=2) g0 rfl (Ah ?_)))
    by_cases h0:i<0
    .rw[Ap h0] at hP ⊢
     refine A4 (AK (AP g0) (AU (off:=2) g0 rfl (BW (by omega) (by omega) (AD (JY (i+1)) ?_))));rintro _ rfl;exact Gi g1 rfl (t:=var (i+1)) (Rt _).G1 hP
    .rw[Aw h0] at hP ⊢
     exact Am (ALu (Ad g0 rfl (Gi g1 rfl (t:=var i) ⟨a,rfl,.inl ha⟩ hP)))
  | false=>
   rw[JO,QB h5] at hP;refine Am (ALv (Ad g0 rfl (AD (hma h5) ?_)));intro r hr;obtain⟨rc,rfl⟩:=hr.G1.agg;exact Gi g1 rfl hr.G1 hP
theorem Tx (n:Nat):∀(l:List Ty),AZ l<2 ^ 37->QA l=true->∀t∈l,AL (env R) 128 [.agg ((Af t).map .pv),AA n] λr=>A5 (JO n t) r
 | [],_,_,_,h=>by cases h
 | e::l,h,hv,t,hm=>by
  simp only[AZ] at h;simp only[QA,AE] at hv;rcases A1.1 hm with h' | h'
  .rw[h']
   exact WV n e (by omega) hv.1 _ (A5.BZ e)
  .exact Tx n l (by omega) hv.2 t h'
end
end
section
variable {R:RT}
theorem ADU {ts:List Ty} {a:AV} (ha:Aq a (AW ts)) (hl:ts.length<2 ^ 37) {n i:Int} {nm:List UInt8} {p:Int->Bool} (ih:∀t∈ts,AL (env R) 105 [.agg ((Af t).map .pv),AA n] λr=>r=BB (oA p t)) {s:AM} (g0:s.bs[0]?=some [AA 2,SS nm,AA i,a]) {Post:AV->Prop} (hP:Post (BB (VU p ts))) :
  ∀(j q:Nat),q+j=ts.length->VU p (ts.drop q)=VU p ts->Ym R 0 0 0 (AA n) (.ptr 0 0) (AA q) s (QP Post):=by
 intro j
 induction j with
 | zero=>
  intro q hi ho;refine gW (AK (AP g0) (AU (off:=0) g0 rfl (Au (Ao (Ao (AK (AP g0) (Ao (AU (off:=3) g0 rfl (Ao (Al (n:=ts.length) (by rw[ha.A7,AR]) (Ao (Ah (pk ?_)))))))))))));rw[Aw (by omega)];rw[Bu (by omega),VU] at ho;rw[<-ho] at hP;exact Am (we ⟨_,Fw,hP⟩)
 | succ j D2=>
  intro q hi ho;refine gW (AK (AP g0) (AU (off:=0) g0 rfl (Au (Ao (Ao (AK (AP g0) (Ao (AU (off:=3) g0 rfl (Ao (Al (n:=ts.length) (by rw[ha.A7,AR]) (Ao (Ah (pk ?_)))))))))))));rw[Ap (by omega)];obtain⟨t,ht⟩:∃t,ts[q]?=some t:=⟨_,Ak (by omega)⟩;rw[drop_cons ht,VU] at ho;refine A4 (ALw (AK (AP g0) (AU (off:=3) g0 rfl (BI ha (row:=Af t) (by omega) (by simp[*,BE]) (Ac t) (by omega) (Cg (AD (ih t (A2 ht)) ?_))))));rintro _ rfl;cases qa:oA p t with
  | true=>
   rw[qa] at ho;rw[<-ho] at hP;exact A4 ⟨_,Fw,hP⟩
  | false=>
   rw[qa] at ho;refine Am (ALx (BW (by omega) (by omega) ?_));have:=D2 (q+1) (by omega) (by simpa using ho);simpa using this
mutual
theorem lU (n:Int):∀(t:Ty),size t<2 ^ 37->∀(x:AV),A5 t x->AL (env R) 105 [x,AA n] λr=>r=BB (oA (·==n) t)
 | .mk k nm i ts,h,x,hx=>by
  obtain⟨a,rfl,ha⟩:=hx;simp only[size] at h;have hln:=BP ts
  suffices H:∀Post:AV->Prop,Post (BB (oA (·==n) (.mk k nm i ts)))->gY R 0 0 0 (.agg [AA k,SS nm,AA i,a]) (AA n) ⟨[],[]⟩ (QP Post) from
   AXi (u0:=.agg [AA k,SS nm,AA i,a]) (u1:=AA n) (by simp[ha.close]) (H _ rfl)
  intro Post hP;refine ALy (Bw (cs:=[AA k,SS nm,AA i,a]) rfl (by simp[ha.ok]) ?_);simp only[Cb,B8];have g0:(AM.mk [[AA k,SS nm,AA i,a]] []).bs[0]?=some [AA k,SS nm,AA i,a]:=rfl;refine AK (AP g0) (AU (off:=0) g0 rfl (Au ?_));rw[oA] at hP;cases h5:(k==5) with
  | true=>
   rw[h5] at hP;exact A4 (AK (AP g0) (AU (off:=2) g0 rfl (Au ⟨_,Fw,hP⟩)))
  | false=>
   rw[h5] at hP;refine Am (ALz ?_);cases h2:(k==2) with
   | true=>
    have:k=2:=by grind
    subst this;exact ADU (p:=(·==n)) ha (by omega) (cN n ts (by omega)) g0 hP ts.length 0 (by omega) rfl
   | false=>
    rw[h2] at hP;refine gW (AK (AP g0) (AU (off:=0) g0 rfl (Au ?_)));rw[h2];exact Bm (Bm (Bm (Bm (Bm (pk (Am (we ⟨_,Fw,hP⟩)))))))
theorem cN (n:Int):∀(l:List Ty),AZ l<2 ^ 37->∀t∈l,AL (env R) 105 [.agg ((Af t).map .pv),AA n] λr=>r=BB (oA (·==n) t)
 | [],_,_,h=>by cases h
 | e::l,h,t,hm=>by
  simp only[AZ] at h;rcases A1.1 hm with h' | h'
  .rw[h']
   exact lU n e (by omega) _ (A5.BZ e)
  .exact cN n l (by omega) t h'
end
theorem ADV {ts:List Ty} {a:AV} (ha:Aq a (AW ts)) (hl:ts.length<2 ^ 37) {n i:Int} {nm:List UInt8} {p:Int->Bool} (ih:∀t∈ts,AL (env R) 66 [.agg ((Af t).map .pv),AA n] λr=>r=BB (oI p t)) {s:AM} (g0:s.bs[0]?=some [AA 3,SS nm,AA i,a]) {Post:AV->Prop} (hP:Post (BB (Ph p ts))) :
  ∀(j q:Nat),q+j=ts.length->Ph p (ts.drop q)=Ph p ts->lW R 0 0 0 (AA n) (.ptr 0 0) (AA q) s (QP Post):=by
 intro j
 induction j with
 | zero=>
  intro q hi ho;refine wh (AK (AP g0) (AU (off:=0) g0 rfl (Au (Ao (Ao (AK (AP g0) (Ao (AU (off:=3) g0 rfl (Ao (Al (n:=ts.length) (by rw[ha.A7,AR]) (Ao (Ah (pk ?_)))))))))))));rw[Aw (by omega)];rw[Bu (by omega),Ph] at ho;rw[<-ho] at hP;exact Am (AFP ⟨_,Fw,hP⟩)
 | succ j D2=>
  intro q hi ho;refine wh (AK (AP g0) (AU (off:=0) g0 rfl (Au (Ao (Ao (AK (AP g0) (Ao (AU (off:=3) g0 rfl (Ao (Al (n:=ts.length) (by rw[ha.A7,AR]) (Ao (Ah (pk ?_)))))))))))));rw[Ap (by omega)];obtain⟨t,ht⟩:∃t,ts[q]?=some t:=⟨_,Ak (by omega)⟩;rw[drop_cons ht,Ph] at ho;refine A4 (ARJ (AK (AP g0) (AU (off:=3) g0 rfl (BI ha (row:=Af t) (by omega) (by simp[*,BE]) (Ac t) (by omega) (Cg (AD (ih t (A2 ht)) ?_))))));rintro _ rfl;cases qa:oI p t with
  | true=>
   rw[qa] at ho;rw[<-ho] at hP;exact A4 ⟨_,Fw,hP⟩
  | false=>
   rw[qa] at ho;refine Am (ARK (BW (by omega) (by omega) ?_));have:=D2 (q+1) (by omega) (by simpa using ho);simpa using this
mutual
theorem lX (n:Int):∀(t:Ty),size t<2 ^ 37->∀(x:AV),A5 t x->AL (env R) 66 [x,AA n] λr=>r=BB (oI (·==n) t)
 | .mk k nm i ts,h,x,hx=>by
  have hoA:=lU (R:=R) n (.mk k nm i ts) h x hx;obtain⟨a,rfl,ha⟩:=hx;simp only[size] at h;have hln:=BP ts
  suffices H:∀Post:AV->Prop,Post (BB (oI (·==n) (.mk k nm i ts)))->wj R 0 0 0 (.agg [AA k,SS nm,AA i,a]) (AA n) ⟨[],[]⟩ (QP Post) from
   e66 (u0:=.agg [AA k,SS nm,AA i,a]) (u1:=AA n) (by simp[ha.close]) (H _ rfl)
  intro Post hP;refine ARL (Bw (cs:=[AA k,SS nm,AA i,a]) rfl (by simp[ha.ok]) ?_);simp only[Cb,B8];have g0:(AM.mk [[AA k,SS nm,AA i,a]] []).bs[0]?=some [AA k,SS nm,AA i,a]:=rfl;refine AK (AP g0) (AU (off:=0) g0 rfl (Au ?_));rw[oI] at hP;cases h2:(k==2) with
  | true=>
   rw[h2] at hP;refine A4 (Ad g0 rfl (AD hoA ?_));rintro _ rfl;exact⟨_,Fw,hP⟩
  | false=>
   rw[h2] at hP;refine Am (ARM ?_);cases h3:(k==3) with
   | true=>
    have:k=3:=by grind
    subst this;exact ADV (p:=(·==n)) ha (by omega) (cO n ts (by omega)) g0 hP ts.length 0 (by omega) rfl
   | false=>
    rw[h3] at hP;refine wh (AK (AP g0) (AU (off:=0) g0 rfl (Au ?_)));rw[h3];exact Bm (Bm (Bm (Bm (Bm (pk (Am (AFP ⟨_,Fw,hP⟩)))))))
theorem cO (n:Int):∀(l:List Ty),AZ l<2 ^ 37->∀t∈l,AL (env R) 66 [.agg ((Af t).map .pv),AA n] λr=>r=BB (oI (·==n) t)
 | [],_,_,h=>by cases h
 | e::l,h,t,hm=>by
  simp only[AZ] at h;rcases A1.1 hm with h' | h'
  .rw[h']
   exact lX n e (by omega) _ (A5.BZ e)
  .exact cO n l (by omega) t h'
end
theorem oy {L:A8} {s:AM} {a y:AV} {l m:List Int} {K:AV->AM->Prop} (ha:Dg 0 s.ts 3 a (AX l)) (EU:L.rt=0) (hl:l.length+m.length<2 ^ 40) (hy:BF y (AX m)) (h:∀a' ts',Dg 0 ts' 3 a' (AX (l++m))->Ca a a' s.ts ts'->K a' ⟨s.bs,ts'⟩) :
  Ct false L s 3 1 8 a y K:=by
 have h1:=BV l;have h2:=BV m;refine Pz (m:=AX m) ha EU DR DR (by omega) (Db hy DR) ?_ (by omega) (by omega) λa' ts' h3 h4=>h a' ts' (by grind[AX]) h4
 rw[Cz];intro c hc;obtain⟨p,hp,rfl⟩:=C0.1 hc;obtain⟨r,hr,hpr⟩:=XB.1 hp;simp only[AX,C0] at hr;obtain⟨n,_,rfl⟩:=hr
 simp_all
theorem ADW {ts:List Ty} {a:AV} (ha:Aq a (AW ts)) (hl:AZ ts<2 ^ 37) {i:Int} {nm:List UInt8} (ih:∀t∈ts,AL (env R) 76 [.agg ((Af t).map .pv)] λr=>Aq r (AX (Ai t))) {bs:List (List AV)} (g0:bs[0]?=some [AA 3,SS nm,AA i,a]) {Post:AV->Prop} (hP:∀r,Aq r (AX (Bp ts))->Post r) :
  ∀(j q:Nat) (tk:List (Nat×Nat)) (b:AV) (l:List Int),q+j=ts.length->l++Bp (ts.drop q)=Bp ts->Dg 0 tk 3 b (AX l)->lY R 0 0 0 (.ptr 0 0) b (AA q) ⟨bs,tk⟩ (QP Post):=by
 have hln:=BP ts;have Be:=NY ts;intro j
 induction j with
 | zero=>
  intro q tk b l hi ho hb;refine wk (AK (AP g0) (AU (off:=0) g0 rfl (Au (Ao (Ao (AK (AP g0) (Ao (AU (off:=3) g0 rfl (Ao (Al (n:=ts.length) (by rw[ha.A7,AR]) (Ao (Ah (pk ?_)))))))))))));rw[Aw (by omega)];rw[Bu (by omega),Bp,Gd] at ho;subst ho;obtain⟨r,c1,c2⟩:=NV hb bs 0;exact Am (AFQ ⟨r,c1,hP r c2⟩)
 | succ j D2=>
  intro q tk b l hi ho hb;refine wk (AK (AP g0) (AU (off:=0) g0 rfl (Au (Ao (Ao (AK (AP g0) (Ao (AU (off:=3) g0 rfl (Ao (Al (n:=ts.length) (by rw[ha.A7,AR]) (Ao (Ah (pk ?_)))))))))))));rw[Ap (by omega)];obtain⟨t,ht⟩:∃t,ts[q]?=some t:=⟨_,Ak (by omega)⟩;rw[drop_cons ht,Bp,<-Di] at ho;have hlen:(l++Ai t).length<=(Bp ts).length:=by grind
  rw[Bo] at hlen;refine A4 (ARN (AK (AP g0) (AU (off:=3) g0 rfl (BI ha (row:=Af t) (by omega) (by grind[BE]) (Ac t) (by omega) (Cg (AD (ih t (A2 ht)) ?_))))));intro v hv;refine⟨by decide,oy hb rfl (by omega) (.inl hv) λb' HN hb' _=>ARO (BW (by omega) (by omega) ?_)⟩
  grind
mutual
theorem QC:∀(t:Ty),size t<2 ^ 37->∀(x:AV),A5 t x->AL (env R) 76 [x] λr=>Aq r (AX (Ai t))
 | .mk k nm i ts,h,x,hx=>by
  obtain⟨a,rfl,ha⟩:=hx;simp only[size] at h;have hln:=BP ts
  suffices H:∀Post:AV->Prop,(∀r,Aq r (AX (Ai (.mk k nm i ts)))->Post r)->wm R 0 0 0 (.agg [AA k,SS nm,AA i,a]) ⟨[],[]⟩ (QP Post) from
   e76 (u0:=.agg [AA k,SS nm,AA i,a]) (by simp[ha.close]) (H _ λr h=>h)
  intro Post hP;refine ARP (Bw (cs:=[AA k,SS nm,AA i,a]) rfl (by simp[ha.ok]) ?_);simp only[Cb,B8];have g0:(AM.mk [[AA k,SS nm,AA i,a]] []).bs[0]?=some [AA k,SS nm,AA i,a]:=rfl;refine AK (AP g0) (AU (off:=0) g0 rfl (Au ?_));rw[Ai] at hP;cases h5:(k==5) with
  | true=>
   rw[h5] at hP;refine A4 (AK (AP g0) (AU (off:=2) g0 rfl (Ou ?_)));exact⟨_,(Aq.AB _).close _ _ _,hP _ (by grind[AX,Aq.AB])⟩
  | false=>
   rw[h5] at hP;refine Am (ARQ ?_);cases h3:(k==3) with
   | true=>
    have:k=3:=by grind
    subst this;exact ADW ha (by omega) (Tz ts (by omega)) g0 hP ts.length 0 [] (.AB []) [] (by omega) rfl (.inl rfl)
   | false=>
    rw[h3] at hP;refine wk (AK (AP g0) (AU (off:=0) g0 rfl (Au ?_)));rw[h3];exact Bm (Bm (Bm (Bm (Bm (pk (Am (AFQ ⟨_,(Aq.AB _).close _ _ _,hP _ (.AB _)⟩)))))))
theorem Tz:∀(l:List Ty),AZ l<2 ^ 37->∀t∈l,AL (env R) 76 [.agg ((Af t).map .pv)] λr=>Aq r (AX (Ai t))
 | [],_,_,h=>by cases h
 | e::l,h,t,hm=>by
  simp only[AZ] at h;rcases A1.1 hm with h' | h'
  .rw[h']
   exact QC e (by omega) _ (A5.BZ e)
  .exact Tz l (by omega) t h'
end
def WW (b:Ty):Int:=match GI b with
 | some k=>k
 | none=>-1
theorem ADX {l:List Int} {y:AV} (hy:Aq y (AX l)) (hl:l.length<2 ^ 40) {s:AM} {Post:AV->Prop} (hP:Post (AA (match l.findIdx? (·==hole) with
   | some k=>k
   | none=>-1))):∀(j q:Nat),q+j=l.length->(∀x∈l.take q,(x==hole)=false)->Yn R 0 0 0 y (AA q) s (QP Post):=by
 intro j
 induction j with
 | zero=>
  intro q hi ho;refine wo (Al (n:=l.length) (by rw[hy.A7,BV]) (Ah ?_));rw[Aw (by omega)];rw[CA (by omega)] at ho;have:l.findIdx? (·==hole)=none:=by grind
  rw[this] at hP;exact Am (AL0 ⟨_,Fw,hP⟩)
 | succ j D2=>
  intro q hi ho;refine wo (Al (n:=l.length) (by rw[hy.A7,BV]) (Ah ?_));rw[Ap (by omega)];obtain⟨c,hc⟩:∃t,l[q]?=some t:=⟨_,Ak (by omega)⟩;refine A4 (AL1 (BI hy (row:=[.sc (.int .i64 c)]) (by omega) (by simp[*,AX]) rfl (by omega) (Ej (Au ?_))));cases hh:(c==hole) with
  | true=>
   have e1:(c==1073741824)=true:=hh;rw[e1]
   have:l.findIdx? (·==hole)=some q:=by
    obtain⟨hlt,hge⟩:=BL.1 hc;rw[jK];refine⟨hlt,by grind,λj hj=>?_⟩;have:=ho l[j] (MI.2 ⟨j,by grind,by rw[List.getElem_take]⟩)
    grind
   rw[this] at hP;exact A4 ⟨_,Fw,hP⟩
  | false=>
   have e1:(c==1073741824)=false:=hh;rw[e1];refine Am (AL2 (BW (by omega) (by omega) ?_));have:=D2 (q+1) (by omega) (λx hx=>by grind[List.take_add_one])
   grind
theorem JZ {b:Br} (h:size b.body<2 ^ 37) {x:AV} (hx:CP b x):AL (env R) 129 [x] λr=>r=AA (WW b.body):=by
 obtain⟨x',h1,h2,h3⟩:=hx.closed;refine AL.open (args':=[x']) (by rfl) (by rfl) rfl h1 h2 ?_;obtain⟨a,y,rfl,ha,hy⟩:=h3;obtain⟨h4,hok,hid,Be⟩:=hy.cells;refine AXj (u0:=.agg (a::y)) (by omega) (AL3 ?_);refine Bw (cs:=a::y) rfl (by simp[ha.ok]; grind) (AK (AP (c:=a) (cs:=y) rfl) ?_)
 show D6 _ _ _ (.ptr 0 1) _
 refine YN rfl h4 (AD (QC b.body h _ hy) ?_);intro v hv;have:=Gu b.body;exact ADX (Post:=λr=>r=AA (WW b.body)) hv (by omega) (by rw[WW,GI]) (Ai b.body).length 0 (by omega) (λx hx=>by grind)
end
mutual
def oz (b:Ty):Ty->Int->Ty
 | .mk c n i ts,k=>bif c==5 then(bif k==0 then b else .mk c n i ts) else bif c==3 then .mk c n i (QD b ts k) else .mk c n i ts
def QD (b:Ty):List Ty->Int->List Ty
 | [],_=>[]
 | t::l,k=>oz b t k::QD b l (k-(Ai t).length)
end
mutual
theorem lZ (b:Ty):∀(t:Ty) (k:Int),k<0\/((Ai t).length:Int)<=k->oz b t k=t
 | .mk c n i ts,k,h=>by
  rw[Ai] at h;rw[oz];cases h5:c==5 with
  | true=>
   grind
  | false=>
   cases h3:c==3 with
   | true=>
    rw[h5,h3] at h;simp only[AN,AG] at h ⊢;rw[T2 b ts k h]
   | false=>rfl
theorem T2 (b:Ty):∀(l:List Ty) (k:Int),k<0\/((Bp l).length:Int)<=k->QD b l k=l
 | [],_,_=>rfl
 | t::l,k,h=>by
  rw[Bp,Bo] at h;rw[QD,lZ b t k (by omega),T2 b l (k-(Ai t).length) (by omega)]
end
mutual
theorem wq (b:Ty):∀(t:Ty) (k:Nat),k<(Ai t).length->oz b t k=Pj b t k
 | .mk c n i ts,k,h=>by
  rw[Ai] at h;rw[oz,Pj];cases h5:c==5 with
  | true=>
   grind
  | false=>
   cases hc:c==3 with
   | true=>
    rw[h5,hc] at h;simp only[AN,AG] at h ⊢;rw[ld b ts k h]
   | false=>rfl
theorem ld (b:Ty):∀(l:List Ty) (k:Nat),k<(Bp l).length->QD b l k=KW b l k
 | [],_,h=>by rfl
 | t::l,k,h=>by
  rw[Bp,Bo] at h;rw[QD,KW]
  by_cases hk:k<(Ai t).length
  .rw[Ap hk,AN,wq b t k hk,T2 b l _ (by omega)]
  .have:(k:Int)-((Ai t).length:Nat)=((k-(Ai t).length:Nat):Int):=by omega
   rw[Aw hk,AG,lZ b t k (by omega),this,ld b l (k-(Ai t).length) (by omega)]
end
section
variable {R:RT}
def wu (R:RT) (C:Nat) (b:Ty) (y:AV) (x:AV) (t:Ty) (k:Int) (s:AM):Prop:=∀(L:A8),L.ro=0->L.rt=0->s.bs[C]?=some [AA k] ->
 ∃w s',(∃ts' ds,w=.agg ds/\BJ (oz b t k) (.agg ds)/\Ca (.AB []) (.AB []) s.ts ts'/\s'=⟨s.bs.set C [AA (k-(Ai t).length)],ts'⟩)/\BD (env R) L 111 [x,.ptr C 0,y] s w s'
theorem ADY {C:Nat} {b:Ty} {yc:List AV} {ts:List Ty} {a:AV} (ha:BF a (AW ts)) (hl:AZ ts<2 ^ 38) {k i k0:Int} {n:List UInt8} (US:-(2 ^ 40)-2 ^ 38<=k0-AZ ts) (hk2:k0<2 ^ 40) {s0:AM} (hs0:BM s0) (hC:C<s0.bs.length) (hyl:yc.length=4)
  (ih:∀t∈ts,∀(k:Int) (s:AM),BM s->-(2 ^ 40)-2 ^ 38<=k-size t->k<2 ^ 40->wu R C b (.agg yc) (.agg ((Af t).map .pv)) t k s)
  {rr:Bool} {Post:AV->AM->Prop}
  (hP:∀ts' ds,Ca (.AB []) (.AB []) s0.ts ts'->BJ (.mk k n i (QD b ts k0)) (.agg ds)->Post (.agg ds) ⟨s0.bs.set C [AA (k0-(Bp ts).length)],ts'⟩) :
  ∀(j q:Nat) (kc:Int) (done:List Ty) (bs:List (List AV)) (tk:List (Nat×Nat)) (acc:AV),q+j=ts.length->done++QD b (ts.drop q) kc=QD b ts k0->done.length=q->kc-(Bp (ts.drop q)).length=k0-(Bp ts).length->k0-AZ ts<=kc-AZ (ts.drop q)->kc<2 ^ 40 ->
   BM ⟨bs,tk⟩->bs.take s0.bs.length=s0.bs.set C [AA kc]->bs[s0.bs.length]?=some [AA k,SS n,AA i,a]->bs[s0.bs.length+1]?=some yc->bs[s0.bs.length+2]?=some Z4->bs[s0.bs.length+3]?=some [AA k,SS n,AA i,acc] ->
   Dg 0 tk 25 acc (AW done)->Ca (.AB []) (.AB []) s0.ts tk->DL acc s0.ts ->
   T3 R 0 0 0 (.ptr C 0) (.ptr s0.bs.length 0) (.ptr (s0.bs.length+1) 0) (.ptr (s0.bs.length+2) 0) (.ptr (s0.bs.length+3) 0) (AA q) ⟨bs,tk⟩ (QM rr s0.bs.length Post):=by
 have UT:=BP ts;intro j
 induction j with
 | zero=>
  intro q kc done bs tk acc hi hd hdl hk hks Lb hs hT h0 h1 h2 h3 hb hch hfr;refine wz (AK (AP h0) (AU (off:=3) h0 rfl (Al (n:=ts.length) (by rw[ha.A7,AR]) (Ah ?_))));rw[Aw (by omega)];rw[Bu (by omega),QD,Gd] at hd;rw[Bu (by omega),Bp] at hk;rw[hd] at hb;refine Am (AL4 (Ad h3 rfl (CL h2 rfl rfl (by decide) (AI _) (by simp[hb.Ax.ok]) (.inl (AI _)) (Ad (Bf h2) rfl ?_))));obtain⟨ds,c1,c2⟩:=BJ.I0 (v:=.mk k n i (QD b ts k0)) (cs:=[AA k,SS n,AA i,acc]) ⟨acc,rfl,hb.Ax⟩ (bs.set (s0.bs.length+2) [AA k,SS n,AA i,acc]) s0.bs.length tk.length;have hkc:kc=k0-(Bp ts).length:=by grind
  rw[hkc] at hT;exact bF hs0 ((C6 (by omega)).trans hT) rfl c1 (hP tk ds hch c2)
 | succ j D2=>
  intro q kc done bs tk acc hi hd hdl hk hks Lb hs hT h0 h1 h2 h3 hb hch hfr;refine wz (AK (AP h0) (AU (off:=3) h0 rfl (Al (n:=ts.length) (by rw[ha.A7,AR]) (Ah ?_))));rw[Ap (by omega)];obtain⟨t,ht⟩:∃t,ts[q]?=some t:=⟨_,Ak (by omega)⟩;have V2:=A2 ht;have oM:=ih t V2;have hdr:ts.drop q=t::ts.drop (q+1):=drop_cons ht;rw[hdr,QD] at hd;rw[hdr,Bp,Bo] at hk;rw[hdr,AZ] at hks;have hcs:=Gu t;have l3:=(BL.1 h3).1;have gC:(s0.bs.set C [AA kc])[C]?=some [AA kc]:=by rw[CS hC]
  refine A4 (AL5 (AK (AP h3) (AU (off:=3) h3 rfl (AK (AP h0) (AU (off:=3) h0 rfl (BQ ha (row:=Af t) (by omega) (by grind[BE]) (Ac _) (by omega) (Cg (Ad h1 hyl ?_))))))));obtain⟨w,s',⟨ts',ds,rfl,r4,r2,rfl⟩,r6⟩:=oM kc ⟨bs,tk⟩ hs (by omega) Lb (Cv (env R) 111 0 0 0) rfl rfl (B5 hT gC);have h0':(bs.set C [AA (kc-(Ai t).length)])[s0.bs.length]?=some [AA k,SS n,AA i,a]:=BR h0 (by omega);have ZD:(bs.set C [AA (kc-(Ai t).length)])[s0.bs.length+1]?=some yc:=BR h1 (by omega);have h2':(bs.set C [AA (kc-(Ai t).length)])[s0.bs.length+2]?=some Z4:=BR h2 (by omega);have h3':(bs.set C [AA (kc-(Ai t).length)])[s0.bs.length+3]?=some [AA k,SS n,AA i,acc]:=BR h3 (by omega);refine⟨_,_,r6,FO r4 ⟨by decide,Iz (r2.keep hb (λ_ h=>by cases h)) rfl (by omega) ?_⟩⟩;intro b' HN hb' KQ;refine AK (AP h3') (DD h3' (by simp) hb'.Ax.cells (AI _) hb'.Ax.ok (.inl (AI _)) ?_);refine⟨AK (AP h3') (EO _ _),AU (off:=3) h3' rfl (HF hb),AL6 (BW (by omega) (by omega) ?_)⟩;have oO:((bs.set C [AA (kc-(Ai t).length)]).set (s0.bs.length+3) [AA k,SS n,AA i,b']).take s0.bs.length=s0.bs.set C [AA (kc-(Ai t).length)]:=by simp[*,C6,EE]
  have hs2:BM ⟨bs.set C [AA (kc-(Ai t).length)],ts'⟩:=BM.set (s:=⟨bs,tk⟩) hs rfl _
  have fin:=D2 (q+1) (kc-(Ai t).length) (done++[oz b t kc]) _ HN b' (by omega) (by simp[*]) (by grind) (by omega) (by omega) (by omega)
   (BM.set (s:=⟨bs.set C [AA (kc-(Ai t).length)],ts'⟩) hs2 (by simp[Ab,Ar,hb'.Ax.Ar]) _) oO (BR h0' (by omega)) (BR ZD (by omega)) (BR h2' (by omega)) (Bf h3')
   hb' ((hch.trans r2).side KQ hfr) (hfr.Ow KQ (Bq hch.1 r2.1))
  grind
mutual
theorem lg {C:Nat} {b:Ty} {y:AV} (hy:A5 b y):∀(t:Ty),size t<2 ^ 38->∀(x:AV),BJ t x->∀(k:Int) (s:AM),BM s->-(2 ^ 40)-2 ^ 38<=k-size t->k<2 ^ 40->wu R C b y x t k s
 | .mk k n i ts,h,x,hx,kc,s,hs,US,hk2,L,hro,EU,hC=>by
  have lC:=(BL.1 hC).1;have UT:=BP ts;simp only[size] at h US;obtain⟨yc,rfl⟩:=hy.G1.agg;have hy':=hy;obtain⟨vH,hyo,hyi,_⟩:=hy'.cells;have hxi:=hx;obtain⟨a,rfl,ha⟩:=hx;refine AXk (by simp[Bi,F1]) ?_;rw[hro,EU];have same:s.bs.set C [AA kc]=s.bs:=by grind[List.set_getElem_self]
  refine AL7 (Bw (cs:=[AA k,SS n,AA i,a]) rfl (by simp[ha.ok]) (Bw (cs:=yc) rfl hyo (Bt ?_)));simp only[Di,Dh,Cb,Bo,CO,B8,CQ,Nat.reduceAdd];have g0:(s.bs++[[AA k,SS n,AA i,a],yc,Z4])[s.bs.length]?=some [AA k,SS n,AA i,a]:=EX (j:=0) rfl rfl;have g1:(s.bs++[[AA k,SS n,AA i,a],yc,Z4])[s.bs.length+1]?=some yc:=EX rfl rfl;have g2:(s.bs++[[AA k,SS n,AA i,a],yc,Z4])[s.bs.length+2]?=some Z4:=EX rfl rfl;have hT:(s.bs++[[AA k,SS n,AA i,a],yc,Z4]).take s.bs.length=s.bs.set C [AA kc]:=by grind
  have hok:BM ⟨s.bs++[[AA k,SS n,AA i,a],yc,Z4],s.ts⟩:=by
   intro d hd;simp only[CG,A1,Ed,Ee] at hd
   show Ab (s.bs++_).length d=true
   rcases hd with hd|rfl|rfl|rfl
   .exact Bn (by simp) d (hs d hd)
   .simp[Ab,Ar,ha.Ar]
   .exact Bn (AI _) _ hyi
   rfl
  have hl:(s.bs++[[AA k,SS n,AA i,a],yc,Z4]).length=s.bs.length+3:=by simp
  generalize s.bs++[[AA k,SS n,AA i,a],yc,Z4]=bs at g0 g1 g2 hT hok hl;have gC:bs[C]?=some [AA kc]:=B5 hT (by grind)
  have back:∀(kd:Int) (bs:List (List AV)) (Post:AV->AM->Prop),bs.take s.bs.length=s.bs.set C [AA kd]->bs[s.bs.length]?=some [AA k,SS n,AA i,a]->bs[s.bs.length+2]?=some Z4 ->
    (∀ds,BJ (.mk k n i ts) (.agg ds)->Post (.agg ds) ⟨s.bs.set C [AA kd],s.ts⟩)->D6 (env R) ⟨bs,s.ts⟩ (some 4) (.ptr s.bs.length 0) λa26=>CJ (Cv (env R) 111 0 0 0) ⟨bs,s.ts⟩ 4 (.ptr (s.bs.length+2) 0) a26 λcP=>D6 (env R) cP (some 4) (.ptr (s.bs.length+2) 0) λr=>QM (L.rr 111) s.bs.length Post r cP:=by
   intro kd bs Post hT g0 g2 hP;refine Ad g0 rfl (CL g2 rfl rfl (by decide) (AI _) (by simp[ha.ok]) (.inl (AI _)) (Ad (Bf g2) rfl ?_));exact TU hs ((C6 (by omega)).trans hT) rfl (t:=.mk k n i ts) ⟨a,rfl,ha⟩ hP
  refine AK (AP g0) (AU (off:=0) g0 rfl (Au ?_));cases h5:k==5 with
  | true=>
   have vN:oz b (.mk k n i ts) kc=bif kc==0 then b else .mk k n i ts:=by grind[oz]
   have vO:(Ai (.mk k n i ts)).length=1:=by grind[Ai]
   rw[vN,vO];refine A4 (Cy (AP gC) (AU (off:=0) gC rfl (JV (by omega) (by omega) (Cy (AP gC) (DD gC (by simp) rfl (AI _) rfl (.inl (AI _)) ?_)))));have gC':(bs.set C [AA (kc-1)])[C]?=some [AA (kc-1)]:=by rw[CS (by omega)]
   have fY:(bs.set C [AA (kc-1)]).take s.bs.length=s.bs.set C [AA (kc-1)]:=by simp[*,EE]
   refine Cy (AP gC') (AU (off:=0) gC' rfl (Au ?_));have e0:(kc-1==-1)=(kc==0):=by grind
   rw[e0];cases qY:kc==0 with
   | true=>
    simp only[AN];refine A4 (Ad (BR g1 (by omega)) vH (CL (BR g2 (by omega)) vH rfl (by decide) (AI _) hyo (.inl (AI _)) (Ad (Bf (BR g2 (by omega))) vH ?_)));refine TU hs ((C6 (by omega)).trans fY) rfl hy'.G1 λds hds=>⟨s.ts,ds,rfl,hds,Ca.refl _ _,rfl⟩
   | false=>
    simp only[AG];exact Am (AL8 (back (kc-1) _ _ fY (BR g0 (by omega)) (BR g2 (by omega)) λds hds=>⟨s.ts,ds,rfl,hds,Ca.refl _ _,rfl⟩))
  | false=>
   refine Am (AL9 (AK (AP g0) (AU (off:=0) g0 rfl (FE ?_))));cases h3:k==3 with
   | false=>
    have hne:(k != 3)=true:=by grind
    rw[hne];have vN:oz b (.mk k n i ts) kc=.mk k n i ts:=by grind[oz]
    have vO:(Ai (.mk k n i ts)).length=0:=by grind[Ai]
    rw[vN,vO];exact A4 (back kc bs _ hT g0 g2 λds hds=>⟨s.ts,ds,rfl,hds,Ca.refl _ _,by simp⟩)
   | true=>
    have hne:(k != 3)=false:=by grind
    rw[hne];have vN:oz b (.mk k n i ts) kc=.mk k n i (QD b ts kc):=by grind[oz]
    have vO:Ai (.mk k n i ts)=Bp ts:=by grind[Ai]
    rw[vN,vO];refine Am (AMA (Ad g0 rfl (Bt ?_)));simp only[hl];have gl:(bs++[Z4])[s.bs.length+3]?=some Z4:=by grind
    refine CL gl rfl rfl (by decide) (AI _) (by simp[ha.ok]) (.inl (AI _)) ?_;have gl2:((bs++[Z4]).set (s.bs.length+3) [AA k,SS n,AA i,a])[s.bs.length+3]?=some [AA k,SS n,AA i,a]:=Bf gl;refine AK (AP gl2) (DD (off:=3) gl2 (Aa 4) rfl (AI _) rfl (.inl (AI _)) ?_);have eb:((bs++[Z4]).set (s.bs.length+3) [AA k,SS n,AA i,a]).set (s.bs.length+3) ([AA k,SS n,AA i,a].set 3 (.AB []))=bs++[[AA k,SS n,AA i,.AB []]]:=by grind
    show T3 R 0 0 0 _ _ _ _ _ _ ⟨((bs++[Z4]).set (s.bs.length+3) [AA k,SS n,AA i,a]).set (s.bs.length+3) ([AA k,SS n,AA i,a].set 3 (.AB [])),s.ts⟩ _
    rw[eb]
    exact ADY (C:=C) (yc:=yc) ha (by omega) (k0:=kc) (by omega) hk2 hs lC vH (λt hm k s hs h1 h2=>cQ hy' ts (by omega) t hm k s hs h1 h2) (λts' ds h1 h2=>⟨ts',ds,rfl,h2,h1,rfl⟩) ts.length 0 kc [] _ s.ts (.AB []) (by omega) (by simp) rfl (by simp) (by simp) hk2
     (BM.app (s:=⟨bs,s.ts⟩) hok (by rfl)) ((Dy (by omega) _).trans hT) (Av g0 _) (Av g1 _) (Av g2 _) (by grind) (.inl rfl) (Ca.refl _ _) (DL.AB _ _)
theorem cQ {C:Nat} {b:Ty} {y:AV} (hy:A5 b y):∀(ts:List Ty),AZ ts<2 ^ 38->∀t∈ts,∀(k:Int) (s:AM),BM s->-(2 ^ 40)-2 ^ 38<=k-size t->k<2 ^ 40->wu R C b y (.agg ((Af t).map .pv)) t k s
 | [],_,_,h=>by cases h
 | u::l,h,t,hm=>by
  simp only[AZ] at h;rcases A1.1 hm with h' | h'
  .rw[h']
   exact lg hy u (by omega) _ (A5.BZ _).G1
  .exact cQ hy l (by omega) t h'
end
end
theorem MD {t:Ty} {cs:List AV} (h:BJ t (.agg cs)):Tel.Bg (.agg cs) (.agg cs)=true:=by
 obtain⟨k,n,i,ts⟩:=t;obtain⟨a,he,ha⟩:=h
 grind[BF.Bg,Tel.Bg,Hx,Mm,FX,Ht]
theorem w6 {a:AV} {ds:List AV} {t:Ty} (ha:A9 a=true) (hc:cellsOf a=[a]) (h:BJ t (.agg ds)):FJ Z5 [(0,1,a),(1,4,.agg ds)]=some (a::ds):=by
 obtain⟨c1,c2,_⟩:=h.cells
 match ds,c1,c2 with
 | [d1,d2,d3,d4],_,c2=>
  simp[*]
theorem Ng {E:Env} {s:AM} {id:Nat} {a:AV} {cs:List AV} {K:AV->Prop} (hb:s.bs[id]?=some (a::cs)) (hk:cs.length=4) (h:K (.agg cs)):D6 E s (some 4) (.ptr id (0+1)) K:=YN hb hk h
section
variable {R:RT}
theorem cR {n:Nat} (hn:n<2 ^ 60) {t:Ty} (h:size t<2 ^ 37) (hv:WT t=true) {x:AV} (hx:BJ t x):AL (env R) 112 [x,AA n] λr=>A5 (H8 n t) r:=by
 obtain⟨x',h1,h2⟩:=hx.closed [] 0;exact AL.open (args':=[x',AA n]) (by rfl) (by rfl) rfl (by simp[*]) (by simp[AY,h2.Hv,Tel.close]) (Nf hn t h hv x' h2)
theorem gZ {t:Ty} (h:size t<2 ^ 37) (hv:WT t=true) {x:AV} (hx:BJ t x):AL (env R) 97 [x] λr=>A5 (qf t) r:=by
 obtain⟨x',h1,h2⟩:=hx.closed [] 0;exact AL.open (args':=[x']) (by rfl) (by rfl) rfl (by simp[*]) (by simp[AY,h2.Hv]) (WU t h hv x' h2)
theorem gh (n:Nat) {t:Ty} (h:size t<2 ^ 37) (hv:WT t=true) {x:AV} (hx:BJ t x):AL (env R) 128 [x,AA n] λr=>A5 (JO n t) r:=by
 obtain⟨x',h1,h2⟩:=hx.closed [] 0;exact AL.open (args':=[x',AA n]) (by rfl) (by rfl) rfl (by simp[*]) (by simp[AY,h2.Hv,Tel.close]) (WV n t h hv x' h2)
theorem LF (n m:Int) {t:Ty} (h:size t<2 ^ 37) (hv:WT t=true) {x:AV} (hx:BJ t x):AL (env R) 82 [x,AA n,AA m] λr=>A5 (KV n m t) r:=by
 obtain⟨x',h1,h2⟩:=hx.closed [] 0;exact AL.open (args':=[x',AA n,AA m]) (by rfl) (by rfl) rfl (by simp[*]) (by simp[AY,h2.Hv,Tel.close]) (Qt n m t h hv x' h2)
theorem w7 (n:Int) {t:Ty} (h:size t<2 ^ 37) {x:AV} (hx:BJ t x):AL (env R) 66 [x,AA n] λr=>r=BB (oI (·==n) t):=by
 obtain⟨x',h1,h2⟩:=hx.closed [] 0;exact AL.open (args':=[x',AA n]) (by rfl) (by rfl) rfl (by simp[*]) (by simp[AY,h2.Hv,Tel.close]) (lX n t h x' h2)
theorem ADZ {s:AM} {K:AV->AM->Prop} (hK:K (.AB []) s):CV false s 4 [(AA 0),(SS []),(AA 0),(.AB [])] 0 [] K:=by
 simpa[CV,FY,CB] using hK
theorem lq {b c:Br} {k:Nat} (hk:k<(Ai b.body).length) (oC:size b.body<2 ^ 37) (hsc:size c.body<2 ^ 37) (hvc:WT c.body=true) (Rb:b.bounds.length+c.bounds.length<2 ^ 38) {x y:AV} (hx:CP b x) (hy:CP c y) {s:AM} (hs:BM s) {QR:QT}
  (hQ:∀row bs ts',CP (Dm b k c) (.agg row)->BM ⟨bs,ts'⟩->bs.take s.bs.length=s.bs->s.bs.length<=bs.length->Ca (.AB []) (.AB []) s.ts ts'->QR (.agg row) ⟨bs,ts'⟩):lu R 0 0 0 x (AA k) y s QR:=by
 obtain⟨xr,rfl⟩:=hx.agg;obtain⟨yr,rfl⟩:=hy.agg;obtain⟨xk1,xk2,xk3⟩:=hx.cells;obtain⟨yk1,yk2,yk3⟩:=hy.cells;obtain⟨xa,xb,hxe,TZ,hxb⟩:=id hx;cases hxe;obtain⟨ya,yb,hye,UU,hyb⟩:=id hy;cases hye;obtain⟨xb1,xb2,_⟩:=hxb.cells;obtain⟨yb1,yb2,_⟩:=hyb.cells;refine ARR (Bw (cs:=xa::xb) rfl xk2 (Bw (cs:=[AA k]) rfl rfl (Bw (cs:=ya::yb) rfl yk2 (Bt ?_))));simp only[Di,Dh,Cb,Bo,CO,B8,CQ,Nat.reduceAdd];have g0:(s.bs++[xa::xb,[AA k],ya::yb,Z5])[s.bs.length]?=some (xa::xb):=EX (j:=0) rfl rfl;have g1:(s.bs++[xa::xb,[AA k],ya::yb,Z5])[s.bs.length+1]?=some [AA k]:=EX rfl rfl;have g2:(s.bs++[xa::xb,[AA k],ya::yb,Z5])[s.bs.length+2]?=some (ya::yb):=EX rfl rfl;have g3:(s.bs++[xa::xb,[AA k],ya::yb,Z5])[s.bs.length+3]?=some Z5:=EX rfl rfl;have hT:(s.bs++[xa::xb,[AA k],ya::yb,Z5]).take s.bs.length=s.bs:=by simp
 have hl:(s.bs++[xa::xb,[AA k],ya::yb,Z5]).length=s.bs.length+4:=by simp
 have hok:BM ⟨s.bs++[xa::xb,[AA k],ya::yb,Z5],s.ts⟩:=by
  intro d hd;simp only[CG,A1,Ed,Ee] at hd
  show Ab (s.bs++_).length d=true
  rcases hd with hd|rfl|rfl|rfl|rfl
  .exact Bn (by simp) d (hs d hd)
  .grind
  .rfl
  .grind
  rfl
 generalize s.bs++[xa::xb,[AA k],ya::yb,Z5]=bs at g0 g1 g2 g3 hT hl hok;refine ADZ (AK (AP g0) (AU (off:=0) g0 rfl ⟨by decide,Ew (es:=[]) (l:=b.bounds) (.inl rfl) rfl (by grind) TZ λa10 My w1 w2=>?_⟩));rw[Cb] at w1;refine AK (AP g2) (AU (off:=0) g2 rfl ⟨by decide,Ew w1 rfl (by omega) UU λa13 Jw v1 v2=>?_⟩);have AMB:=cR (R:=R) (n:=b.bounds.length) (by omega) hsc hvc hyb;refine AK (AP g0) (Ng g0 xb1 (AK (AP g2) (Ng g2 yb1 (AK (AP g0) (AU (off:=0) g0 rfl (Al (n:=b.bounds.length) (by rw[TZ.A7,AR]) (AD AMB ?_)))))));intro sv hsv;have YZ:BM ⟨bs,Jw⟩:=hok;have hcs:=Gu b.body;obtain⟨w,s',⟨Me,ds,rfl,r4,r2,rfl⟩,r6⟩:=lg (R:=R) (C:=s.bs.length+1) hsv b.body (by omega) (.agg xb) hxb k ⟨bs,Jw⟩ YZ (by omega) (by omega) (Cv (env R) 78 0 0 0) rfl rfl g1;rw[wq _ _ _ hk] at r4;obtain⟨d1,d2,d3⟩:=r4.cells;have hF:DL (.AB []) s.ts:=DL.AB _ _;have oS:Ca (.AB []) a10 s.ts My:=w2;have v1':=r2.keep v1 (λ_ h=>by cases h);have AXn:Ca (.AB []) (.AB []) s.ts Me:=((Ca.refl (.AB []) s.ts).side w2 hF |>.side v2 (w2.TY)).trans r2;have qj:=BR (b:=[AA ((k:Int)-(Ai b.body).length)]) g0 (k:=s.bs.length+1) (by omega);have g3':=BR (b:=[AA ((k:Int)-(Ai b.body).length)]) g3 (k:=s.bs.length+1) (by omega);have AK8:BM ⟨bs.set (s.bs.length+1) [AA ((k:Int)-(Ai b.body).length)],Me⟩:=BM.set (s:=⟨bs,Jw⟩) YZ rfl _;have EA:CP (Dm b k c) (.agg (a13::ds)):=⟨a13,ds,rfl,v1.Ax,r4⟩;obtain⟨q1,q2,q3⟩:=EA.cells;refine⟨_,_,r6,IC (w6 v1.Ax.ok v1.Ax.cells r4) (O2 g3' q1 (AI _) q2 (AI _) ?_)⟩;have sxa:Tel.Bg xa xa=true:=BF.Bg TZ;have sya:Tel.Bg ya ya=true:=BF.Bg UU;have sxb:=MD hxb;have syb:=MD hyb;have f0:∀(ts:List (Nat×Nat)) d,A0 ⟨bs,ts⟩ (.ptr s.bs.length 0) d λv=>Tel.Bg v (.ptr s.bs.length (0+d))=true:=λts d=>AK (AP g0) (EO _ _)
 have f2:∀(ts:List (Nat×Nat)) d,A0 ⟨bs,ts⟩ (.ptr (s.bs.length+2) 0) d λv=>Tel.Bg v (.ptr (s.bs.length+2) (0+d))=true:=λts d=>AK (AP g2) (EO _ _)
 have eqn:∀n:Int,Tel.Bg (AA n) (AA n)=true:=λn=>by simp[Tel.Bg,Mm,FX]
 have lx:∀(ts:List (Nat×Nat)),BO ⟨bs,ts⟩ xa λv=>Tel.Bg v (AA b.bounds.length)=true:=λts=>Al (n:=b.bounds.length) (by rw[TZ.A7,AR]) (eqn _)
 refine⟨f2 _ 0,AU (off:=0) g2 rfl sya,f0 _ 1,f0 _ 1,f0 _ 1,Ng g0 xb1 sxb,Ng g0 xb1 sxb,Ng g0 xb1 sxb,f2 _ 1,f2 _ 1,Ng g2 yb1 syb,Ng g2 yb1 syb,f0 _ 0,f0 _ 0,AU (off:=0) g0 rfl sxa,AU (off:=0) g0 rfl sxa,lx _,lx _,?_⟩;refine Ad (Bf g3') q1 ?_;refine hQ (a13::ds) _ Me EA (BM.set (s:=⟨_,Me⟩) AK8 (q3 _) _) ?_ (by grind) AXn
 grind[C6]
theorem CP.I0 {b:Br} {row:List AV} (h:CP b (.agg row)) (bs:List (List AV)) (n m:Nat):∃r',AY bs n m row=some r'/\CP b (.agg r'):=by
 obtain⟨a,y,he,ha,ht⟩:=h;cases he;obtain⟨a',h1,h2⟩:=ha.close bs n m;obtain⟨y',h3,h4⟩:=ht.I0 bs n m;exact⟨a'::y',by simp[*],a',y',rfl,h2,h4⟩
theorem ARS {rr:Bool} {b:Br} {row:List AV} {s0:AM} {bs:List (List AV)} {ts:List (Nat×Nat)} {Post:AV->AM->Prop} (h0:BM s0) (hT:bs.take s0.bs.length=s0.bs) (hb:CP b (.agg row)) (hP:∀r,CP b (.agg r)->Post (.agg r) ⟨s0.bs,ts⟩):QM rr s0.bs.length Post (.agg row) ⟨bs,ts⟩:=by
 obtain⟨r',h1,h2⟩:=hb.I0 bs s0.bs.length ts.length;refine YO (ds:=r') ?_ h1 ?_
 .rw[Cz]
  intro c hc;exact h0 c (by grind)
 grind
theorem gi {b c:Br} {k:Nat} (hk:k<(Ai b.body).length) (oC:size b.body<2 ^ 37) (hsc:size c.body<2 ^ 37) (hvc:WT c.body=true) (Rb:b.bounds.length+c.bounds.length<2 ^ 38) {x y:AV} (hx:CP b x) (hy:CP c y) {s:AM} (hs:BM s) {L:A8} (hro:L.ro=0) (EU:L.rt=0) :
  ∃v s',(∃ts',CP (Dm b k c) v/\Ca (.AB []) (.AB []) s.ts ts'/\s'=⟨s.bs,ts'⟩)/\BD (env R) L 78 [x,AA k,y] s v s':=by
 cases hn:Bi [x,AA k,y] with
 | true=>
  have h0:BM ⟨[],[]⟩:=λb hb=>by grind
  obtain⟨v,hv,hc⟩:=e78 (R:=R) (Post:=λv=>CP (Dm b k c) v) hn (lq hk oC hsc hvc Rb hx hy h0 λrow bs ts' h1 h2 h3 h4 h5=>by
   obtain⟨r',q1,q2⟩:=h1.I0 bs 0 0;exact⟨.agg r',by simp[*],q2⟩)
  exact⟨v,s,⟨s.ts,hv,Ca.refl _ _,rfl⟩,hc L s⟩
 | false=>
  refine m78 hn ?_
  grind[lq,ARS]
end
theorem T4 {n:Nat}:∀(a b:List AV),Ab n a=true->Ab n b=true->Ab n (a++b)=true
 | [],b,_,h=>h
 | x::a,b,h1,h2=>by
  simp only[Ab,AE] at h1;simp only[Dh,Ab,h1.1,T4 a b h1.2 h2,Kr]
theorem EY.block {lo:Nat} {s:AM} {l:List Br} {id:Nat} {rows:List (List AV)} (h2:s.bs[id]?=some rows.flatten) (h3:CT (λb row=>CP b (.agg row)) l rows) (h4:l≠[]):∃c cs,rows.flatten=c::cs/\(c::cs).length=l.length*5/\(c::cs).all A9=true/\(∀n,Ab n (c::cs)=true)/\alive s id=true:=by
 obtain⟨c1,c2,c3⟩:=Hj h3
 have:rows.flatten≠[]:=by
  intro h;rw[h] at c1;cases l with
  | nil=>grind
  | cons _ _=>grind
 obtain⟨c,r,hc⟩:=MP this
 grind[AP]
theorem Yo {L:A8} {s:AM} {lo:Nat} {a y:AV} {l r:List Br} (ha:EY lo s.bs l a) (hy:EY lo s.bs r y) (hro:L.ro=0) (hl:l.length+r.length<2 ^ 38) (hlo:lo<=s.bs.length) {K:AV->AM->Prop}
  (h:∀a' bs',EY lo bs' (l++r) a'->(∀j c,(∀n,a≠.ref j 0 n 5)->s.bs[j]?=some c->bs'[j]?=some c)->s.bs.length<=bs'.length->(BM s->BM ⟨bs',s.ts⟩)->K a' ⟨bs',s.ts⟩) :
  Ct true L s 45 5 80 a y K:=by
 unfold Ct;rcases hy with ⟨rfl,rfl⟩|⟨iy,ry,y1,rfl,y2,y3,y4⟩
 .have hsrc:Cx s 5 (.AB [])=some []:=rfl
  rw[hsrc];rw[Gd] at h;have hk:=h a s.bs ha (λj c _ hj=>hj) (Aa _) (λh=>h);rcases ha with ⟨rfl,rfl⟩|⟨id,rows,h1,rfl,h2,h3,h4⟩
  .exact hk
  .obtain⟨c,cs,_,_,_,_,hal⟩:=EY.block (lo:=lo) h2 h3 h4
   exact⟨hal,hk⟩
 .obtain⟨c,cs,hc,k1,k2,k3,hal⟩:=EY.block (lo:=lo) y2 y3 y4
  rw[hc] at y2;have hsrc:Cx s 5 (.ref iy 0 r.length 5)=some (c::cs):=by grind[Cx]
  rw[hsrc];simp only[wO];have hdiv:(c::cs).length / 5=r.length:=by omega
  rw[hdiv];refine⟨k2,?_⟩;rcases ha with ⟨rfl,rfl⟩|⟨id,rows,h1,rfl,h2,h3,h4⟩
  .refine⟨⟨by omega,by omega,by simp⟩,?_⟩
   simp only[AN,List.flatten_nil,Cs,Cb];have e0:0+r.length=r.length:=by omega
   simp only[B8,e0];refine h (.ref s.bs.length 0 r.length 5) (s.bs++[c::cs]) (.inr ⟨s.bs.length,ry,hlo,rfl,by grind,y3,y4⟩) (λj d _ hj=>Av hj _) (by simp) (λhs=>BM.app (s:=s) hs (k3 _))
  .obtain⟨r1,r2,r3⟩:=Hj h3
   have PE:=(BL.1 h2).1;obtain⟨_,_,_,_,_,_,ALh⟩:=EY.block (lo:=lo) h2 h3 h4;simp only[h2];refine⟨⟨Ae,Ae,by omega,ALh,by omega,by omega,by omega⟩,?_⟩;have et:rows.flatten.take (l.length*5)=rows.flatten:=CA (by omega);rw[et];have ot:CT (λb row=>CP b (.agg row)) (l++r) (rows++ry):=CT.append h3 y3;refine h (.ref s.bs.length 0 (l.length+r.length) 5) (s.bs.set id []++[rows.flatten++(c::cs)]) (.inr ⟨s.bs.length,rows++ry,hlo,by simp,?_,ot,by simp[h4]⟩) (λj d hn hj=>?_) (by simp) (λhs=>?_)
   .grind
   .grind
   .have h5:BM ⟨s.bs.set id [],s.ts⟩:=BM.set (s:=s) hs (by rfl) _
    exact BM.app (s:=⟨s.bs.set id [],s.ts⟩) h5 (T4 _ _ (r3 _) (k3 _))
theorem AMC {n:Nat} {X bs:List (List AV)} {ts:List (Nat×Nat)} {l:List Br} {v:AV} {Post:AV->AM->Prop} (hn:X.length=n) (hX:∀b∈X,Ab n b=true) (hT:bs.take n=X) (hb:EY n bs l v)
  (hP:∀v' bs',EY n bs' l v'->bs'.take n=X->n<=bs'.length->BM ⟨bs',ts⟩->Post v' ⟨bs',ts⟩):QM true n Post v ⟨bs,ts⟩:=by
 have hok:((bs.take n).all (Ab n))=true:=by grind
 have ART:BM ⟨X,ts⟩:=by
  intro b hb
  grind
 rcases hb with ⟨rfl,rfl⟩|⟨id,rows,h1,rfl,h2,h3,h4⟩
 .refine⟨.AB [],⟨X,ts⟩,?_,hP _ X (.inl ⟨rfl,rfl⟩) (by grind) (by omega) ART⟩
  grind[HP,HV,Tel.close]
 .obtain⟨c,cs,hc,k1,k2,k3,hal⟩:=EY.block (lo:=n) (s:=⟨bs,ts⟩) h2 h3 h4
  rw[hc] at h2;refine⟨.ref n 0 l.length 5,⟨X++[c::cs],ts⟩,?_,hP _ (X++[c::cs]) (.inr ⟨n,rows,Aa _,rfl,by grind,h3,h4⟩) (by grind) (by grind) (BM.app (s:=⟨X,ts⟩) ART (k3 _))⟩
  grind[HP,HV,Nat.ble_eq_true_of_le]
theorem QE {R:RT} {s:AM} {lo p:Nat} {l:List Br} {y:AV} {c:Br} (hy:EY lo s.bs l y) (hc:l[p]?=some c) {K:AV->Prop} (hK:∀row,CP c (.agg row)->K (.agg row)):Bh s 5 y (AA p) λa=>D6 (env R) s (some 5) a K:=by
 rcases hy with ⟨rfl,rfl⟩|⟨id,rows,h1,rfl,h2,h3,h4⟩
 .grind
 .obtain⟨_,_,_,_,_,_,hal⟩:=EY.block (lo:=lo) h2 h3 h4
  have hp:p<l.length:=(BL.1 hc).1;refine⟨⟨by omega,by omega,rfl,hal⟩,?_⟩;simp only[D6,h2,wO,DV,xL,xM,xF,xG]
  have gen:∀(l:List Br) (rows:List (List AV)) (p:Nat) (c:Br),CT (λb row=>CP b (.agg row)) l rows->l[p]?=some c->∃row,CP c (.agg row)/\p*5+5<=rows.flatten.length/\(rows.flatten.drop (p*5)).take 5=row:=by
   intro l
   induction l with
   | nil=>simp
   | cons b l ih=>
    intro rows p c h hc;cases rows with
    | nil=>exact h.elim
    | cons row rows=>
     obtain⟨h1,h2⟩:=h;obtain⟨c1,_,_⟩:=h1.cells;cases p with
     | zero=>
      grind
     | succ p=>
      obtain⟨row',i1,i2,i3⟩:=ih rows p c h2 (by grind);refine⟨row',i1,by grind,?_⟩;have e5:(p+1)*5=row.length+p*5:=by omega
      simp[*,List.drop_append,Bu]
  grind
end Go.Proofs.YtpgfpakdnijngaaGreatDoor
