/-
  typeterm.Compare and Equal.
-/
import Derived.Test.YtpgfpakdnijngaaGreatDoorTE
import Derived.Test.YtpgfpakdnijngaaGreatDoorW1
import Derived.Test.YtpgfpakdnijngaaGreatDoorTD
set_option linter.all false
namespace Go.Proofs.YtpgfpakdnijngaaGreatDoor
open Go.Tel
attribute [local simp] Bw B6 KS KT AO C1 GC wO setCells CR EG DQ Cu BD alive Cb Fi Hs jo Ay DC BV GL DY D0 qY oO okB qZ qa qb qc qd fK qe qf qg qh qi qj qm qo qp qt qu okF qv qw qx qy rC U2 rD RJ RK RL RM rE rF rG rH rI rJ rK rL rM rN Gu rO oP rP rQ rR rS rT rU rV rW rX rY Cm g0 g1 xI xL xM xF xG xC lf Y4 Y5
theorem cT:∀l:List UInt8,Op.bytesLess l l=false
 | []=>rfl
 | c::l=>by
  rw[Op.bytesLess,cT l];simp
theorem AJ8 {a b:List UInt8} {K:AV->Prop} (h:K (BB (Op.bytesLess a b))):Fi .lss (SS a) (SS b) K:=h
theorem AJ9 {a b:List UInt8} {K:AV->Prop} (h:K (BB (!(Op.bytesLess a b||(a==b))))):Fi .gtr (SS a) (SS b) K:=h
theorem AKA {a b:List UInt8} {K:AV->Prop} (h:K (BB (!(a==b)))):Fi .neq (SS a) (SS b) K:=h
def lY:List Int->Int
 | []=>0
 | c::l=>bif c==0 then lY l else c
theorem cU:∀l:List Int,lY l=0<->∀c∈l,c=0
 | []=>by simp[lY]
 | c::l=>by
  rw[lY];cases h:c==0 with
  | true=>
   have:c=0:=by grind
   simp[cU l,this]
  | false=>
   simp_all
section
variable {R:RT}
theorem Tx (w:List UInt8):AL (env R) 153 [SS w] λr=>r=BB false:=
 AVc (u0:=SS w) (by simp) (AKB (AKA ⟨_,Gu,by simp⟩))
theorem QL (a b:Int):AL (env R) 132 [AA a,AA b] λr=>∃c:Int,r=AA c/\(c=0<->a=b):=by
 refine AVd (u0:=AA a) (u1:=AA b) (by simp) (AKC ?_);refine AG (QK a) ?_;rintro v rfl;refine AG (QK b) ?_;rintro v rfl;refine BE (AKD (BE (AKE (A2 ?_))))
 by_cases h1:a<b
 .rw[Aq h1]
  exact BP ⟨_,Gu,-1,rfl,by omega⟩
 .rw[BF h1]
  refine BE (AKF (JS ?_))
  by_cases h2:a>b
  .rw[Aq h2]
   exact BP ⟨_,Gu,1,rfl,by omega⟩
  .rw[BF h2]
   exact BE (AKG ⟨_,Gu,0,rfl,by omega⟩)
theorem o4 (a b:List UInt8):AL (env R) 133 [SS a,SS b] λr=>∃c:Int,r=AA c/\(c=0<->a=b):=by
 refine AVe (u0:=SS a) (u1:=SS b) (by simp) (AKH ?_);refine AG (Tx a) ?_;rintro v rfl;refine AG (Tx b) ?_;rintro v rfl;refine BE (AKI (BE (AKJ (AJ8 ?_))));cases h1:Op.bytesLess a b with
 | true=>
  refine BP ⟨_,Gu,-1,rfl,?_⟩
  grind[cT]
 | false=>
  refine BE (AKK (AJ9 ?_));rw[h1];cases h2:(a==b) with
  | true=>exact BE (AKL ⟨_,Gu,0,rfl,by grind⟩)
  | false=>exact BP ⟨_,Gu,1,rfl,by grind⟩
theorem ACa {l:List Int} {y:AV} (hy:BG y (AY l)) (hl:l.length<2 ^ 40) {Post:AV->Prop} (hP:Post (AA (lY l))) :
  ∀(j p:Nat) (s:AM),p+j=l.length->lY (l.drop p)=lY l->Y0 R 0 0 0 (AA 0) y (AA l.length) (AA p) s (QP Post):=by
 intro j
 induction j with
 | zero=>
  intro p s hi ho;refine wC (A2 ?_);rw[BF (by omega)];rw[Cj (by omega),lY] at ho;exact BE (AKM ⟨_,Gu,by grind⟩)
 | succ j Et=>
  intro p s hi ho;refine wC (A2 ?_);rw[Aq (by omega)];obtain⟨c,hc⟩:∃c,l[p]?=some c:=⟨_,Ap (by omega)⟩;rw[drop_cons hc,lY] at ho;refine BP (AKN (CH hy (row:=[.sc (.int .i64 c)]) (by omega) (by grind[AY]) rfl (by omega) (LM (Fl ?_))));cases h:c==0 with
  | true=>
   have:(c != 0)=false:=by grind
   rw[this];rw[h] at ho;refine BE (AKO (CO (by omega) (by omega) ?_));have:=Et (p+1) s (by omega) ho
   grind
  | false=>
   have:(c != 0)=true:=by grind
   rw[this];rw[h] at ho;exact BP ⟨_,Gu,by grind⟩
theorem ACb {l:List Int} {y:AV} (hy:Av y (AY l)) (hl:l.length<2 ^ 40):AL (env R) 131 [y] λr=>r=AA (lY l):=by
 refine AVf (u0:=y) (by simp[AU,hy.close]) (AKP (BI (n:=l.length) (by rw[hy.BN,CS]) ?_));exact ACa (Post:=λr=>r=AA (lY l)) (.inl hy) hl rfl l.length 0 _ (by omega) rfl
theorem AVg {a b c d:Int} {s:AM} {K:AV->AM->Prop} (h:K (.AB (AY [a,b,c,d])) s):Dc false s 1 [(AA 0)] 4 [(0,1,AA a),(1,1,AA b),(2,1,AA c),(3,1,AA d)] K:=by
 simp[Dc,Fz,CD];exact h
theorem o5 {k i k' i':Int} {n n':List UInt8} {ts ts':List Ty} {a a':AV} (ha:Av a (AP ts)) (Jb:Av a' (AP ts')) (hl:ts.length<2 ^ 40) (he:ts.length=ts'.length)
  (ih:∀t∈ts,∀(t':Ty) (x x':AV),A5 t x->A5 t' x'->AL (env R) 104 [x,x'] λr=>∃c:Int,r=AA c/\(c=0<->t=t')) {s:AM} (g0:s.bs[0]?=some [AA k,SS n,AA i,a]) (g1:s.bs[1]?=some [AA k',SS n',AA i',a']) {Post:AV->Prop} (hP:∀c:Int,(c=0<->ts=ts')->Post (AA c)) :
  ∀(j p:Nat) (c:Int),p+j=ts.length->(c=0->ts.take p=ts'.take p)->(c≠0->ts≠ts')->Tz R 0 0 0 (.ptr 0 0) (.ptr 1 0) (AA c) (AA p) s (QP Post):=by
 intro j
 have done:∀(p:Nat) (c:Int),c≠0->(c≠0->ts≠ts')->Tz R 0 0 0 (.ptr 0 0) (.ptr 1 0) (AA c) (AA p) s (QP Post):=by
  intro p c hc h;refine Y1 (Bd ?_);have:(c==0)=false:=by grind
  rw[this];exact Bx (Bx (Bx (Bx (Bx (pk (BE (iD ⟨_,Gu,hP c (by grind)⟩)))))))
 induction j with
 | zero=>
  intro p c hi h0 h1
  by_cases hc:c=0
  .subst hc
   refine Y1 (Bd (Ax (Ax (AW (Ak g0) (Ax (Ag (off:=3) g0 rfl (Ax (BI (n:=ts.length) (by rw[ha.BN,AR]) (Ax (A2 (pk ?_)))))))))));rw[BF (by omega)];have:=h0 rfl;rw[Cv (by omega),Cv (by omega)] at this;exact BE (iD ⟨_,Gu,hP 0 (by grind)⟩)
  grind
 | succ j Et=>
  intro p c hi h0 h1
  by_cases hc:c=0
  .subst hc
   refine Y1 (Bd (Ax (Ax (AW (Ak g0) (Ax (Ag (off:=3) g0 rfl (Ax (BI (n:=ts.length) (by rw[ha.BN,AR]) (Ax (A2 (pk ?_)))))))))));rw[Aq (by omega)];obtain⟨t,ht⟩:∃c,ts[p]?=some c:=⟨_,Ap (by omega)⟩;obtain⟨t',ht'⟩:∃c,ts'[p]?=some c:=⟨_,Ap (by omega)⟩;have hpre:=h0 rfl;refine BP (AKQ (AW (Ak g0) (Ag (off:=3) g0 rfl (BO ha (row:=Aa t) (by omega) (by grind[BJ]) (Ad _) (by omega) (Di (AW (Ak g1) (Ag (off:=3) g1 rfl (BO Jb (row:=Aa t') (by omega) (by grind[BJ]) (Ad _) (by omega) (Di ?_)))))))));refine AG (ih t (BA ht) t' _ _ (A5.Bu t) (A5.Bu t')) ?_;rintro v ⟨c,rfl,tN⟩;refine AKR (CO (by omega) (by omega) ?_);have:=Et (p+1) c (by omega) (λh=>by grind[List.take_add_one]) (λh e=>by grind)
   grind
  grind
mutual
theorem Wi:∀(t:Ty),size t<2 ^ 38->∀(t':Ty) (x x':AV),A5 t x->A5 t' x'->AL (env R) 104 [x,x'] λr=>∃c:Int,r=AA c/\(c=0<->t=t')
 | .mk k n i ts,h,.mk k' n' i' ts',x,x',hx,hx'=>by
  obtain⟨a,rfl,ha⟩:=hx;obtain⟨a',rfl,Jb⟩:=hx';simp only[size] at h;have ih:=T1 ts (by omega);have hts:=Bk ts
  suffices H:∀Post:AV->Prop,(∀c:Int,(c=0<->Ty.mk k n i ts=Ty.mk k' n' i' ts')->Post (AA c))->iE R 0 0 0 (.agg [AA k,SS n,AA i,a]) (.agg [AA k',SS n',AA i',a']) ⟨[],[]⟩ (QP Post) from
   AVh (u0:=.agg [AA k,SS n,AA i,a]) (u1:=.agg [AA k',SS n',AA i',a']) (by simp[ha.close,Jb.close]) (H _ λc hc=>⟨c,rfl,hc⟩)
  intro Post hP;simp only[Ty.mk.injEq] at hP;refine AKS (CT (cs:=[AA k,SS n,AA i,a]) rfl (by simp[ha.ok]) (CT (cs:=[AA k',SS n',AA i',a']) rfl (by simp[Jb.ok]) ?_));simp only[ED,Ce,Eu,CI,Cg];have g0:(AM.mk [[AA k,SS n,AA i,a],[AA k',SS n',AA i',a']] []).bs[0]?=some [AA k,SS n,AA i,a]:=rfl;have g1:(AM.mk [[AA k,SS n,AA i,a],[AA k',SS n',AA i',a']] []).bs[1]?=some [AA k',SS n',AA i',a']:=rfl;generalize AM.mk [[AA k,SS n,AA i,a],[AA k',SS n',AA i',a']] []=s at g0 g1;have sa:=BG.CQ (es:=ts) (.inl ha);have sa':=BG.CQ (es:=ts') (.inl Jb);have la:∀(s:AM) (K:AV->Prop),K (AA ts.length)->BV s a K:=λs K h=>BI (n:=ts.length) (by rw[ha.BN,AR]) h
  have la':∀(s:AM) (K:AV->Prop),K (AA ts'.length)->BV s a' K:=λs K h=>BI (n:=ts'.length) (by rw[Jb.BN,AR]) h
  have eqs:∀w:List UInt8,Tel.CQ (SS w) (SS w)=true:=λw=>by simp[Tel.CQ,PX,Ht]
  have eqi:∀w:Int,Tel.CQ (AA w) (AA w)=true:=λw=>by simp[Tel.CQ,PX,F5]
  have fa0:∀d,BD s (.ptr 0 0) d λv=>Tel.CQ v (.ptr 0 (0+d))=true:=λd=>AW (Ak g0) (Ec _ _)
  have fa1:∀d,BD s (.ptr 1 0) d λv=>Tel.CQ v (.ptr 1 (0+d))=true:=λd=>AW (Ak g1) (Ec _ _)
  refine AW (Ak g0) (Ag (off:=0) g0 rfl (AW (Ak g1) (Ag (off:=0) g1 rfl ?_)));refine AG (QL k k') ?_;rintro v ⟨c1,rfl,h1⟩;refine AW (Ak g0) (Ag (off:=1) g0 rfl (AW (Ak g1) (Ag (off:=1) g1 rfl ?_)));refine AG (o4 n n') ?_;rintro v ⟨c2,rfl,h2⟩;refine AW (Ak g0) (Ag (off:=2) g0 rfl (AW (Ak g1) (Ag (off:=2) g1 rfl ?_)));refine AG (QL i i') ?_;rintro v ⟨c3,rfl,h3⟩;refine AW (Ak g0) (Ag (off:=3) g0 rfl (la _ _ (AW (Ak g1) (Ag (off:=3) g1 rfl (la' _ _ ?_)))));refine AG (QL ts.length ts'.length) ?_;rintro v ⟨c4,rfl,h4⟩;refine AVg (AG (ACb (l:=[c1,c2,c3,c4]) (.AB _) (by simp)) ?_);rintro v rfl;refine⟨fa0 1,Ag (off:=1) g0 rfl (eqs n),fa1 1,Ag (off:=1) g1 rfl (eqs n'),fa0 2,fa0 2,Ag (off:=2) g0 rfl (eqi i),Ag (off:=2) g0 rfl (eqi i),fa1 2,fa1 2,Ag (off:=2) g1 rfl (eqi i'),Ag (off:=2) g1 rfl (eqi i'),fa0 3,fa0 3,fa0 3,Ag (off:=3) g0 rfl sa,Ag (off:=3) g0 rfl sa,Ag (off:=3) g0 rfl sa,la _ _ (eqi _),la _ _ (eqi _),la _ _ (eqi _),fa1 3,fa1 3,fa1 3,Ag (off:=3) g1 rfl sa',Ag (off:=3) g1 rfl sa',Ag (off:=3) g1 rfl sa',la' _ _ (eqi _),la' _ _ (eqi _),la' _ _ (eqi _),?_⟩
  have hz:lY [c1,c2,c3,c4]=0<->(k=k'/\n=n'/\i=i'/\ts.length=ts'.length):=by
   rw[cU];simp only[Az,Ex,Ey,forall_eq_or_imp,forall_eq,h1,h2,h3,h4]
   grind
  by_cases hall:k=k'/\n=n'/\i=i'/\ts.length=ts'.length
  .obtain⟨rfl,rfl,rfl,hle⟩:=hall
   have h0:=hz.2 ⟨rfl,rfl,rfl,hle⟩;exact o5 ha Jb (by omega) hle ih g0 g1 (λc hc=>hP c (by grind)) ts.length 0 _ (by omega) (λ_=>rfl) (λh=>absurd h0 h)
  .have hne:lY [c1,c2,c3,c4]≠0:=λh=>hall (hz.1 h)
   generalize lY [c1,c2,c3,c4]=c at hne;refine Y1 (Bd ?_);have:(c==0)=false:=by grind
   rw[this];exact Bx (Bx (Bx (Bx (Bx (pk (BE (iD ⟨_,Gu,hP c (by grind)⟩)))))))
theorem T1:∀(l:List Ty),AQ l<2 ^ 38->∀t∈l,∀(t':Ty) (x x':AV),A5 t x->A5 t' x'->AL (env R) 104 [x,x'] λr=>∃c:Int,r=AA c/\(c=0<->t=t')
 | [],_,_,h=>by cases h
 | e::l,h,t,hm=>by
  simp only[AQ] at h;rcases Az.1 hm with h' | h'
  .rw[h']
   exact Wi e (by omega)
  .exact T1 l (by omega) t h'
end
theorem T2 {t t':Ty} {x x':AV} (h:size t<2 ^ 38) (hx:A5 t x) (hx':A5 t' x'):AL (env R) 63 [x,x'] λr=>∃b:Bool,r=BB b/\(b=true<->t=t'):=by
 have hc:=Wi (R:=R) t h t' x x' hx hx';obtain⟨k,n,i,ts⟩:=t;obtain⟨k',n',i',ts'⟩:=t';obtain⟨a,rfl,ha⟩:=hx;obtain⟨a',rfl,Jb⟩:=hx';refine e63 (u0:=.agg [AA k,SS n,AA i,a]) (u1:=.agg [AA k',SS n',AA i',a']) (by simp[ha.close,Jb.close]) (APG ?_);refine CT (cs:=[AA k,SS n,AA i,a]) rfl (by simp[ha.ok]) (CT (cs:=[AA k',SS n',AA i',a']) rfl (by simp[Jb.ok]) (Af (cs:=[AA k,SS n,AA i,a]) rfl rfl (Af (cs:=[AA k',SS n',AA i',a']) rfl rfl ?_)));refine AG hc ?_;rintro v ⟨c,rfl,h⟩;exact Bd ⟨_,Gu,c==0,rfl,by grind⟩
end
def MO (lo:Nat) (bs:List (List AV)) (l:List Br) (a:AV):Prop:=(a=.AB []/\l=[])\/∃id rows,lo<=id/\a=.ref id 0 l.length 5/\bs[id]?=some (List.flatten rows)/\CG (λb row=>D3 b (.agg row)) l rows/\l≠[]
theorem D3.cells {b:Br} {row:List AV} (h:D3 b (.agg row)):row.length=5/\row.all A1=true/\∀n,Ab n row=true:=by
 obtain⟨a,y,hy,ha,ht⟩:=h;cases hy;obtain⟨h1,h2,h3⟩:=ht.cells;exact⟨by grind,by simp only[Ho,ha.ok,h2]; rfl,λn=>by simp[Ab,ha.Ai,h3]⟩
theorem D3.agg {b:Br} {x:AV} (h:D3 b x):∃row,x=.agg row:=by
 obtain⟨a,y,rfl,_⟩:=h;simp
theorem Mv {l:List Br} {rows:List (List AV)} (h:CG (λb row=>D3 b (.agg row)) l rows):rows.flatten.length=l.length*5/\rows.flatten.all A1=true/\∀n,Ab n rows.flatten=true:=by
 induction l generalizing rows with
 | nil=>
  cases rows with
  | nil=>exact⟨rfl,rfl,λ_=>rfl⟩
  | cons _ _=>exact h.elim
 | cons b l ih=>
  cases rows with
  | nil=>exact h.elim
  | cons row rows=>
   obtain⟨h1,h2⟩:=h;obtain⟨c1,c2,c3⟩:=h1.cells;obtain⟨i1,i2,i3⟩:=ih h2;refine⟨by grind,by grind,λn=>?_⟩;rw[MV]
   have gen:∀(a b:List AV),Ab n a=true->Ab n b=true->Ab n (a++b)=true:=by
    intro a
    induction a with
    | nil=>simp
    | cons x a Y2=>
     grind[Ab]
   grind
theorem MO.BN {lo:Nat} {s:AM} {l:List Br} {a:AV} (h:MO lo s.bs l a):BN s a=some l.length:=by
 rcases h with ⟨rfl,rfl⟩|⟨id,rows,h1,rfl,h2,h3,h4⟩
 .rfl
 .obtain⟨c1,_,_⟩:=Mv h3
  have hal:alive s id=true:=by
   have:rows.flatten≠[]:=by
    intro h;rw[h] at c1;cases l with
    | nil=>grind
    | cons _ _=>grind
   obtain⟨c,r,hc⟩:=Mc this;simp[*]
  grind[Tel.BN]
theorem MO.mono {lo lo':Nat} {bs bs':List (List AV)} {l:List Br} {a:AV} (h:MO lo bs l a) (hl:lo'<=lo) (hb:∀j c,lo<=j->bs[j]?=some c->bs'[j]?=some c):MO lo' bs' l a:=by
 rcases h with h|⟨id,rows,h1,h2,h3,h4,h5⟩
 .exact .inl h
 .exact .inr ⟨id,rows,A6 hl h1,h2,hb id _ h1 h3,h4,h5⟩
theorem AKT {b:Br} {row:List AV} (h:D3 b (.agg row)) {s:AM} {K:AV->AM->Prop} (hK:K (.ref s.bs.length 0 1 5) ⟨s.bs++[row],s.ts⟩):Dc true s 5 [(.AB []),(AA 0),(SS []),(AA 0),(.AB [])] 1 [(0,5,.agg row)] K:=by
 obtain⟨a,y,hy,ha,ht⟩:=h;cases hy;rcases jb:b.body with ⟨k,n,i,ts⟩
 rw[jb] at ht;obtain⟨a2,hy,S1⟩:=ht;cases hy;simp[Dc,Fz,CD,ha.ok,S1.ok];omega
theorem AKU {L:A3} {s:AM} {lo id':Nat} {a:AV} {l:List Br} {b:Br} {row:List AV} (hr:D3 b (.agg row)) (hid:s.bs[id']?=some row) (ha:MO lo s.bs l a) (hro:L.ro=0) (hl:l.length<2 ^ 30) {K:AV->AM->Prop}
  (h:∀a' bs',MO lo bs' (l++[b]) a'->(∀j c,(∀n,a≠.ref j 0 n 5)->s.bs[j]?=some c->bs'[j]?=some c)->s.bs.length<=bs'.length->(Bj s->Bj ⟨bs',s.ts⟩)->(lo<=s.bs.length->K a' ⟨bs',s.ts⟩)) (hlo:lo<=s.bs.length) :
  EL true L s 45 5 80 a (.ref id' 0 1 5) K:=by
 obtain⟨c1,c2,c3⟩:=hr.cells
 have hal:alive s id'=true:=by
  obtain⟨c,r,hc⟩:=Mc (l:=row) (by grind);simp[*]
 have hsrc:DN s 5 (.ref id' 0 1 5)=some row:=by grind[DN]
 unfold EL;rw[hsrc];obtain⟨c,cs,hc⟩:=Mc (l:=row) (by grind);subst hc;simp only[wO];have hdiv:(c::cs).length / 5=1:=by rw[c1]
 rw[hdiv];refine⟨c2,?_⟩;rcases ha with ⟨rfl,rfl⟩|⟨id,rows,h1,rfl,h2,h3,h4⟩
 .refine⟨⟨by simp,by simp,by simp⟩,?_⟩
  simp only[AH,List.flatten_nil,Ci,ED];refine h (.ref s.bs.length 0 1 5) (s.bs++[c::cs]) (.inr ⟨s.bs.length,[c::cs],hlo,rfl,by simp,⟨hr,AZ⟩,by simp⟩) (λj c _ hj=>Ah hj _) (by simp) (λhs=>Bj.app (s:=s) hs (c3 _)) hlo
 .obtain⟨r1,r2,r3⟩:=Mv h3
  have Rq:=(BL.1 h2).1
  have AVi:alive s id=true:=by
   have:rows.flatten≠[]:=by
    intro h;rw[h] at r1;cases l with
    | nil=>grind
    | cons _ _=>grind
   obtain⟨c,r,hc⟩:=Mc this
   simp_all
  simp only[h2];refine⟨⟨AZ,AZ,by omega,AVi,by omega,by omega,by omega⟩,?_⟩;have et:rows.flatten.take (l.length*5)=rows.flatten:=Cv (by omega);rw[et];have ACc:CG (λb row=>D3 b (.agg row)) (l++[b]) (rows++[c::cs]):=CG.append h3 ⟨hr,AZ⟩;refine h (.ref s.bs.length 0 (l.length+1) 5) (s.bs.set id []++[rows.flatten++(c::cs)]) (.inr ⟨s.bs.length,rows++[c::cs],hlo,by simp,?_,ACc,by simp⟩) (λj c hn hj=>?_) (by simp) (λhs=>?_) hlo
  .simp
  .grind
  .have h5:Bj ⟨s.bs.set id [],s.ts⟩:=Bj.set (s:=s) hs (by rfl) _
   refine Bj.app (s:=⟨s.bs.set id [],s.ts⟩) h5 ?_
   have gen:∀n (a b:List AV),Ab n a=true->Ab n b=true->Ab n (a++b)=true:=by
    intro n a
    induction a with
    | nil=>simp
    | cons x a Y2=>
     grind[Ab]
   grind
section
variable {R:RT}
theorem D3.closed {b:Br} {x:AV} (h:D3 b x):∃x',AU [] 0 0 [x]=some [x']/\AU [] 0 0 [x']=some [x']/\bQ b x':=by
 obtain⟨a,y,rfl,ha,ht⟩:=h;rcases hb:b.body with ⟨k,n,i,ts⟩
 rw[hb] at ht;obtain⟨a2,hy,S1⟩:=ht;cases hy;obtain⟨a',h1,h2⟩:=ha.closed [] 0;obtain⟨a2',h3,h4⟩:=S1.closed [] 0;refine⟨.agg [a',AA k,SS n,AA i,a2'],by simp[*],by simp[h2.close,h4.close],?_⟩;exact⟨a',[AA k,SS n,AA i,a2'],rfl,h2,by rw[hb]; exact⟨a2',rfl,h4⟩⟩
theorem Nw {b:Br} (h:size b.body<2 ^ 38) (hl:b.bounds.length<2 ^ 38) (hc:(Al b.body).length<2 ^ 40) {x:AV} (hx:D3 b x):AL (env R) 46 [x] λr=>r=BB (decide (b.bounds.length<=6)&&decide ((Al b.body).length<=3)):=by
 obtain⟨x',h1,h2,h3⟩:=hx.closed;exact AL.open (args':=[x']) (by rfl) (by rfl) rfl h1 h2 (Js h hl hc h3)
end
section
variable {R:RT}
theorem cV {α:Type} {row:α->List PV} (hrow:∀a,(row a).length=4) {f:FuncId} {cs:List AV} {g:α->Bool} {ts:List α} {y:AV} (hy:BG y (ts.map row)) (hl:ts.length<2 ^ 60) {s:AM} (hf:∀t∈ts,∀L,A8 (env R) L f (.agg ((row t).map .pv)::cs) s (BB (g t)) s) {n0 ro rt:Nat} {QR:QT} :
  ∀(j q:Nat),q+j=ts.length->(∀i:Int,decide (0<=i)=(ts.drop q).any g->QR (AA i) s)->Pz R n0 ro rt y (.func (.func f) [] cs) (AA ts.length) (AA q) s QR:=by
 intro j
 induction j with
 | zero=>
  intro q hi hP;refine P0 (A2 ?_);rw[BF (by omega)];refine BE (fW ?_);have h2:ts.drop q=[]:=Cj (by omega);rw[h2] at hP;exact hP (-1) (by simp)
 | succ j Et=>
  intro q hi hP;refine P0 (A2 ?_);rw[Aq (by omega)];refine BP (fX ?_);obtain⟨t,ht⟩:∃t,ts[q]?=some t:=⟨_,Ap (by omega)⟩;rw[drop_cons ht] at hP;refine CH hy (row:=row t) (by omega) (by simp[ht]) (hrow t) (by omega) ?_;have hc:=hf t (BA ht)
  have e4:∀K:AV->Prop,K (.agg ((row t).map .pv))->EG (env R) s (some 4) (.C8 (row t) 0) K:=by
   intro K hK;simp only[EG,DQ,Ku,xL,xM,xF,xG];refine⟨by rw[Bn,hrow]; omega,?_⟩;rw[Cv (by rw[Bn,hrow]; omega)];exact hK
  refine e4 _ ?_;refine⟨BB (g t),s,hc _,?_⟩;cases hg:g t with
  | true=>grind[BP]
  | false=>
   refine BE (fY (CO (by omega) (by omega) ?_))
   grind
theorem VG {α:Type} {row:α->List PV} (hrow:∀a,(row a).length=4) {f:FuncId} {cs:List AV} {g:α->Bool} {ts:List α} {y:AV} (hy:BG y (ts.map row)) (hl:ts.length<2 ^ 60) {s:AM} (hs:Bj s) (hcs:Bb cs=false) (hf:∀t∈ts,∀L,A8 (env R) L f (.agg ((row t).map .pv)::cs) s (BB (g t)) s) (L:A3) :
  A8 (env R) L 94 [y,.func (.func f) [] cs] s (BB (ts.any g)) s:=by
 have hi:∀L,∃i:Int,decide (0<=i)=ts.any g/\A8 (env R) L 125 [y,.func (.func f) [] cs] s (AA i) s:=by
  intro L
  obtain⟨v,s',⟨i,rfl,rfl,h⟩,hc⟩:=ANy (R:=R) (L:=L) (s:=s) (t0:=y) (t1:=.func (.func f) [] cs) (Post:=λv s'=>∃i:Int,v=AA i/\s'=s/\decide (0<=i)=ts.any g) (by grind[Bb,Ep]) (YE (BI (n:=ts.length) (by rw[hy.BN,Bn]) (cV hrow hy hl hf ts.length 0 (by omega) λi h=>by
   have:=Iu (rr:=L.rr 125) hs (m:=[]) (p:=.sc (.int .i64 i)) (Post:=λv s'=>∃i:Int,v=AA i/\s'=s/\decide (0<=i)=ts.any g) ⟨i,rfl,rfl,by grind⟩
   simp_all)))
  grind
 obtain⟨v,s',⟨rfl,rfl⟩,hc⟩:=m94 (R:=R) (L:=L) (s:=s) (t0:=y) (t1:=.func (.func f) [] cs) (Post:=λv s'=>v=BB (ts.any g)/\s'=s) (by grind[Bb,Ep]) (ju (by
  obtain⟨i,h,hc⟩:=hi (Cu (env R) 94 0 L.ro L.rt);refine⟨AA i,s,hc,JT ?_⟩;have:=Iu (rr:=L.rr 94) hs (m:=[]) (p:=.sc (.bool (ts.any g))) (Post:=λv s'=>v=BB (ts.any g)/\s'=s) ⟨rfl,rfl⟩
  simp_all))
 omega
theorem AKV {t u:Ty} (hsz:size t<2 ^ 38) {p:Nat} {s:AM} (hs:Bj s) (hp:s.bs[p]?=some ((Aa u).map .pv)) (L:A3):∃b:Bool,(b=true<->t=u)/\A8 (env R) L 95 [.agg ((Aa t).map .pv),.ptr p 0] s (BB b) s:=by
 have heq:=T2 (R:=R) hsz (A5.Bu t) (A5.Bu u);have hrl:((Aa t).map AV.pv).length=4:=by grind[Ad]
 have qU:((Aa u).map AV.pv).length=4:=by grind[Ad]
 have hro:=Ct t;obtain⟨v0,⟨b,rfl,hb⟩,MP⟩:=heq;refine⟨b,hb,?_⟩;generalize (Aa t).map AV.pv=r at MP hrl hro;generalize (Aa u).map AV.pv=r2 at MP qU hp;obtain⟨v,s',⟨rfl,rfl⟩,hc⟩:=m95 (R:=R) (L:=L) (s:=s) (t0:=.agg r) (t1:=.ptr p 0) (Post:=λv s'=>v=BB b/\s'=s) (by simp[Bb,Ep]) (APH (CT (cs:=r) rfl hro (Af (Am s.bs r) hrl (Af (Ah hp r) qU ⟨_,_,MP _ _,Iu hs (m:=[r]) (p:=.sc (.bool b)) ⟨rfl,rfl⟩⟩))));omega
def lZ (R:RT) (t:Ty) (o:List Br×Int):Prop:=∀x,BM t x->∀s,Bj s->∀L:A3,L.n0=0->L.ro=0->L.rt=0 ->
 ∃v s',(∃a,v=.tuple [a,AA o.2]/\MO s.bs.length s'.bs o.1 a/\s'.bs.take s.bs.length=s.bs/\s.bs.length<=s'.bs.length/\ES (.AB []) (.AB []) s.ts s'.ts/\Bj s')/\A8 (env R) L 14 [x] s v s'
theorem ACd {X:Ty->List Br×Int} {ts:List Ty} {y:AV} (hy:Av y (AP ts)) (hl:ts.length<2 ^ 30) (hsz:∀t∈ts,size t<2 ^ 38) (hx:∀t∈ts,lZ R t (X t)) {Post:AV->Prop} (hP:Post (BB (ts.all λt=>FD (X t)))) :
  ∀(j p:Nat) (ck:List Ty) (s:AM) (b:AV),p+j=ts.length->ck.length<=p->(∀t∈ck,t∈ts/\FD (X t)=true)->(ts.all λt=>FD (X t))=((ts.drop p).all λt=>FD (X t))->Bj s->EM 0 s.ts 25 b (AP ck) ->
   ld R 0 0 0 b y (AA ts.length) (AA p) s (QP Post):=by
 classical
 intro j
 induction j with
 | zero=>
  intro p ck s b hi Ba hck hall hs hb;refine AEV (A2 ?_);rw[BF (by omega)];rw[Cj (by omega)] at hall;rw[hall] at hP;exact BE (API ⟨_,Gu,hP⟩)
 | succ j Et=>
  intro p ck s b hi Ba hck hall hs hb;refine AEV (A2 ?_);rw[Aq (by omega)];obtain⟨t,ht⟩:∃t,ts[p]?=some t:=⟨_,Ap (by omega)⟩;have Zz:=BA ht;rw[drop_cons ht,Ho] at hall;have hrl:((Aa t).map AV.pv).length=4:=by grind[Ad]
  have hro:=Ct t
  have K6:Ab (s.bs.length+1) ((Aa t).map AV.pv)=true:=by
   obtain⟨k1,n1,i1,t1⟩:=t;rfl
  refine BP (APJ (BO hy (row:=Aa t) (by omega) (by simp[*,BJ]) (Ad _) (by omega) (Di (Bi ?_))));obtain⟨bs,tk⟩:=s;refine BZ (Am bs Z4) hrl rfl (by decide) (AK _) hro (.inl (AK _)) ?_;have e1:(bs++[Z4]).set bs.length ((Aa t).map AV.pv)=bs++[(Aa t).map AV.pv]:=by simp
  rw[e1];have hs1:Bj ⟨bs++[(Aa t).map AV.pv],tk⟩:=Bj.app (s:=⟨bs,tk⟩) hs K6;have gr:=Am bs ((Aa t).map AV.pv)
  have APK:∀u∈ck,∀L,A8 (env R) L 95 [.agg ((Aa u).map .pv),.ptr bs.length 0] ⟨bs++[(Aa t).map AV.pv],tk⟩ (BB (decide (u=t))) ⟨bs++[(Aa t).map AV.pv],tk⟩:=by
   intro u hu L;obtain⟨b',h1,h2⟩:=AKV (R:=R) (t:=u) (u:=t) (hsz u (hck u hu).1) hs1 gr L
   grind
  have Wj:=hb.A9;rw[HD] at Wj;refine⟨_,_,VG (λt=>Ad t) Wj (by omega) hs1 rfl APK _,?_⟩;cases hm:ck.any (λu=>decide (u=t)) with
  | true=>
   obtain⟨u,hu,hut⟩:=Kr.1 hm;have:u=t:=by grind
   subst this;have hok:=(hck u hu).2;refine BP (AEW (CO (by omega) (by omega) ?_));have:=Et (p+1) ck ⟨bs++[(Aa u).map AV.pv],tk⟩ b (by omega) (by omega) hck (by rw[hall,hok,CU]) hs1 hb
   grind
  | false=>
   refine BE (APL (Af gr hrl (Gj (A5.Bu t).Km ⟨by decide,Mq hb rfl (by omega) λb' Hx hb' HM=>Af gr hrl ?_⟩)));have hs2:Bj ⟨bs++[(Aa t).map AV.pv],Hx⟩:=hs1;obtain⟨v,s',⟨a,rfl,x1,x2,x3,x4,x5⟩,x6⟩:=hx t Zz _ (A5.Bu t).Km ⟨bs++[(Aa t).map AV.pv],Hx⟩ hs2 (Cu (env R) 47 0 0 0) rfl rfl rfl;refine⟨_,_,x6,CC rfl (CC rfl (Fl ?_))⟩
   have fail:FD (X t)=false->(QP Post) (BB false) s':=λh=>by
    rw[hall,h,Ib] at hP;exact⟨_,Gu,hP⟩
   cases h0:(X t).2==0 with
   | false=>
    grind[Cq,pk,BP,FD]
   | true=>
    have:((X t).2 != 0)=false:=by grind
    rw[this];refine Ax (Ax (BI x1.BN (Ax (JS (pk ?_)))))
    by_cases h4:(X t).1.length<=4
    .rw[BF (by omega)]
     refine BE (AEW (CO (by omega) (by omega) ?_));have AVk:FD (X t)=true:=by grind[FD]
     have:=Et (p+1) (ck++[t]) s' b' (by omega) (by grind) (λu hu=>by
      rcases CM.1 hu with hu|hu
      all_goals grind) (by rw[hall,AVk,CU]) x5 (x4.keep hb' λ_ h=>by cases h)
     grind
    grind[BP,FD]
theorem Kj {X:Ty->List Br×Int} {ts:List Ty} {y:AV} (hy:Av y (AP ts)) (hl:ts.length<2 ^ 30) (hsz:∀t∈ts,size t<2 ^ 38) (hx:∀t∈ts,lZ R t (X t)):AL (env R) 47 [y] λr=>r=BB (ts.all λt=>FD (X t)):=by
 refine e47 (u0:=y) (by simp[AU,hy.close]) (APM (BI (n:=ts.length) (by rw[hy.BN,AR]) ?_));exact ACd (Post:=λr=>r=BB (ts.all λt=>FD (X t))) hy hl hsz hx rfl ts.length 0 [] ⟨[],[]⟩ (.AB []) (by omega) (AK _) (λt h=>by cases h) rfl (λb hb=>by grind) (.inl rfl)
theorem PB {X:Ty->List Br×Int} {ts:List Ty} {y:AV} (hy:BG y (AP ts)) (hl:ts.length<2 ^ 30) (hsz:∀t∈ts,size t<2 ^ 38) (hx:∀t∈ts,lZ R t (X t)):AL (env R) 47 [y] λr=>r=BB (ts.all λt=>FD (X t)):=by
 obtain⟨y',h1,h2⟩:=hy.closed [] 0;exact AL.open (args':=[y']) (by rfl) (by rfl) rfl (by grind[AU]) (by simp[AU,h2.close]) (Kj h2 hl hsz hx)
end
theorem ACe {L:A3} {s:AM} {id:Nat} {cs:List AV} {K:AM->Prop} (hb:s.bs[id]?=some Z5) (hk:cs.length=5) (hro:L.ro<=id) (hok:cs.all A1=true) (hn:L.n0<=id) (h:K ⟨s.bs.set id cs,s.ts⟩):CR L s 5 (.ptr id 0) (.agg cs) K:=
 BZ hb hk rfl (by decide) hro hok (.inl hn) h
theorem ACf {B:List Ty} {p:Ty} (ht:Fm B.length p=true):∀b∈(IY B p).bounds,b∈B:=by
 intro b hb;have hb:b∈(KE B.length p []).2.map λx=>B.getD x oV:=hb
 grind[gW]
section
variable {R:RT}
theorem ACg (hn:NN R) {B:List Ty} (kY:B.length<=2 ^ 37) (hB:∀t∈B,size t<2 ^ 38/\RQ t=true) {ps:List Ty} (Li:ps.length<=32) (hps:∀p∈ps,size p<2 ^ 37/\Fm B.length p=true) {a:AV} (ha:BG a (AP (Bq ps))) {n e:Nat} {X:List (List AV)} {d:AV} (hX:X[e]?=some [d,AA 32]) (hd:BG d (AP B)) {oo:List (Nat×Nat)} {QR:QT}
  (hF:(ps.map (IY B)).all Uj=false->∀bs tk,Bj ⟨bs,tk⟩->bs.take n=X->n<=bs.length->ES (.AB []) (.AB []) oo tk->QR (.tuple [.AB [],AA 4]) ⟨bs,tk⟩)
  (hS:(ps.map (IY B)).all Uj=true->∀bs tk t7 t8,Bj ⟨bs,tk⟩->bs.take n=X->n<=bs.length->ES (.AB []) (.AB []) oo tk->MO n bs (ps.map (IY B)) t7->BG t8 (AP ((ps.map (IY B)).flatMap Br.bounds))->wD R 0 0 0 t7 t8 ⟨bs,tk⟩ QR) :
  ∀(j p:Nat) (bs:List (List AV)) (tk:List (Nat×Nat)) (t7 t8:AV),p+j=ps.length->Bj ⟨bs,tk⟩->bs.take n=X->n<=bs.length->MO n bs ((ps.take p).map (IY B)) t7->EM 0 tk 25 t8 (AP (((ps.take p).map (IY B)).flatMap Br.bounds))->((ps.take p).map (IY B)).all Uj=true->(((ps.take p).map (IY B)).flatMap Br.bounds).length<=6*p->ES (.AB []) (.AB []) oo tk->D2 t8 oo ->
   lg R 0 0 0 (.ptr e 0) t7 t8 a (AA ps.length) (AA p) ⟨bs,tk⟩ QR:=by
 intro j
 induction j with
 | zero=>
  intro p bs tk t7 t8 hi hs hT N4 h7 h8 hw hl6 hch hfr;refine AEX (A2 ?_);rw[BF (by omega)];rw[Cv (by omega)] at h7 h8 hw;exact BE (hS hw bs tk t7 t8 hs hT N4 hch h7 h8.A9)
 | succ j Et=>
  intro p bs tk t7 t8 hi hs hT N4 h7 h8 hw hl6 hch hfr;refine AEX (A2 ?_);rw[Aq (by omega)];obtain⟨c,hc⟩:∃c,ps[p]?=some c:=⟨_,Ap (by omega)⟩;have KD:=BA hc;obtain⟨c1,c2⟩:=hps c KD;have hrc:(Bq ps)[p]?=some (ren c):=by grind[Bf]
  have hrl:((Aa (ren c)).map AV.pv).length=4:=by grind[Ad]
  have hro:=Ct (ren c)
  have K6:Ab (bs.length+1) ((Aa (ren c)).map AV.pv)=true:=by
   obtain⟨k1,n1,i1,t1⟩:=ren c;rfl
  have Iv:=A5.Bu (ren c);have VZ:ps.take (p+1)=ps.take p++[c]:=by grind[List.take_add_one]
  refine BP (APN (CH ha (row:=Aa (ren c)) (by omega) (by grind[BJ]) (Ad _) (by omega) (Di (Bi ?_))));generalize (Aa (ren c)).map AV.pv=row at hrl hro K6 Iv;refine BZ (Am bs Z4) hrl rfl (by decide) (AK _) hro (.inl (AK _)) ?_;have e1:(bs++[Z4]).set bs.length row=bs++[row]:=by simp
  rw[e1];have hs1:Bj ⟨bs++[row],tk⟩:=Bj.app (s:=⟨bs,tk⟩) hs K6;have gr:=Am bs row;have eG:=(Gb N4 row).trans hT;have lb:(bs++[row]).length=bs.length+1:=by simp
  have h71:MO n (bs++[row]) ((ps.take p).map (IY B)) t7:=h7.mono (AN _) λj c _ hj=>Ah hj _
  generalize bs++[row]=b1 at hs1 gr eG lb h71;have gE1:b1[e]?=some [d,AA 32]:=D7 eG hX;obtain⟨w,s',⟨Sj,r1,r2,rfl⟩,r3⟩:=Q5 (R:=R) hn (L:=Cu (env R) 14 0 0 0) (p:=c) (s:=⟨b1,tk⟩) (by omega) hB (by omega) c2 Iv hs1 gE1 hd rfl rfl;refine Af gr hrl ⟨_,_,r3,?_⟩;obtain⟨rw5,rfl⟩:=r1.agg;obtain⟨q1,q2,q3⟩:=r1.cells;have h81:=r2.keep h8 (λ_ h=>by cases h);have vI:=hch.trans r2;refine Bi (ACe (Am b1 Z5) q1 (AK _) q2 (AK _) ?_);have e2:(b1++[Z5]).set b1.length rw5=b1++[rw5]:=by simp
  show EG _ ⟨(b1++[Z5]).set b1.length rw5,Sj⟩ _ _ _
  rw[e2];have hs2:Bj ⟨b1++[rw5],Sj⟩:=Bj.app (s:=⟨b1,tk⟩) hs1 (q3 _);have g5:=Am b1 rw5;have R6:=(Gb (n:=n) (by omega) rw5).trans eG;have h72:MO n (b1++[rw5]) ((ps.take p).map (IY B)) t7:=h71.mono (AN _) λj c _ hj=>Ah hj _
  have lb2:(b1++[rw5]).length=b1.length+1:=by simp
  have h7n:∀m,t7≠.ref b1.length 0 m 5:=by
   intro m h;rcases h71 with ⟨h1,_⟩|⟨id,rows,_,h1,h2,_⟩
   all_goals grind
  generalize b1++[rw5]=b2 at hs2 g5 R6 h72 lb2;have hsz:=b9 B c;have hcv:=Mu (IY B c).body;refine Af g5 q1 (AG (Nw (by omega) (by omega) (by omega) r1) ?_);rintro _ rfl;have ew:(decide ((IY B c).bounds.length<=6)&&decide ((Al (IY B c).body).length<=3))=Uj (IY B c):=rfl;rw[ew];refine nt ?_;cases hwc:Uj (IY B c) with
  | false=>
   grind[BP]
  | true=>
   have hb6:(IY B c).bounds.length<=6:=by grind
   obtain⟨a5,y5,hy5,ha5,_⟩:=id r1;cases hy5;refine BE (APO (Af g5 q1 (AKT r1 ⟨by decide,?_⟩)));have g5b:=Ah g5 (a5::y5);have hs3:Bj ⟨b2++[a5::y5],Sj⟩:=Bj.app (s:=⟨b2,Sj⟩) hs2 (q3 _);have h73:MO n (b2++[a5::y5]) ((ps.take p).map (IY B)) t7:=h72.mono (AN _) λj c _ hj=>Ah hj _
   refine AKU (s:=⟨b2++[a5::y5],Sj⟩) r1 (Am b2 _) h73 rfl (by grind) ?_ (by grind);intro a' bs' N3 M9 hb3 hb4 _;have hs4:=hb4 hs3;have g5c:=M9 b1.length _ h7n g5b
   have hT4:bs'.take n=X:=by
    rw[<-R6];refine Ia λj=>?_
    by_cases hj:j<n
    .rw[jT hj,jT hj]
     have hj2:j<b2.length:=by omega
     have h1:(b2++[a5::y5])[j]?=some b2[j]:=by rw[Cf hj2,Ap hj2]
     rw[M9 j _ (λm h=>by
      rcases h73 with ⟨h2,_⟩|⟨id,rows,h2,h3,_⟩
      all_goals grind) h1,Ap hj2]
    grind
   have APP:n<=bs'.length:=by omega
   refine AW (Ak g5c) (Ag (off:=0) g5c rfl ⟨by decide,JV (l:=(IY B c).bounds) h81 rfl (by omega) ha5 λt8' O5 x1 x2=>?_⟩);have sa:=BG.CQ (es:=(IY B c).bounds) ha5;refine⟨AW (Ak g5) (Ec _ _),AW (Ak g5b) (Ec _ _),Ag (off:=0) g5 rfl sa,Ag (off:=0) g5b rfl sa,APQ (CO (by omega) (by omega) ?_)⟩;have em:(ps.take (p+1)).map (IY B)=(ps.take p).map (IY B)++[IY B c]:=by grind
   have ef:((ps.take (p+1)).map (IY B)).flatMap Br.bounds=((ps.take p).map (IY B)).flatMap Br.bounds++(IY B c).bounds:=by grind
   have:=Et (p+1) bs' O5 a' t8' (by omega) hs4 hT4 APP (by grind) (by grind) (by rw[em,List.all_append,hw]; grind) (by grind) (vI.side x2 hfr) (hfr.WI x2 vI.1)
   grind
end
structure Fit (t:Ty):Prop where
 bws:Cc (bw t)
 wts:wt t<=2 ^ 27
 nbs:nb t<2 ^ 37
theorem Fit.sub {t b:Ty} (h:Fit t) (hb:VE t b):Fit b:=⟨DJ h.bws hb.bws,A6 hb.wts h.wts,XW hb.nbs h.nbs⟩
mutual
theorem I5:∀t:Ty,valid t=true->P3 t
 | .mk k n i ts,h=>by
  have hn:=LL h;simp only[valid,AD] at h;rw[P3];exact⟨by grind[U2],T3 ts h.2⟩
theorem T3:∀l:List Ty,Ar l=true->RN l
 | [],_=>trivial
 | t::l,h=>by
  simp only[Ar,AD] at h;rw[RN];exact⟨I5 t h.1,T3 l h.2⟩
end
mutual
theorem QN:∀t:Ty,valid t=true->ixs t=true
 | .mk k n i ts,h=>by
  have hv:=h;simp only[valid,AD] at h;rw[ixs,T4 ts h.2];cases h5:k==5 with
  | false=>rfl
  | true=>
   have:k=5:=by grind
   subst this;have h1:=EA hv;have h2:=Kf hv
   grind
theorem T4:∀l:List Ty,Ar l=true->oz l=true
 | [],_=>rfl
 | t::l,h=>by
  simp only[Ar,AD] at h;rw[oz,QN t h.1,T4 l h.2];rfl
end
theorem o6 {t:Ty} (h:valid t=true) (hc:BW 0 t=true):RQ t=true:=by
 have:=TZ [] t 0 h
 grind[DT]
section
variable {R:RT}
theorem T5 {t:Ty} (h:size t<2 ^ 60) (ho:P3 t) {x:AV} (hx:BM t x):AL (env R) 42 [x] λr=>r=AA (verdict t):=by
 obtain⟨x',h1,h2⟩:=hx.closed [] 0;exact AL.open (args':=[x']) (by rfl) (by rfl) rfl (by grind[AU]) (by simp[AU,h2.LN]) (NL h ho h2)
theorem T6 {t:Ty} (h:size t<2 ^ 18) (SQ:ixs t=true) {x:AV} (hx:BM t x):AL (env R) 43 [x] λr=>∃l:List Int,Av r (AY l)/\l.Pairwise (·<·)/\(∀w,w∈l<->w∈PU 0 t):=by
 obtain⟨x',h1,h2⟩:=hx.closed [] 0;exact AL.open (args':=[x']) (by rfl) (by rfl) rfl (by grind[AU]) (by simp[AU,h2.LN]) (NT h SQ h2)
structure XH (R:RT) (X:Ty->List Br×Int) (t:Ty) (r:Option (List Ty)) (B:List Ty):Prop where
 run:∀(e:Nat) (x:AV),BM t x->∀s,Bj s->Ui R e 32 44 [x] (r,B) [] s
 len:B.length<2 ^ 37
 bds:∀b∈B,size b<2 ^ 38/\RQ b=true
 few:∀ps,r=some ps->ps.length<=32
 pat:∀ps,r=some ps->∀p∈ps,size p<2 ^ 37/\Fm B.length p=true
 sub:∀ps,r=some ps->∀b∈(ps.map (IY B)).flatMap Br.bounds,size b<2 ^ 38/\lZ R b (X b)
def xO (X:Ty->List Br×Int) (r:Option (List Ty)) (B:List Ty):List Br×Int:=match r with
 | none=>([],4)
 | some ps=>bif (ps.map (IY B)).all Uj&&(((ps.map (IY B)).flatMap Br.bounds).all λb=>FD (X b)) then(ps.map (IY B),0) else([],4)
theorem Wk (hn:NN R) {X:Ty->List Br×Int} {t:Ty} {r:Option (List Ty)} {B:List Ty} (hsz:size t<2 ^ 60) (hok:P3 t) (H:verdict t=0->BW 0 t=true->XH R X t r B):lZ R t (bif !(verdict t==0)||!(BW 0 t) then([],2) else xO X r B):=by
 intro x hx s hs L hn0 hro GZ;have hv1:=T5 (R:=R) hsz hok hx;have hfv:=λh1 h2=>T6 (R:=R) (t:=t) h1 h2 hx
 have hxO:=hx;obtain⟨xc,rfl⟩:=hxO.agg;obtain⟨c1,c2,c3⟩:=hxO.cells;have hT0:(s.bs++[xc]).take s.bs.length=s.bs:=by simp
 have hs1:Bj ⟨s.bs++[xc],s.ts⟩:=Bj.app (s:=s) hs (c3 _);have g0:=Am s.bs xc
 have fail:∀(n:Int) (o:List Br×Int),o=([],n)->∀bs ts,Bj ⟨bs,ts⟩->bs.take s.bs.length=s.bs->s.bs.length<=bs.length->ES (.AB []) (.AB []) s.ts ts ->
   ∃a,(AV.tuple [.AB [],AA n])=.tuple [a,AA o.2]/\MO s.bs.length bs o.1 a/\bs.take s.bs.length=s.bs/\s.bs.length<=bs.length/\ES (.AB []) (.AB []) s.ts ts/\Bj ⟨bs,ts⟩:=by
  rintro n o rfl bs ts h1 h2 h3 h4;exact⟨_,rfl,.inl ⟨rfl,rfl⟩,h2,h3,h4,h1⟩
 refine m14 ?_;rw[hn0,hro,GZ];refine APR (CT (cs:=xc) rfl c2 (Af g0 c1 (AG hv1 ?_)));rintro _ rfl;refine Fl ?_;cases Su:verdict t==0 with
 | false=>
  have:(verdict t != 0)=true:=by grind
  rw[this];refine Cq (Cq (Cq (Cq (pk (BP ?_)))));exact fail 2 _ rfl _ _ hs1 hT0 (by simp) (ES.refl _ _)
 | true=>
  have:(verdict t != 0)=false:=by grind
  rw[this];obtain⟨hv,APS,AVo⟩:=ET (by simpa using Su);refine Ax (Af g0 c1 (Ax (AG (hfv (by omega) (QN t hv)) ?_)));rintro v ⟨fl,hfl,hsrt,hmem⟩;refine Ax (BI (n:=fl.length) (by rw[hfl.BN,CS]) (Ax (JS (pk ?_))));cases hc:BW 0 t with
  | false=>
   have hne:0<fl.length:=by
    rcases fl with _|⟨w,fl⟩
    .exfalso
     have:PU 0 t=[]:=by
      rcases hf:PU 0 t with _|⟨w,l⟩
      .rfl
      .have:=(hmem w).2 (by grind)
       grind
     grind[PA]
    simp
   rw[Aq (by omega)];refine BP ?_;exact fail 2 _ rfl _ _ hs1 hT0 (by simp) (ES.refl _ _)
  | true=>
   have APE:fl=[]:=by
    rcases fl with _|⟨w,fl⟩
    .rfl
    .exfalso
     have:=(hmem w).1 (by simp)
     grind[PA]
   subst APE;rw[BF (by simp)];simp only[N8,Ks,AE];have hH:=H (by simpa using Su) hc;refine BE (APT (NM (cs:=[.AB [],AA 32]) rfl (CT (cs:=[.AB [],AA 32]) rfl rfl ?_)));have gE:(s.bs++[xc]++[[.AB [],AA 32]])[s.bs.length+1]?=some [.AB [],AA 32]:=by simp
   have g02:=Ah g0 [.AB [],AA 32];have hs2:Bj ⟨s.bs++[xc]++[[.AB [],AA 32]],s.ts⟩:=Bj.app (s:=⟨s.bs++[xc],s.ts⟩) hs1 rfl;have hlen:(s.bs++[xc]++[[.AB [],AA 32]]).length=s.bs.length+2:=by simp
   have hX:(s.bs++[xc]++[[.AB [],AA 32]]).take (s.bs.length+2)=s.bs++[xc]++[[.AB [],AA 32]]:=Cv (by omega);have R6:(s.bs++[xc]++[[.AB [],AA 32]]).take s.bs.length=s.bs:=by simp
   have Ug:(s.bs++[xc]).length=s.bs.length+1:=by simp
   rw[Ug];generalize s.bs++[xc]++[[.AB [],AA 32]]=b2 at gE g02 hs2 hlen hX R6;obtain⟨w,s',⟨d',Sj,q1,q2,q3,rfl⟩,q4⟩:=hH.run (s.bs.length+1) (.agg xc) hxO ⟨b2,s.ts⟩ hs2 (Cu (env R) 14 0 0 0) (.AB []) rfl rfl gE (.inl rfl);refine Af g02 c1 ⟨_,_,q4,?_⟩;have hs3:Bj ⟨b2.set (s.bs.length+1) [d',AA ((32:Nat):Int)],Sj⟩:=Bj.set (s:=⟨b2,s.ts⟩) hs2 (by simp[Ab,Ai,q2.A9.Ai]) _;have hT3:(b2.set (s.bs.length+1) [d',AA ((32:Nat):Int)]).take s.bs.length=s.bs:=(DV (by omega)).trans R6;have gE3:(b2.set (s.bs.length+1) [d',AA ((32:Nat):Int)])[s.bs.length+1]?=some [d',AA ((32:Nat):Int)]:=Be gE;have qV:(b2.set (s.bs.length+1) [d',AA ((32:Nat):Int)]).length=s.bs.length+2:=by grind
   have hch:ES (.AB []) (.AB []) s.ts Sj:=by
    obtain⟨h1,h2,h3⟩:=q3;exact⟨h1,λt ht _=>h2 t ht (λh=>by cases h),.inl rfl⟩
   generalize b2.set (s.bs.length+1) [d',AA ((32:Nat):Int)]=b3 at hs3 hT3 gE3 qV;cases r with
   | none=>
    cases q1;exact CC rfl (CC rfl (nt (BP (fail 4 _ rfl b3 Sj hs3 hT3 (by omega) hch))))
   | some ps=>
    obtain⟨ya,rfl,Yr⟩:=q1;simp only at q2;have Li:=hH.few ps rfl;have hps:=hH.pat ps rfl;have hB:=hH.bds;refine CC rfl (CC rfl (nt (BE (APU (BI (n:=ps.length) (by rw[Yr.BN,AR,Bf,Bn]) ?_)))));have hBb:=hH.len;refine ACg hn (n:=s.bs.length+2) (X:=b3) (by omega) hB Li hps Yr gE3 q2.A9 (oo:=Sj) ?_ ?_ ps.length 0 b3 Sj (.AB []) (.AB []) (by omega) hs3 (Cv (by omega)) (by omega) (.inl ⟨rfl,rfl⟩) (.inl rfl) rfl (by simp) (ES.refl _ _) (D2.AB _ _)
    .intro hall bs tk h1 h2 h3 h4
     have h5:bs.take s.bs.length=s.bs:=by grind
     refine fail 4 _ ?_ bs tk h1 h5 (by omega) (hch.trans h4)
     grind[xO]
    .intro hall bs tk t7 t8 h1 h2 h3 h4 h6 h7
     have h5:bs.take s.bs.length=s.bs:=by grind
     have hbm:=hH.sub ps rfl
     have hfl:((ps.map (IY B)).flatMap Br.bounds).length<=6*32:=by
      have:∀l:List Br,l.all Uj=true->(l.flatMap Br.bounds).length<=6*l.length:=by
       intro l
       induction l with
       | nil=>simp
       | cons b l ihl=>
        grind[Uj]
      grind
     refine APV (AG (PB (X:=X) h7 (by omega) (λb hb=>(hbm b hb).1) (λb hb=>(hbm b hb).2)) ?_);rintro _ rfl;refine nt ?_;cases J9:(((ps.map (IY B)).flatMap Br.bounds).all λb=>FD (X b)) with
     | false=>
      refine BP (fail 4 _ ?_ bs tk h1 h5 (by omega) (hch.trans h4))
      grind[xO]
     | true=>
      refine BE (APW ?_);simp only[xO,hall,J9,Fw,AH];exact⟨t7,rfl,h6.mono (by omega) λj c _ h=>h,h5,by omega,hch.trans h4,h1⟩
theorem T7 (hn:NN R):∀(f:Nat) (t:Ty),depth t<=f->size t<2 ^ 60->P3 t->(verdict t=0->Fit t)->lZ R t (xP f t):=by
 intro f
 induction f with
 | zero=>
  intro t hd;obtain⟨k,n,i,ts⟩:=t
  grind[depth]
 | succ f ih=>
  intro t hd hsz hok hfit;have ho:=Wk (R:=R) hn (X:=xP f) (t:=t) (r:=(Ao (Ac 32) (depth t) t []).1) (B:=(Ao (Ac 32) (depth t) t []).2) hsz hok ?_
  .rw[xP]
   revert ho;rcases Ao (Ac 32) (depth t) t [] with ⟨_|ps,B⟩
   .exact λho=>ho
   .exact λho=>ho
  intro Su hc;obtain⟨hv,APS,AVo⟩:=ET Su;have hft:=hfit Su;have wE:=λ(e:Nat)=>MM (R:=R) hn (e:=e) (Aj:=32) (M:=nb t) (by decide) (by decide) hft.nbs (depth t) t [] (AN _) hv hc (XW hft.wts (by decide)) (by omega) [] (λx hx=>by grind)
  have hnb:=ACU (depth t) t [] [] hv hc hft.bws (λx hx=>by grind);have hall:=IC (Au:=Ac 32) (depth t) t [] (nb t) (qM (nb t));have hbd:=Nt (f:=depth t) hv hc;have P9:=Kb (Au:=Ac 32) (by rfl) (depth t) t [];rw[DT hv hc] at wE hnb;rw[I4 t hv] at wE
  have hU:Ej (λi=>qM (nb t) i&&decide (i<(([]:List Ty).length:Nat))) t=true:=by
   have:=II (q:=λi=>qM (nb t) i&&decide (i<(([]:List Ty).length:Nat))) (σ:=[]) (λx hx=>by grind) t 0 hv
   grind[DT]
  rcases he:Ao (Ac 32) (depth t) t [] with ⟨r,B⟩
  rw[he] at wE hnb hall hbd P9;simp only[Ce,Cg] at hnb;simp only at wE hall hbd P9
  have hB:∀b∈B,size b<2 ^ 38/\RQ b=true:=by
   intro b hb;have h1:=hbd b hb;exact⟨by have:=h1.NR; omega,o6 h1.val h1.cl⟩
  have hpt:∀ps,r=some ps->∀p∈ps,size p<2 ^ 37/\Fm B.length p=true:=by
   rintro ps rfl p hp;obtain⟨h1,h2⟩:=hall ps (λi h1 h2=>by grind) hU rfl hnb p hp;refine⟨by have:=hft.wts; omega,?_⟩
   obtain⟨h3,_⟩:=IC (Au:=Ac 32) (depth t) t [] B.length (qM B.length) ps (λi h1 h2=>by grind) (by
    have:=II (q:=λi=>qM B.length i&&decide (i<(([]:List Ty).length:Nat))) (σ:=[]) (λx hx=>by grind) t 0 hv
    grind[DT]) (by rw[he]) (by grind) p hp
   rw[Mt];exact h3
  refine⟨λe=>wE e hnb,XW hnb hft.nbs,hB,λps hps=>by grind,hpt,?_⟩
  .rintro ps rfl b hb
   have h8:VE t b:=by
    obtain⟨br,Wj,hb⟩:=OE.1 hb;obtain⟨p,hp,rfl⟩:=Cp.1 Wj;have:=(hpt ps rfl p hp).2
    grind[ACf]
   exact⟨by have:=h8.NR; omega,ih b (by have:=h8.dep; omega) (by have:=h8.NR; omega) (I5 b h8.val) (λ_=>hft.sub h8)⟩
end
mutual
def vOk:Ty->Bool
 | .mk k n i ts=>bif k==5 then n==[]&&(ts.isEmpty&&(decide (-(2 ^ 60)<=i)&&decide (i<2 ^ 60))) else bif k==2||k==3 then o7 ts else true
def o7:List Ty->Bool
 | []=>true
 | t::l=>vOk t&&o7 l
end
theorem ACj {n:List UInt8} {i:Int} {ts:List Ty} (h:vOk (.mk 5 n i ts)=true):n=[]/\ts=[]/\-(2 ^ 60)<=i/\i<2 ^ 60:=by grind[vOk]
theorem cW (f:Int->Ty):∀l:List Ty,BU f l=l.map (BR f)
 | []=>rfl
 | t::l=>by rw[BU,cW f l]; rfl
section
variable {R:RT}
theorem PC (i:Int):AL (env R) 25 [AA i] λr=>r=.agg [AA 5,SS [],AA i,.AB []]:=by
 refine e25 (u0:=AA i) (by simp) (APX (Bi (NM (cs:=[AA 5,SS [],AA i,.AB []]) rfl ?_)));refine BZ (old:=Z4) rfl rfl rfl (by decide) (AK _) rfl (.inl (AK _)) (Af (cs:=[AA 5,SS [],AA i,.AB []]) rfl rfl ?_);exact⟨_,by simp,rfl⟩
theorem ACk (i:Int):A5 (var i) (.agg [AA 5,SS [],AA i,.AB []]):=⟨_,rfl,.AB _⟩
theorem QO {s:AM} {id:Nat} {t:Ty} {cs old:List AV} {Post:AV->Prop} (h1:s.bs[id]?=some old) (ho:old.length=4) (hr:BM t (.agg cs)) (hP:∀r,A5 t r->Post r) {f:FuncId} :
  CR (Cu (env R) f 0 0 0) s 4 (.ptr id 0) (.agg cs) λs1=>EG (env R) s1 (some 4) (.ptr id 0) λr=>QP Post r s1:=by
 obtain⟨c1,c2,c3⟩:=hr.cells;refine BZ h1 c1 ho (by decide) (AK _) c2 (.inl (AK _)) (Af (Be h1) c1 ?_);obtain⟨r,h3,h4⟩:=hr.closed (s.bs.set id cs) 0;exact⟨r,h3,hP r h4⟩
theorem ACl {ts:List Ty} {a:AV} (ha:Av a (AP ts)) (hl:ts.length<2 ^ 37) {k i n m:Int} {nm:List UInt8} {g:Ty->Ty} (ih:∀t∈ts,AL (env R) 82 [.agg ((Aa t).map .pv),AA n,AA m] λr=>A5 (g t) r) {Post:AV->Prop} (hP:∀r,A5 (.mk k nm i (ts.map g)) r->Post r) :
  ∀(j q:Nat) (s:AM) (b:AV),q+j=ts.length->s.bs[0]?=some [AA k,SS nm,AA i,a]->s.bs[1]?=some Z4->s.bs[2]?=some [AA k,SS nm,AA i,b]->EM 0 s.ts 25 b (AP ((ts.take q).map g)) ->
   lq R 0 0 0 (AA n) (AA m) (.ptr 0 0) (.ptr 1 0) (.ptr 2 0) (AA q) s (QP Post):=by
 intro j
 induction j with
 | zero=>
  intro q s b hi h0 h1 h2 hb;refine AEY (AW (Ak h0) (Ag (off:=3) h0 rfl (BI (n:=ts.length) (by rw[ha.BN,AR]) (A2 ?_))));rw[BF (by omega)];rw[Cv (by omega)] at hb;exact BE (APY (Af h2 rfl (QO h1 rfl (t:=.mk k nm i (ts.map g)) ⟨b,rfl,hb.A9⟩ hP)))
 | succ j Et=>
  intro q s b hi h0 h1 h2 hb;refine AEY (AW (Ak h0) (Ag (off:=3) h0 rfl (BI (n:=ts.length) (by rw[ha.BN,AR]) (A2 ?_))));rw[Aq (by omega)];obtain⟨t,ht⟩:∃t,ts[q]?=some t:=⟨_,Ap (by omega)⟩;refine BP (APZ (AW (Ak h2) (Ag (off:=3) h2 rfl (AW (Ak h0) (Ag (off:=3) h0 rfl (BO ha (row:=Aa t) (by omega) (by grind[BJ]) (Ad t) (by omega) (Di ?_)))))));refine AG (ih t (BA ht)) ?_;intro v hv;refine Gj hv.Km ⟨by decide,uq hb rfl (by grind) ?_⟩;intro b' Hx hb';have hqt:(ts.take q).map g++[g t]=(ts.take (q+1)).map g:=by grind[List.take_add_one]
  rw[hqt] at hb';refine AW (Ak h2) (Dr h2 (by simp) hb'.A9.cells (AK _) hb'.A9.ok (.inl (AK _)) ?_);refine⟨AW (Ak h2) (Ec _ _),Ag (off:=3) h2 rfl (IG hb),APa (CO (by omega) (by omega) ?_)⟩;have:=Et (q+1) ⟨s.bs.set 2 [AA k,SS nm,AA i,b'],Hx⟩ b' (by omega) (Bm h0 (by decide)) (Bm h1 (by decide)) (Be h2) hb'
  grind
mutual
theorem RA (n m:Int):∀(t:Ty),size t<2 ^ 37->vOk t=true->∀(x:AV),A5 t x->AL (env R) 82 [x,AA n,AA m] λr=>A5 (LC n m t) r
 | .mk k nm i ts,h,hv,x,hx=>by
  obtain⟨a,rfl,ha⟩:=hx;simp only[size] at h;have hln:=Bk ts
  suffices H:∀Post:AV->Prop,(∀r,A5 (LC n m (.mk k nm i ts)) r->Post r)->wG R 0 0 0 (.agg [AA k,SS nm,AA i,a]) (AA n) (AA m) ⟨[],[]⟩ (QP Post) from
   e82 (u0:=.agg [AA k,SS nm,AA i,a]) (u1:=AA n) (u2:=AA m) (by simp[ha.close]) (H _ λr h=>h)
  intro Post hP;refine APb (CT (cs:=[AA k,SS nm,AA i,a]) rfl (by simp[ha.ok]) (Bi ?_));simp only[ED,Ce,Eu,CI,Cg];have g0:(AM.mk [[AA k,SS nm,AA i,a],Z4] []).bs[0]?=some [AA k,SS nm,AA i,a]:=rfl;have g1:(AM.mk [[AA k,SS nm,AA i,a],Z4] []).bs[1]?=some Z4:=rfl;refine AW (Ak g0) (Ag (off:=0) g0 rfl (Bd ?_));cases h5:(k==5) with
  | true=>
   have:k=5:=by grind
   subst this;obtain⟨rfl,rfl,_,_⟩:=ACj hv;rw[LC,BR] at hP;refine BP (AW (Ak g0) (Ag (off:=2) g0 rfl (Bd ?_)));cases hin:(i==n) with
   | true=>
    rw[hin] at hP;refine BP (AG (PC m) ?_);rintro _ rfl;exact QO g1 rfl (t:=var m) (ACk m).Km hP
   | false=>
    rw[hin] at hP;exact BE (APc (Af g0 rfl (QO g1 rfl (t:=var i) ⟨a,rfl,.inl ha⟩ hP)))
  | false=>
   rw[vOk,h5] at hv;simp only[AE] at hv;rw[LC,BR,h5] at hP;simp only[AE] at hP;refine BE (APd (AW (Ak g0) (Ag (off:=0) g0 rfl (Fl ?_))))
   have copy:(k==2||k==3)=true->wJ R 0 0 0 (AA n) (AA m) (.ptr 0 0) (.ptr 1 0) ⟨[[AA k,SS nm,AA i,a],Z4],[]⟩ (QP Post):=by
    intro hk;rw[hk] at hv hP;simp only[AH,cW] at hv hP;refine APe (Af g0 rfl (Bi (BZ (Am _ _) rfl rfl (by decide) (AK _) (by simp[ha.ok]) (.inl (AK _)) ?_)))
    show BD ⟨[[AA k,SS nm,AA i,a],Z4,[AA k,SS nm,AA i,a]],[]⟩ _ _ _
    have g2:(AM.mk [[AA k,SS nm,AA i,a],Z4,[AA k,SS nm,AA i,a]] []).bs[2]?=some [AA k,SS nm,AA i,a]:=rfl;refine AW (Ak g2) (Dr (off:=3) g2 (by simp) rfl (AK _) rfl (.inl (AK _)) ?_);exact ACl (g:=LC n m) ha (by omega) (PD n m ts (by omega) hv) (λr h=>hP r h) ts.length 0 _ (.AB []) (by omega) rfl rfl rfl (.inl rfl)
   cases h3:(k==3) with
   | true=>
    simp_all
   | false=>
    have:(k != 3)=true:=by grind
    rw[this];refine Ax (AW (Ak g0) (Ax (Ag (off:=0) g0 rfl (Ax (Fl (pk ?_))))));cases h2:(k==2) with
    | true=>
     simp_all
    | false=>
     have:(k != 2)=true:=by grind
     simp only[this,AH];rw[h2,h3] at hP;exact BP (Af g0 rfl (QO g1 rfl (t:=.mk k nm i ts) ⟨a,rfl,.inl ha⟩ hP))
theorem PD (n m:Int):∀(l:List Ty),AQ l<2 ^ 37->o7 l=true->∀t∈l,AL (env R) 82 [.agg ((Aa t).map .pv),AA n,AA m] λr=>A5 (LC n m t) r
 | [],_,_,_,h=>by cases h
 | e::l,h,hv,t,hm=>by
  simp only[AQ] at h;simp only[o7,AD] at hv;rcases Az.1 hm with h' | h'
  .rw[h']
   exact RA n m e (by omega) hv.1 _ (A5.Bu e)
  .exact PD n m l (by omega) hv.2 t h'
end
end
mutual
def rcI (b:Ty):Ty->Int->Ty
 | .mk c n i ts,k=>bif c==5 then(bif k==0 then b else .mk c n i ts) else bif c==3 then .mk c n i (APf b ts k) else .mk c n i ts
def APf (b:Ty):List Ty->Int->List Ty
 | [],_=>[]
 | t::l,k=>rcI b t k::APf b l (k-(Al t).length)
end
theorem iG {t:Ty} {cs:List AV} (h:BM t (.agg cs)):Tel.CQ (.agg cs) (.agg cs)=true:=by
 obtain⟨k,n,i,ts⟩:=t;obtain⟨a,he,ha⟩:=h
 grind[BG.CQ,Tel.CQ,Kz,PX,F5,Ht]
theorem VH {E:Env} {s:AM} {id:Nat} {a:AV} {cs:List AV} {K:AV->Prop} (hb:s.bs[id]?=some (a::cs)) (hk:cs.length=4) (h:K (.agg cs)):EG E s (some 4) (.ptr id (0+1)) K:=Yh hb hk h
section
variable {R:RT}
theorem PE (n m:Int) {t:Ty} (h:size t<2 ^ 37) (hv:vOk t=true) {x:AV} (hx:BM t x):AL (env R) 82 [x,AA n,AA m] λr=>A5 (LC n m t) r:=by
 obtain⟨x',h1,h2⟩:=hx.closed [] 0;exact AL.open (args':=[x',AA n,AA m]) (by rfl) (by rfl) rfl (by simp[*]) (by simp[AU,h2.LN,Tel.close]) (RA n m t h hv x' h2)
theorem D3.Mr {b:Br} {row:List AV} (h:D3 b (.agg row)) (bs:List (List AV)) (n m:Nat):∃r',AU bs n m row=some r'/\D3 b (.agg r'):=by
 obtain⟨a,y,he,ha,ht⟩:=h;cases he;obtain⟨a',h1,h2⟩:=ha.close bs n m;obtain⟨y',h3,h4⟩:=ht.Mr bs n m;exact⟨a'::y',by simp[*],a',y',rfl,h2,h4⟩
end
theorem MO.block {lo:Nat} {s:AM} {l:List Br} {id:Nat} {rows:List (List AV)} (h2:s.bs[id]?=some rows.flatten) (h3:CG (λb row=>D3 b (.agg row)) l rows) (h4:l≠[]):∃c cs,rows.flatten=c::cs/\(c::cs).length=l.length*5/\(c::cs).all A1=true/\(∀n,Ab n (c::cs)=true)/\alive s id=true:=by
 obtain⟨c1,c2,c3⟩:=Mv h3
 have:rows.flatten≠[]:=by
  intro h;rw[h] at c1;cases l with
  | nil=>grind
  | cons _ _=>grind
 obtain⟨c,r,hc⟩:=Mc this
 grind[Ak]
theorem Y3 {R:RT} {s:AM} {lo p:Nat} {l:List Br} {y:AV} {c:Br} (hy:MO lo s.bs l y) (hc:l[p]?=some c) {K:AV->Prop} (hK:∀row,D3 c (.agg row)->K (.agg row)):Cl s 5 y (AA p) λa=>EG (env R) s (some 5) a K:=by
 rcases hy with ⟨rfl,rfl⟩|⟨id,rows,h1,rfl,h2,h3,h4⟩
 .grind
 .obtain⟨_,_,_,_,_,_,hal⟩:=MO.block (lo:=lo) h2 h3 h4
  have hp:p<l.length:=(BL.1 hc).1;refine⟨⟨by omega,by omega,rfl,hal⟩,?_⟩;simp only[EG,h2,wO,DQ,xL,xM,xF,xG]
  have gen:∀(l:List Br) (rows:List (List AV)) (p:Nat) (c:Br),CG (λb row=>D3 b (.agg row)) l rows->l[p]?=some c->∃row,D3 c (.agg row)/\p*5+5<=rows.flatten.length/\(rows.flatten.drop (p*5)).take 5=row:=by
   intro l
   induction l with
   | nil=>simp
   | cons b l ih=>
    intro rows p c h hc;cases rows with
    | nil=>exact h.elim
    | cons row rows=>
     obtain⟨h1,h2⟩:=h;obtain⟨c1,_,_⟩:=h1.cells;cases p with
     | zero=>
      grind
     | succ p=>
      obtain⟨row',i1,i2,i3⟩:=ih rows p c h2 (by grind);refine⟨row',i1,by grind,?_⟩;have e5:(p+1)*5=row.length+p*5:=by omega
      simp[*,List.drop_append,Cj]
  grind
end Go.Proofs.YtpgfpakdnijngaaGreatDoor
