/-
  Expand, as functions of terms; the program's bounds are those of the term.
-/
import Derived.Test.YtpgfpakdnijngaaGreatDoorTD
import Derived.Test.YtpgfpakdnijngaaGreatDoorTB
import Derived.Test.YtpgfpakdnijngaaGreatDoorW1
set_option linter.unusedSimpArgs false
set_option linter.unusedVariables false
namespace Go.Proofs.YtpgfpakdnijngaaGreatDoor
open Go.Tel
mutual
theorem QU:∀ t:Ty,(Ap t).length<=size t
 | .mk k n i ts=>by
  have:=Tc ts;rw[Ap,size];cases k==5 with
  | true=>simp
  | false=>cases k==3 <;> simp <;> omega
theorem Tc:∀ l:List Ty,(CQ l).length<=Ac l
 | []=>by simp[CQ]
 | t::l=>by
  have:=QU t;have:=Tc l;rw[CQ,Ac,Ab];omega
end
mutual
theorem bE (N:Nat):∀ (t:Ty) (o:List Nat),size (Lb N t o).1<=size t
 | .mk k n i ts,o=>by
  have:=WB N ts o;rw[Lb];cases k==7&&decide (i<N) with
  | true=>
   simp only[AE];split <;> simp[size,Ac]
  | false=>
   simp only[AB,size];omega
theorem WB (N:Nat):∀ (l:List Ty) (o:List Nat),Ac (Gy N l o).1<=Ac l
 | [],_=>by simp[Gy,Ac]
 | t::l,o=>by
  have h1:=bE N t o;have h2:=WB N l (Lb N t o).2;rw[Gy];simp only[Ac];omega
end
theorem rG (B:List Ty) (p:Ty):size (KH B p).body<=size p/\(KH B p).bounds.length<=size p:=by
 have h1:=bE B.length p [];have h2:=R2 B.length p [];refine⟨h1,?_⟩;rw[KH];simpa using h2
def jg (b:Br):Bool:=decide (b.bounds.length<=6)&&decide ((Ap b.body).length<=3)
def HS (o:List Br×Int):Bool:=o.2==0&&decide (o.1.length<=4)
def xP:Nat->Ty->List Br×Int
 | 0,_=>([],2)
 | f+1,t=>bif !(verdict t==0)||!(Dg 0 t) then([],2) else match Aj (AR 32) (depth t) t [] with
  | (none,_)=>([],4)
  | (some ps,B)=>bif (ps.map (KH B)).all jg&&(((ps.map (KH B)).flatMap Br.bounds).all fun b=>HS (xP f b)) then(ps.map (KH B),0) else([],4)
def xR:Nat->Ty->List Br×Int
 | 0,_=>([],2)
 | f+1,t=>bif !(verdict t==0)||!(Dg 0 t) then([],2) else match Gi (AR 32) (depth t) t with
  | none=>([],4)
  | some l=>bif (l.map N1).all fun b=>jg b&&b.bounds.all fun b=>HS (xR f b) then(l.map N1,0) else([],4)
theorem Jm {t:Ty} (h:verdict t=0):valid t=true/\size t<=200/\depth t<=12:=by
 unfold verdict at h;cases h1:decide (200<size t)||decide (12<depth t) with
 | true=>rw[h1] at h; cases h
 | false=>
  rw[h1] at h;simp only[FM,decide_eq_false_iff_not] at h1;cases h2:valid t with
  | false=>rw[h2] at h; cases h
  | true=>exact⟨rfl,by omega,by omega⟩
mutual
def EG (P:Ty->Prop):Ty->Prop
 | .mk k _ _ ts=>(k=6->∀ b body,ts=[b,body]->P b)/\(k=3\/k=4\/k=6->Mc P ts)
def Mc (P:Ty->Prop):List Ty->Prop
 | []=>True
 | t::l=>EG P t/\Mc P l
end
theorem WC {P:Ty->Prop}:∀ {l:List Ty} {t:Ty},Mc P l->t∈l->EG P t
 | a::l,t,h,ht=>by
  rw[Mc] at h;rcases Av.1 ht with rfl|ht
  ·exact h.1
  ·exact WC h.2 ht
mutual
theorem WD {P Q:Ty->Prop} (h:∀ b,P b->Q b):∀ t:Ty,EG P t->EG Q t
 | .mk k n i ts,ht=>by
  rw[EG] at ht ⊢;exact⟨fun h6 b body e=>h b (ht.1 h6 b body e),fun hk=>Td h ts (ht.2 hk)⟩
theorem Td {P Q:Ty->Prop} (h:∀ b,P b->Q b):∀ l:List Ty,Mc P l->Mc Q l
 | [],_=>trivial
 | t::l,hl=>by
  rw[Mc] at hl ⊢;exact⟨WD h t hl.1,Td h l hl.2⟩
end
def G7 (P:Ty->Prop) (ex:List Ty->GF):Prop:=∀ B,(∀ b∈B,P b)->∀ b∈(ex B).2,P b
section
variable {Ai:Nat->Bool} {P:Ty->Prop}
theorem QV {α:Type} {g:α->List Ty->GF} (hg:∀ a,G7 P (g a)):∀ (l:List α) (out:List Ty),G7 P (CN Ai g l out)
 | [],out,B,h=>h
 | a::l,out,B,h=>by
  have h1:=hg a B h;rw[CN];rcases hr:g a B with ⟨_|r,B1⟩
  ·rw[hr] at h1
   exact h1
  ·rw[hr] at h1
   simp only;cases Ai (out++r).length with
   | true=>exact h1
   | false=>exact QV hg l _ B1 h1
theorem Te {ex:List Ty->GF} (hx:G7 P ex) (v:Nat):∀ (f:Nat) (t:Ty),G7 P (B8 Ai ex v f t)
 | 0,_,B,h=>h
 | f+1,t,B,h=>by
  have h1:=hx B h;rw[B8];cases C6 v false t with
  | false=>exact h
  | true=>
   simp only[AE];rcases hr:ex B with ⟨_|r,B1⟩
   ·rw[hr] at h1
    exact h1
   ·rw[hr] at h1
    exact QV (fun c=>Te hx v f _) r [] B1 h1
theorem fG {ex:List Ty->GF} (hx:G7 P ex) (v:Nat) (t:Ty):G7 P (BX Ai ex v t):=by
 intro B h;rw[BX];cases C6 v true t with
 | true=>exact h
 | false=>exact Te hx v _ t B h
theorem QW {ex:Ty->List Ty->GF}:∀ (l out:List Ty) (ok:Bool),(∀ t∈l,G7 P (ex t))->∀ B,(∀ b∈B,P b)->∀ b∈(FH ex l out ok B).2,P b
 | [],_,_,_,_,h=>h
 | t::l,out,ok,hx,B,h=>by
  have h1:=hx t (by simp) B h;rw[FH];rcases hr:ex t B with ⟨_|r,B1⟩
  ·rw[hr] at h1
   exact QW l out false (fun a ha=>hx a (by simp[ha])) B1 h1
  ·rw[hr] at h1
   exact QW l _ ok (fun a ha=>hx a (by simp[ha])) B1 h1
theorem WE {ex:Ty->List Ty->GF}:∀ (l:List Ty) (out:List (List Ty)),(∀ t∈l,G7 P (ex t))->∀ B,(∀ b∈B,P b)->∀ b∈(Er ex l out B).2,P b
 | [],_,_,_,h=>h
 | t::l,out,hx,B,h=>by
  have h1:=hx t (by simp) B h;rw[Er];rcases hr:ex t B with ⟨_|r,B1⟩
  ·rw[hr] at h1
   exact h1
  ·rw[hr] at h1
   exact WE l _ (fun a ha=>hx a (by simp[ha])) B1 h1
theorem WG:∀ (f:Nat) (t:Ty) (σ:List Nat),valid t=true->Dg σ.length t=true->EG P t->G7 P (Aj Ai f (inst σ 0 t))
 | 0,_,_,_,_,_=>fun B h=>h
 | f+1,.mk k n i ts,σ,hv,hc,ha=>by
  intro B h;have ih:=fun t σ=>WG f t σ
  have P5:=hv;simp only[valid,AG] at hv;rw[EG] at ha
  have mem:∀ (hk:k≠6) (bF:k≠5),(k=3\/k=4\/k=6)->∀ t∈ts.map (inst σ 0),G7 P (Aj Ai f t):=by
   intro hk bF LS t ht;obtain⟨t0,Y6,rfl⟩:=Bb.1 ht;exact ih t0 σ (Cv hv.2 Y6) (Hz hk (EK hc bF) Y6) (WC (ha.2 LS) Y6)
  rcases D5 σ 0 P5 with ⟨rfl,rfl,rfl,_,_,⟨v,h2,h3⟩|h3⟩|⟨b5,h3⟩
  ·rw[h3,Aj]
   exact h
  ·rw[h3,Aj]
   exact h
  ·rw[h3,Aj]
   cases cj:k==0||k==2||k==7 with
   | true=>exact h
   | false=>
    simp only[AB];cases h4:k==4 with
    | true=>
     have:k=4:=by simpa using h4
     subst this;simp only[AE];rw[FB (k:=4) (by decide)];have:=QW (ts.map (inst σ 0)) [] true (mem (by decide) (by decide) (by simp)) B h;generalize FH (Aj Ai f) (ts.map (inst σ 0)) [] true B=o at this ⊢;obtain⟨⟨out,ok⟩,B1⟩:=o;exact this
    | false=>
     simp only[AB];cases LS:k==3 with
     | true=>
      have:k=3:=by simpa using LS
      subst this;simp only[AE];rw[FB (k:=3) (by decide)];have:=WE (ts.map (inst σ 0)) [] (mem (by decide) (by decide) (by simp)) B h;generalize Er (Aj Ai f) (ts.map (inst σ 0)) [] B=o at this ⊢;rcases o with ⟨_|ls,B1⟩
      ·exact this
      ·simp only
       cases ls.any List.isEmpty with
       | true=>exact this
       | false=>
        simp only[AB];cases DG Ai ls [[]] with
        | none=>exact this
        | some all=>exact this
     | false=>
      simp only[AB];cases Ux:k==6 with
      | false=>exact h
      | true=>
       have:k=6:=by simpa using Ux
       subst this;rcases O8 hv.1 with h' | h' | h' | h' | h' | h' | ⟨_,rfl,rfl,b,body,rfl,hcb⟩
       iterate 6 exact absurd h' (by simp)
       have hPb:=ha.1 rfl b body rfl;have U1:=ha.2 (by simp);rw[Mc,Mc] at U1;simp only[Bw,AG] at hv;obtain⟨_,RB,cy,_⟩:=hv;have eb:inst σ (0+HF 6 0) b=b:=JF σ b 0 RB hcb
       have rH:Dg (1+σ.length) body=true:=by
        have:=EK hc (by decide);simp only[Eg,AG] at this;have h2:=this.2.1;rw[Eb];exact h2
       have Uz:sub B.length 0 (inst σ 1 body)=inst (B.length::σ) 0 body:=Kq B.length σ body 0 cy (by simpa[Eb] using rH)
       have hkb:G7 P (Aj Ai f b):=by
        have:=ih b [] RB hcb U1.1;rwa [Ek RB hcb] at this
       have hky:=ih body (B.length::σ) cy (by rw[A3,Eb]; exact rH) U1.2.1;simp only[AE,C5,eb,Zn];have e1:inst σ (0+HF 6 (0+1)) body=inst σ 1 body:=rfl;rw[e1,Uz]
       have h1:=hky (B++[b]) (by
        intro x hx;rcases BL.1 hx with hx|hx
        ·exact h x hx
        ·rw[Bj.1 hx]
         exact hPb)
       generalize Aj Ai f (inst (B.length::σ) 0 body) (B++[b])=o at h1 ⊢;rcases o with ⟨_|l,B1⟩
       ·exact h1
       ·simp only at h1 ⊢
        have h2:=QV (Ai:=Ai) (g:=BX Ai (Aj Ai f b) B.length) (fun a=>fG hkb B.length a) l [] B1 h1;generalize CN Ai (BX Ai (Aj Ai f b) B.length) l [] B1=o at h2 ⊢;rcases o with ⟨_|out,B2⟩
        ·exact h2
        ·exact h2
end
section
variable {R:RT}
theorem zI (hn:TC R) {e Ao v M S f:Nat} {B0:List Ty} {q:Int->Bool} (hq:∀ i,q i=true->0<=i/\i<2 ^ 40) (JI:Ao<2 ^ 20) (hS:S<2 ^ 37) {ex:List Ty->GF} (fH:∀ B,B<+:(ex B).2)
  {t:Ty} (htq:Ev q t=true) (X5:0<BF (·==(v:Int)) t) (htS:size t<=S) {xc:List AV} (hx:Ba (ren t) (.agg xc)) {cs:List Ty} (Bu:cs.length<=Ao) {a:AV} (ha:BO a (AQ (Bx cs)))
  (ih:∀ c∈cs,∀ (B:List Ty),B0<+:B->(B8 (AR Ao) ex v f (KU (·==(v:Int)) c t 0) B).2.length<=M->∀ x,Ba (ren (KU (·==(v:Int)) c t 0)) x->∀ s,B9 s->WA R e Ao 114 [x,AD v] (B8 (AR Ao) ex v f (KU (·==(v:Int)) c t 0) B) B s)
  {s0:AK} (hs0:B9 s0) (he:e<s0.bs.length) {d0:AV} {o:GF} (Tf:o.2.length<=M) {rr:Bool} {Post:AV->AK->Prop}
  (hP:∀ w d' ts',xo w o.1->Ex 0 ts' 25 d' (AQ o.2)->Ew d0 d' s0.ts ts'->Post w ⟨s0.bs.set e [d',AD Ao],ts'⟩) :
  ∀ (j p:Nat) (out Bc:List Ty) (bs:List (List AV)) (tk:List (Nat×Nat)) (d acc:AV),p+j=cs.length->CN (AR Ao) (fun c B=>B8 (AR Ao) ex v f (KU (·==(v:Int)) c t 0) B) (cs.drop p) out Bc=o->B0<+:Bc->out.length<=Ao ->
   B9 ⟨bs,tk⟩->bs.take s0.bs.length=s0.bs.set e [d,AD Ao]->bs[s0.bs.length]?=some xc->bs[s0.bs.length+1]?=some [AD v] ->
   Ex 0 tk 25 d (AQ Bc)->Ex 0 tk 25 acc (AQ (Bx out))->Ew d0 d s0.ts tk->ES acc s0.ts->RR d acc ->
   YP R 0 0 0 (.ptr e 0) (.ptr s0.bs.length 0) (.ptr (s0.bs.length+1) 0) acc a (AD cs.length) (AD p) ⟨bs,tk⟩ (QM rr s0.bs.length Post):=by
 obtain⟨hx4,hxo,hxi⟩:=hx.cells;intro j
 induction j with
 | zero=>
  intro p out Bc bs tk d acc hi Dp hlo hout hs hT h0 h1 hd hacc hch hfr HX;refine rI (BE ?_);rw[A9 (by omega)];rw[Cf (by omega),CN] at Dp;subst Dp;exact BQ (AE6 (FE hs0 hT (hd.BG.Aa _) (r:=some out) ⟨acc,rfl,hacc.BG⟩ fun w hw=>hP w d tk hw hd hch))
 | succ j Gs=>
  intro p out Bc bs tk d acc hi Dp hlo hout hs hT h0 h1 hd hacc hch hfr HX;refine rI (BE ?_);rw[Au (by omega)];obtain⟨c,hc⟩:∃ c,cs[p]?=some c:=⟨_,Ak (by omega)⟩;have hrc:(Bx cs)[p]?=some (ren c):=by rw[Bf]; simp[hc]
  have Pv:=BK hc;have hrl:((Ah (ren c)).map AV.pv).length=4:=by rw[AZ,Am]
  have hro:=DZ (ren c)
  have L3:AU (bs.length+1) ((Ah (ren c)).map AV.pv)=true:=by
   obtain⟨k1,n1,i1,t1⟩:=ren c;simp[Ah,AU,Aa]
  have JJ:=Bp.Ci (ren c);refine BZ (AE7 (B7 ha (row:=Ah (ren c)) (by omega) (by simpa using CA hrc) (Am _) (by omega) (EU (Cj ?_))));have hdr:cs.drop p=c::cs.drop (p+1):=drop_cons hc;rw[hdr,CN] at Dp;generalize (Ah (ren c)).map AV.pv=row at hrl hro L3 JJ;refine Ck (Ay bs Z4) hrl rfl (by decide) (AM _) hro (.inl (AM _)) ?_;have e1:(bs++[Z4]).set bs.length row=bs++[row]:=by simp
  rw[e1];have l1:=(Ae.1 h1).1;have OH:s0.bs.length<=bs.length:=by omega
  refine Cj ?_;have ebl:(bs++[row]).length=bs.length+1:=by simp
  have gC:(bs++[row]++[[AD 0]])[bs.length+1]?=some [AD 0]:=by rw[<-ebl]; exact Ay _ _
  simp only[ebl];refine Fl gC (by decide) rfl (AM _) rfl (.inl (AM _)) ?_
  have e2:(bs++[row]++[[AD 0]]).set (bs.length+1) ([AD 0].set 0 (AD 0))=bs++[row]++[[AD 0]]:=by
   rw[<-ebl];simp
  show FA _ ⟨(bs++[row]++[[AD 0]]).set (bs.length+1) ([AD 0].set 0 (AD 0)),tk⟩ _ _ _
  rw[e2];have hs1:B9 ⟨bs++[row],tk⟩:=B9.app (s:=⟨bs,tk⟩) hs L3;have hs2:B9 ⟨bs++[row]++[[AD 0]],tk⟩:=B9.app (s:=⟨bs++[row],tk⟩) hs1 rfl;have g0:=A6 (A6 h0 row) [AD 0];have g1:=A6 (A6 h1 row) [AD 0];have gr:=A6 (Ay bs row) [AD 0];have RD:=(Gu (n:=s0.bs.length) (by simp; omega) [AD 0]).trans ((Gu OH row).trans hT);generalize hB2:bs++[row]++[[AD 0]]=b2 at gC hs2 g0 g1 gr RD;have lb2:b2.length=bs.length+2:=by rw[<-hB2]; simp
  refine Az g0 hx4 (Az gr hrl ?_);obtain⟨w1,s1',⟨Qo,ds,rfl,r1,r2,rfl⟩,r3⟩:=jf hn (N:=2 ^ 40) (AL _) (C:=bs.length+1) (V:=s0.bs.length+1) (v:=v) (by omega) (b:=c) JJ t (by omega) (by rw[M8]; exact Gf (fun i hi=>by have:=hq i hi; simp only[AG,BT]; exact⟨this.1,by omega⟩) t htq) (.agg xc) hx 0 ⟨b2,tk⟩ hs2 (by omega) (by omega) (Ca (env R) 114 0 0 0) rfl rfl gC g1;have ez:cx (·==(v:Int)) c t 0=KU (·==(v:Int)) c t 0:=qy (·==(v:Int)) c t 0 X5;rw[ez] at r1;have hs3:B9 ⟨b2.set (bs.length+1) [AD (0-BF (·==(v:Int)) t)],Qo⟩:=B9.set (s:=⟨b2,tk⟩) hs2 rfl _;have jh:(b2.set (bs.length+1) [AD (0-BF (·==(v:Int)) t)]).take s0.bs.length=s0.bs.set e [d,AD Ao]:=(Ff (by omega)).trans RD;have k0:(b2.set (bs.length+1) [AD (0-BF (·==(v:Int)) t)])[s0.bs.length]?=some xc:=Cs g0 (by omega);have k1:(b2.set (bs.length+1) [AD (0-BF (·==(v:Int)) t)])[s0.bs.length+1]?=some [AD v]:=Cs g1 (by omega);have gE:(s0.bs.set e [d,AD Ao])[e]?=some [d,AD Ao]:=by rw[EA he]
  refine⟨_,_,r3,Ax k1 rfl ?_⟩;have lb3:(b2.set (bs.length+1) [AD (0-BF (·==(v:Int)) t)]).length=bs.length+2:=by rw[List.length_set,lb2]
  generalize b2.set (bs.length+1) [AD (0-BF (·==(v:Int)) t)]=b3 at hs3 jh k0 k1 lb3;have hdk:=r2.keep hd (fun _ h=>by cases h);have AA6:=r2.keep hacc (fun _ h=>by cases h);have mE:=hch.side r2 (ES.AA _ _);have fI:=ih c Pv Bc hlo;have hlen:=H8 (Ai:=AR Ao) fH v f (KU (·==(v:Int)) c t 0) Bc;have hrb:=QS (Ao:=Ao) (ex:=ex) (v:=v) f (KU (·==(v:Int)) c t 0) Bc;have xp:∀ (l:List Ty) out B,B<+:(CN (AR Ao) (fun c B=>B8 (AR Ao) ex v f (KU (·==(v:Int)) c t 0) B) l out B).2:=fun l out B=>Ji (fun c B=>H8 fH v f _ B) l out B
  rcases hg:B8 (AR Ao) ex v f (KU (·==(v:Int)) c t 0) Bc with ⟨r,B1⟩
  rw[hg] at fI hlen hrb Dp;simp only at fI hlen hrb Dp
  have U2:B1.length<=M:=by
   cases r with
   | none=>simp only at Dp; subst Dp; exact Tf
   | some r=>
    simp only at Dp;cases hb:AR Ao (out++r).length with
    | true=>rw[hb] at Dp; simp only[AE] at Dp; subst Dp; exact Tf
    | false=>
     rw[hb] at Dp;simp only[AB] at Dp;have:=(xp (cs.drop (p+1)) (out++r) B1).length_le;rw[Dp] at this;omega
  obtain⟨w2,s2',⟨d2,N2,q1,q2,q3,rfl⟩,q4⟩:=fI U2 (.agg ds) r1 ⟨b3,Qo⟩ hs3 (Ca (env R) 114 0 0 0) d rfl rfl (Dh jh gE) hdk;have hT4:(b3.set e [d2,AD Ao]).take s0.bs.length=s0.bs.set e [d2,AD Ao]:=by rw[Gz (c:=[d2,AD Ao]) jh,E3]
  have kE:(b3.set e [d2,AD Ao])[e]?=some [d2,AD Ao]:=by rw[EA (by omega)]
  have K2:RR d2 acc:=HX.V7 q3 AA6;have Md:=q3.keep AA6 HX;have N4:=mE.trans q3;have heq:Tel.Cu (AD v) (AD v)=true:=by simp[Tel.Cu,VF,JE]
  cases r with
  | none=>
   cases q1;simp only at Dp;subst Dp;refine⟨_,_,q4,Bq rfl (Bq rfl ⟨Ax g1 rfl heq,by decide,Jl (l:=[]) Md rfl (by rw[Bf,AZ]; simp; omega) (.inl (.AA _)) fun acc' RE _ Rq=>?_⟩)⟩;exact nt (Bv (Bv (Bv (Bv (Bv (Bv (Bv (pk (BZ (FE hs0 hT4 (q2.BG.Aa _) (r:=none) rfl fun w hw=>hP w d2 RE hw (Rq.keep q2 K2.symm) (N4.side Rq hfr)))))))))))
  | some r=>
   obtain⟨a2,rfl,U1⟩:=q1;have AOq:=hrb r rfl;refine⟨_,_,q4,Bq rfl (Bq rfl ⟨Ax g1 rfl heq,by decide,Jl Md rfl (by rw[Bf,Bf,AZ,AZ]; omega) U1 fun acc' RE Ng Rq=>?_⟩)⟩;have er:Bx out++Bx r=Bx (out++r):=by simp[Bf]
   rw[er] at Ng;have zJ:=Rq.keep q2 K2.symm;have YQ:=N4.side Rq hfr;refine nt (A8 (b:=false) (A8 (b:=false) (BS (n:=(out++r).length) (by rw[Ng.BG.Bk,Ad,Bf,AZ]) (A8 (b:=false) (A8 (b:=false) (GG (A7 kE) (A8 (b:=false) (Aq (A7 kE) (A8 (b:=false) (Ax (off:=1) kE rfl (A8 (b:=false) (Je (pk ?_)))))))))))))
   have eb:decide (((out++r).length:Int)>(Ao:Nat))=AR Ao (out++r).length:=by
    simp only[AR];rw[C0];simp only[BT];omega
   rw[eb];simp only at Dp;cases hb:AR Ao (out++r).length with
   | true=>
    rw[hb] at Dp;simp only[AE] at Dp;subst Dp;exact BZ (FE hs0 hT4 (q2.BG.Aa _) (r:=none) rfl fun w hw=>hP w d2 RE hw zJ YQ)
   | false=>
    rw[hb] at Dp;simp only[AB] at Dp;refine BQ (AE8 (Cr (by omega) (by omega) ?_));have hs4:B9 ⟨b3.set e [d2,AD Ao],RE⟩:=B9.set (s:=⟨b3,Qo⟩) hs3 (by simp[AU,Aa,q2.BG.Aa]) _;have fin:=Gs (p+1) (out++r) B1 (b3.set e [d2,AD Ao]) RE d2 acc' (by omega) Dp (hlo.trans hlen) (by simpa using hb) hs4 hT4 (Cs k0 (by omega)) (Cs k1 (by omega)) zJ Ng YQ (hfr.V7 Rq (Bh mE.1 q3.1)) (K2.symm.V7 Rq q2).symm;simpa using fin
end
structure ExB (Ao v M W:Nat) (B0:List Ty) (q:Int->Bool) (ex:List Ty->GF):Prop where
 pre:∀ B,B<+:(ex B).2
 res:∀ B r,B0<+:B->(ex B).1=some r->(ex B).2.length<=M->r.length<=Ao/\∀ c∈r,Ev q c=true/\(∀ inv,C6 v inv c=false)/\BF (·==(v:Int)) c=0/\size c<=W/\pat c=true
section
variable {R:RT}
def mF (R:RT) (e Ao v M W S:Nat) (B0:List Ty) (q:Int->Bool) (ex:List Ty->GF) (f:Nat):Prop:=∀ (t:Ty),Ev q t=true->pat t=true->C6 v true t=false->BF (·==(v:Int)) t<=f->size t+BF (·==(v:Int)) t*W<=S->∀ (B:List Ty),B0<+:B->(B8 (AR Ao) ex v f t B).2.length<=M ->
 ∀ x,Ba (ren t) x->∀ s,B9 s->WA R e Ao 114 [x,AD v] (B8 (AR Ao) ex v f t B) B s
theorem ji (hn:TC R) {e Ao v M W S:Nat} {B0:List Ty} {q:Int->Bool} (hq:∀ i,q i=true->0<=i/\i<2 ^ 40) (JI:Ao<2 ^ 20) (hS:S<2 ^ 37) {ex:List Ty->GF} {b:Ty} (hx:ExB Ao v M W B0 q ex) (hv:B0[v]?=some b)
  (hex:∀ (B:List Ty) (s:AK),B9 s->B0<+:B->(ex B).2.length<=M->WA R e Ao 44 [.agg ((Ah b).map .pv)] (ex B) B s)
  {f:Nat} (hih:f=0\/∃ f',f=f'+1/\mF R e Ao v M W S B0 q ex f'):mF R e Ao v M W S B0 q ex f:=by
 intro t ht hp hoc hf htS B hB hM x wR s hs L d hro Fz hE hd;obtain⟨xc,rfl⟩:=wR.agg;obtain⟨hx4,hxo,hxi⟩:=wR.cells;have le:=(Ae.1 hE).1;have same:s.bs.set e [d,AD Ao]=s.bs:=by rw[<-(Ae.1 hE).2]; exact HJ _
 refine AOr (by simp[BN,Dl]) ?_;rw[hro,Fz];have g0:(s.bs++[xc,[AD v]])[s.bs.length]?=some xc:=Gj (j:=0) rfl rfl;have g1:(s.bs++[xc,[AD v]])[s.bs.length+1]?=some [AD v]:=Gj rfl rfl;have hT:(s.bs++[xc,[AD v]]).take s.bs.length=s.bs.set e [d,AD Ao]:=by rw[same]; simp
 have hok:B9 ⟨s.bs++[xc,[AD v]],s.ts⟩:=by
  intro c hc;simp only[BL,Av,Fs,FL] at hc
  show AU (s.bs++_).length c=true
  rcases hc with hc|rfl|rfl
  ·exact CZ (by simp) c (hs c hc)
  ·exact hxi _
  ·rfl
 refine AFA (DY (cs:=xc) rfl hxo (DY (cs:=[AD v]) rfl rfl ?_));simp only[DI,EZ,Di,Ab,A3,BV,CJ];generalize s.bs++[xc,[AD v]]=bs at g0 g1 hT hok;have dy:H6 (2 ^ 40) t=true:=by rw[M8]; exact Gf (fun i hi=>by have:=hq i hi; simp only[AG,BT]; exact⟨this.1,by omega⟩) t ht
 have gE:bs[e]?=some [d,AD Ao]:=Dh hT (by rw[EA le]);refine Az g0 hx4 (Ax g1 rfl (AI (PO hn (AL _) v t false (by omega) dy wR) ?_));rintro _ rfl;have AFB:=YE t hp hoc;rw[AFB]
 by_cases hc0:0<BF (·==(v:Int)) t
 ·obtain⟨f,rfl,ihf⟩:∃ f',f=f'+1/\mF R e Ao v M W S B0 q ex f':=by
   rcases hih with rfl|h
   ·omega
   ·exact h
  rw[B8,AFB,Au hc0] at hM ⊢;simp only[AE] at hM ⊢;have hBv:B[v]?=some b:=M3 hB hv;refine nt (BQ (AFC (GG (A7 gE) (Aq (A7 gE) (Ax (off:=0) gE rfl (Ax g1 rfl (B7 hd.BG (row:=Ah b) (by omega) (by simpa using CA hBv) (Am _) (by omega) (EU ?_))))))));have AFD:=hex B ⟨bs,s.ts⟩ hok hB;have hxB:=hx.res B;have hpre:=hx.pre B;have xp:∀ (l:List Ty) B,B<+:(CN (AR Ao) (fun c B=>B8 (AR Ao) ex v f (KU (·==(v:Int)) c t 0) B) l [] B).2:=fun l B=>Ji (fun c B=>H8 hx.pre v f _ B) l [] B
  rcases he:ex B with ⟨r,B1⟩
  rw[he] at hM AFD hxB hpre;simp only at hM AFD hxB hpre
  have hB1:B1.length<=M:=by
   cases r with
   | none=>exact hM
   | some cs=>exact Bh (xp cs B1).length_le hM
  obtain⟨w,s',⟨d1,Qo,q1,q2,q3,rfl⟩,q4⟩:=AFD hB1 (Ca (env R) 114 0 0 0) d rfl rfl gE hd;have YR:(bs.set e [d1,AD Ao]).take s.bs.length=s.bs.set e [d1,AD Ao]:=by rw[Gz (c:=[d1,AD Ao]) hT,E3]
  cases r with
  | none=>
   cases q1;exact⟨_,_,q4,Bq rfl (Bq rfl (nt (BZ (FE hs YR (q2.BG.Aa _) (r:=none) rfl fun w hw=>⟨d1,Qo,hw,q2,q3,rfl⟩))))⟩
  | some cs=>
   obtain⟨a,rfl,ha⟩:=q1;obtain⟨Bu,hcs⟩:=hxB cs hB rfl hB1;refine⟨_,_,q4,Bq rfl (Bq rfl (nt (BQ (AFF (BS (n:=cs.length) (by rw[ha.Bk,Ad,Bf,AZ]) ?_)))))⟩;simp only at hM ⊢
   refine zI hn (M:=M) (S:=S) (f:=f) (B0:=B0) hq JI hS hx.pre ht hc0 (by omega) wR Bu ha ?_ hs le hM (fun w d' ts' h1 h2 h3=>⟨d',ts',h1,h2,h3,rfl⟩) cs.length 0 [] B1 _ Qo d1 (.AA []) (by omega) rfl (hB.trans hpre) (AM _)
    (B9.set (s:=⟨bs,s.ts⟩) hok (by simp[AU,Aa,q2.BG.Aa]) _) YR (Cs g0 (by omega)) (Cs g1 (by omega)) q2 (.inl rfl) q3 (ES.AA _ _) (RR.AA _ _)
   intro c hc B' hB' Y3 x' hx' s' hs';obtain⟨c1,c2,c3,c4,c5⟩:=hcs c hc;obtain⟨r1,r2⟩:=Rx (b:=c) t 0 hc0
   have:BF (·==(v:Int)) t*W=BF (·==(v:Int)) (KU (·==(v:Int)) c t 0)*W+W:=by
    rw[<-FO];congr 1;omega
   exact ihf _ (TG c1 t 0 ht) (Rz c5 t 0 hp) (YF (c2 true) t 0 hoc) (by omega) (by omega) B' hB' Y3 x' hx' s' hs'
 ·have ef:B8 (AR Ao) ex v f t B=(some [t],B):=by
   cases f with
   | zero=>rfl
   | succ f=>rw[B8,AFB,A9 hc0]; rfl
  rw[ef,A9 hc0];refine nt (BZ (Az g0 hx4 (Iu wR ?_)));exact FE hs hT (hd.BG.Aa _) (r:=some [t]) ⟨.AA [Ah (ren t)],rfl,.inl (by simpa[Bx,AQ] using BP.AA [Ah (ren t)])⟩ fun w hw=>⟨d,s.ts,hw,hd,Ew.refl _ _,rfl⟩
theorem jk (hn:TC R) {e Ao v M W S:Nat} {B0:List Ty} {q:Int->Bool} (hq:∀ i,q i=true->0<=i/\i<2 ^ 40) (JI:Ao<2 ^ 20) (hS:S<2 ^ 37) {ex:List Ty->GF} {b:Ty} (hx:ExB Ao v M W B0 q ex) (hv:B0[v]?=some b)
  (hex:∀ (B:List Ty) (s:AK),B9 s->B0<+:B->(ex B).2.length<=M->WA R e Ao 44 [.agg ((Ah b).map .pv)] (ex B) B s):∀ f,mF R e Ao v M W S B0 q ex f
 | 0=>ji hn hq JI hS hx hv hex (.inl rfl)
 | f+1=>ji hn hq JI hS hx hv hex (.inr ⟨f,rfl,jk hn hq JI hS hx hv hex f⟩)
end
section
variable {R:RT}
theorem zK (hn:TC R) {e Ao v M W S:Nat} {B0:List Ty} {q:Int->Bool} (hq:∀ i,q i=true->0<=i/\i<2 ^ 40) (JI:Ao<2 ^ 20) (hS:S<2 ^ 37) {ex:List Ty->GF} (fH:∀ B,B<+:(ex B).2) {cs:List Ty} (Bu:cs.length<=Ao) {a:AV} (ha:BO a (AQ (Bx cs)))
  (hcs:∀ t∈cs,Ev q t=true/\pat t=true/\size t+BF (·==(v:Int)) t*W<=S) (ih:∀ f,mF R e Ao v M W S B0 q ex f)
  {s0:AK} (hs0:B9 s0) (he:e<s0.bs.length) {d0:AV} {o:GF} (Tf:o.2.length<=M) {rr:Bool} {Post:AV->AK->Prop}
  (hP:∀ w d' ts',xo w o.1->Ex 0 ts' 25 d' (AQ o.2)->Ew d0 d' s0.ts ts'->Post w ⟨s0.bs.set e [d',AD Ao],ts'⟩) :
  ∀ (j p:Nat) (out Bc:List Ty) (bs:List (List AV)) (tk:List (Nat×Nat)) (d acc:AV),p+j=cs.length->CN (AR Ao) (BX (AR Ao) ex v) (cs.drop p) out Bc=o->B0<+:Bc->out.length<=Ao ->
   B9 ⟨bs,tk⟩->bs.take s0.bs.length=s0.bs.set e [d,AD Ao]->s0.bs.length<=bs.length ->
   Ex 0 tk 25 d (AQ Bc)->Ex 0 tk 25 acc (AQ (Bx out))->Ew d0 d s0.ts tk->ES acc s0.ts->RR d acc ->
   jl R 0 0 0 (.ptr e 0) (AD v) acc a (AD cs.length) (AD p) ⟨bs,tk⟩ (QM rr s0.bs.length Post):=by
 intro j
 induction j with
 | zero=>
  intro p out Bc bs tk d acc hi Dp hlo hout hs hT OH hd hacc hch hfr HX;refine AA8 (BE ?_);rw[A9 (by omega)];rw[Cf (by omega),CN] at Dp;subst Dp;exact BQ (AJF (FE hs0 hT (hd.BG.Aa _) (r:=some out) ⟨acc,rfl,hacc.BG⟩ fun w hw=>hP w d tk hw hd hch))
 | succ j Gs=>
  intro p out Bc bs tk d acc hi Dp hlo hout hs hT OH hd hacc hch hfr HX;refine AA8 (BE ?_);rw[Au (by omega)];obtain⟨c,hc⟩:∃ c,cs[p]?=some c:=⟨_,Ak (by omega)⟩;have hrc:(Bx cs)[p]?=some (ren c):=by rw[Bf]; simp[hc]
  obtain⟨c1,c2,c3⟩:=hcs c (BK hc);have hrl:((Ah (ren c)).map AV.pv).length=4:=by rw[AZ,Am]
  have hro:=DZ (ren c)
  have L3:AU (bs.length+1) ((Ah (ren c)).map AV.pv)=true:=by
   obtain⟨k1,n1,i1,t1⟩:=ren c;simp[Ah,AU,Aa]
  have JJ:=(Bp.Ci (ren c)).jO;refine BZ (AJG (B7 ha (row:=Ah (ren c)) (by omega) (by simpa using CA hrc) (Am _) (by omega) (EU (Cj ?_))));have hdr:cs.drop p=c::cs.drop (p+1):=drop_cons hc;rw[hdr,CN] at Dp;have dy:H6 (2 ^ 40) c=true:=by rw[M8]; exact Gf (fun i hi=>by have:=hq i hi; simp only[AG,BT]; exact⟨this.1,by omega⟩) c c1
  generalize (Ah (ren c)).map AV.pv=row at hrl hro L3 JJ;refine Ck (Ay bs Z4) hrl rfl (by decide) (AM _) hro (.inl (AM _)) ?_;have e1:(bs++[Z4]).set bs.length row=bs++[row]:=by simp
  rw[e1];have hs1:B9 ⟨bs++[row],tk⟩:=B9.app (s:=⟨bs,tk⟩) hs L3;have gr:=Ay bs row;have YR:=(Gu OH row).trans hT;have lb:(bs++[row]).length=bs.length+1:=by simp
  generalize bs++[row]=b1 at hs1 gr YR lb;have gE:(s0.bs.set e [d,AD Ao])[e]?=some [d,AD Ao]:=by rw[EA he]
  have xp:∀ (l:List Ty) out B,B<+:(CN (AR Ao) (BX (AR Ao) ex v) l out B).2:=fun l out B=>Ji (fun c B=>M4 fH v c B) l out B
  have fin:∀ (r:Option (List Ty)) (B1:List Ty) (b2:List (List AV)) (N2:List (Nat×Nat)) (d2 a1 a2:AV),(match r with
     | none=>((none,B1):GF)
     | some r=>bif AR Ao (out++r).length then(none,B1) else CN (AR Ao) (BX (AR Ao) ex v) (cs.drop (p+1)) (out++r) B1)=o->B0<+:B1->(∀ l,r=some l->l.length<=Ao+1)->xo (.tuple [a1,a2]) r ->
    B9 ⟨b2,N2⟩->b2.take s0.bs.length=s0.bs.set e [d2,AD Ao]->s0.bs.length<=b2.length->Ex 0 N2 25 d2 (AQ B1)->Ex 0 N2 25 acc (AQ (Bx out))->Ew d0 d2 s0.ts N2->RR d2 acc ->
    jm R 0 0 0 (.ptr e 0) (AD v) acc a1 a2 a (AD cs.length) (AD p) ⟨b2,N2⟩ (QM rr s0.bs.length Post):=by
   intro r B1 b2 N2 d2 a1 a2 Dp hB1 hrb hres hs2 RD hn2 Ru Md N4 K2;have kE:b2[e]?=some [d2,AD Ao]:=Dh RD (by rw[EA he]);cases r with
   | none=>
    cases hres;simp only at Dp;subst Dp;refine AA9 ⟨by decide,Jl (l:=[]) Md rfl (by rw[Bf,AZ]; simp; omega) (.inl (.AA _)) fun acc' RE _ Rq=>?_⟩;exact nt (Bv (Bv (Bv (Bv (Bv (Bv (Bv (pk (BZ (FE hs0 RD (Ru.BG.Aa _) (r:=none) rfl fun w hw=>hP w d2 RE hw (Rq.keep Ru K2.symm) (N4.side Rq hfr)))))))))))
   | some r=>
    obtain⟨a3,hae,ha3⟩:=hres;cases hae;have AOq:=hrb r rfl;refine AA9 ⟨by decide,Jl Md rfl (by rw[Bf,Bf,AZ,AZ]; omega) ha3 fun acc' RE Ng Rq=>?_⟩;have er:Bx out++Bx r=Bx (out++r):=by simp[Bf]
    rw[er] at Ng;have zJ:=Rq.keep Ru K2.symm;have YQ:=N4.side Rq hfr;refine nt (A8 (b:=false) (A8 (b:=false) (BS (n:=(out++r).length) (by rw[Ng.BG.Bk,Ad,Bf,AZ]) (A8 (b:=false) (A8 (b:=false) (GG (A7 kE) (A8 (b:=false) (Aq (A7 kE) (A8 (b:=false) (Ax (off:=1) kE rfl (A8 (b:=false) (Je (pk ?_)))))))))))))
    have eb:decide (((out++r).length:Int)>(Ao:Nat))=AR Ao (out++r).length:=by
     simp only[AR];rw[C0];simp only[BT];omega
    rw[eb];simp only at Dp;cases hb:AR Ao (out++r).length with
    | true=>
     rw[hb] at Dp;simp only[AE] at Dp;subst Dp;exact BZ (FE hs0 RD (Ru.BG.Aa _) (r:=none) rfl fun w hw=>hP w d2 RE hw zJ YQ)
    | false=>
     rw[hb] at Dp;simp only[AB] at Dp;refine BQ (AJH (Cr (by omega) (by omega) ?_));have fin:=Gs (p+1) (out++r) B1 b2 RE d2 acc' (by omega) Dp hB1 (by simpa using hb) hs2 RD hn2 zJ Ng YQ (hfr.V7 Rq N4.1) (K2.symm.V7 Rq Ru).symm;simpa using fin
  have qT:=PO (R:=R) hn (AL _) v c true (by omega) dy JJ;refine Az gr hrl (Iu JJ (Az gr hrl (AI qT ?_)));rintro _ rfl;refine nt ?_;cases ho:C6 v true c with
  | true=>
   have eg:BX (AR Ao) ex v c Bc=(some [c],Bc):=by rw[BX,ho]; rfl
   rw[eg] at Dp;refine BQ (fin (some [c]) Bc b1 tk d (.AA [Ah (ren c)]) (BB true) Dp hlo (fun l hl=>by cases hl; simp) ⟨_,rfl,.inl (by simpa[Bx,AQ] using BP.AA [Ah (ren c)])⟩ hs1 YR (by omega) hd hacc hch HX)
  | false=>
   have eg:BX (AR Ao) ex v c Bc=B8 (AR Ao) ex v (BF (·==(v:Int)) c) c Bc:=by rw[BX,ho]; rfl
   rw[eg] at Dp;have hrb:=QS (Ao:=Ao) (ex:=ex) (v:=v) (BF (·==(v:Int)) c) c Bc;have hlen:=H8 (Ai:=AR Ao) fH v (BF (·==(v:Int)) c) c Bc;have fI:=ih (BF (·==(v:Int)) c) c c1 c2 ho (AL _) c3 Bc hlo;rcases hg:B8 (AR Ao) ex v (BF (·==(v:Int)) c) c Bc with ⟨r,B1⟩
   rw[hg] at fI hlen hrb Dp;simp only at fI hlen hrb
   have U2:B1.length<=M:=by
    cases r with
    | none=>simp only at Dp; subst Dp; exact Tf
    | some r=>
     simp only at Dp;cases hb:AR Ao (out++r).length with
     | true=>rw[hb] at Dp; simp only[AE] at Dp; subst Dp; exact Tf
     | false=>
      rw[hb] at Dp;simp only[AB] at Dp;have:=(xp (cs.drop (p+1)) (out++r) B1).length_le;rw[Dp] at this;omega
   obtain⟨w2,s2',⟨d2,N2,q1,q2,q3,rfl⟩,q4⟩:=fI U2 (.agg row) JJ ⟨b1,tk⟩ hs1 (Ca (env R) 81 0 0 0) d rfl rfl (Dh YR gE) hd
   obtain⟨x1,x2,rfl⟩:∃ x1 x2,w2=.tuple [x1,x2]:=by
    cases r with
    | none=>exact⟨_,_,q1⟩
    | some r=>exact⟨_,_,q1.choose_spec.1⟩
   refine BZ (Az gr hrl ⟨_,_,q4,Bq rfl (Bq rfl ?_)⟩);exact fin r B1 (b1.set e [d2,AD Ao]) N2 d2 x1 x2 (by cases r <;> exact Dp) (hlo.trans hlen) (fun l hl=>hrb l hl) q1 (B9.set (s:=⟨b1,tk⟩) hs1 (by simp[AU,Aa,q2.BG.Aa]) _) (by rw[Gz (c:=[d2,AD Ao]) YR,E3]) (by simp; omega) q2 (q3.keep hacc HX) (hch.trans q3) (HX.V7 q3 hacc)
theorem zL (hn:TC R) {e Ao v M W S:Nat} {B0:List Ty} {q:Int->Bool} (hq:∀ i,q i=true->0<=i/\i<2 ^ 40) (JI:Ao<2 ^ 20) (hS:S<2 ^ 37) {ex:List Ty->GF} (fH:∀ B,B<+:(ex B).2) {cs:List Ty} (Bu:cs.length<=Ao) {a:AV} (ha:BO a (AQ (Bx cs)))
  (hcs:∀ t∈cs,Ev q t=true/\pat t=true/\size t+BF (·==(v:Int)) t*W<=S) (ih:∀ f,mF R e Ao v M W S B0 q ex f)
  {B:List Ty} (hB:B0<+:B) (hM:(CN (AR Ao) (BX (AR Ao) ex v) cs [] B).2.length<=M) {s:AK} (hs:B9 s):WA R e Ao 81 [a,AD v] (CN (AR Ao) (BX (AR Ao) ex v) cs [] B) B s:=by
 intro L d hro Fz hE hd;have le:=(Ae.1 hE).1;have same:s.bs.set e [d,AD Ao]=s.bs:=by rw[<-(Ae.1 hE).2]; exact HJ _
 refine m81 (by simp[BN,Dl]) ?_;rw[hro,Fz];refine AJI (BS (n:=cs.length) (by rw[ha.Bk,Ad,Bf,AZ]) ?_);exact zK hn hq JI hS fH Bu ha hcs ih hs le hM (fun w d' ts' h1 h2 h3=>⟨d',ts',h1,h2,h3,rfl⟩) cs.length 0 [] B s.bs s.ts d (.AA []) (by omega) rfl hB (AM _) hs (by rw[same]; simp) (AL _) hd (.inl rfl) (Ew.refl _ _) (ES.AA _ _) (RR.AA _ _)
end
def Dz (ls:List (List Ty)):List (List PV):=ls.map fun l=>[.list (AQ (Bx l))]
theorem H9 (ls:List (List Ty)):(Dz ls).length=ls.length:=by simp[Dz]
theorem fJ {ls:List (List Ty)}:∀ r∈Dz ls,r.length=1:=by
 intro r hr;simp only[Dz,Bb] at hr;obtain⟨_,_,rfl⟩:=hr;rfl
section
variable {R:RT}
theorem fK (rows:List (List PV)):AW (env R) 145 [.pv (.list rows)] fun r=>r=BB (rows.length==0):=by
 refine AOt (by simp[BN,Dl]) (AFH (BS (n:=rows.length) rfl (CC ⟨_,rfl,?_⟩)))
 have e:(((rows.length:Nat):Int)==0)=(rows.length==0):=by
  rw[C0];simp
 rw[e]
theorem bG {ls:List (List Ty)} {y:AV} (hy:BO y (Dz ls)) (hl:ls.length<2 ^ 60) {n0 ro rt:Nat} {s:AK} {QR:QT} :
  ∀ (j p:Nat),p+j=ls.length->(∀ i:Int,decide (0<=i)=(ls.drop p).any List.isEmpty->QR (AD i) s)->YS R n0 ro rt y (.func (.func 145) [] []) (AD ls.length) (AD p) s QR:=by
 intro j
 induction j with
 | zero=>
  intro p hi hP;refine rJ (BE ?_);rw[A9 (by omega)];rw[Cf (by omega)] at hP;exact BQ (AFI (hP (-1) (by simp)))
 | succ j Gs=>
  intro p hi hP;refine rJ (BE ?_);rw[Au (by omega)];obtain⟨l,ht⟩:∃ l,ls[p]?=some l:=⟨_,Ak (by omega)⟩;rw[drop_cons ht] at hP;refine BZ (AFJ (B7 hy (row:=[.list (AQ (Bx l))]) (by omega) (by simp[Dz,ht]) rfl (by omega) (Lh (AI (fK _) ?_))));rintro _ rfl
  have el:((AQ (Bx l)).length==0)=l.isEmpty:=by
   rw[Ad,Bf,AZ];cases l <;> rfl
  rw[el];cases hg:l.isEmpty with
  | true=>exact BZ (hP p (by simp[hg]))
  | false=>
   refine BQ (AFK (Cr (by omega) (by omega) ?_));simp only[J0,hg,HH] at hP;have:=Gs (p+1) (by omega) hP;simpa using this
theorem WH {ls:List (List Ty)} {y:AV} (hy:BO y (Dz ls)) (hl:ls.length<2 ^ 60) {s:AK} (hs:B9 s) (L:A0):∃ i:Int,decide (0<=i)=ls.any List.isEmpty/\BC (env R) L 166 [y,.func (.func 145) [] []] s (AD i) s:=by
 have hlen:∀ s,Bk s y=some ls.length:=fun s=>by rw[hy.Bk,H9]
 cases hn:Dl y with
 | true=>
  obtain⟨v,⟨i,rfl,h⟩,hc⟩:=AOu (R:=R) (t0:=y) (t1:=.func (.func 145) [] []) (Post:=fun v=>∃ i:Int,v=AD i/\decide (0<=i)=ls.any List.isEmpty) (by simp[BN,Dl,hn]) (rK (BS (hlen _) (bG hy hl ls.length 0 (by omega) fun i h=>⟨AD i,rfl,i,rfl,by simpa using h⟩)));exact⟨i,h,hc L s⟩
 | false=>
  obtain⟨v,s',⟨i,rfl,rfl,h⟩,hc⟩:=AOv (R:=R) (L:=L) (s:=s) (t0:=y) (t1:=.func (.func 145) [] []) (Post:=fun v s'=>∃ i:Int,v=AD i/\s'=s/\decide (0<=i)=ls.any List.isEmpty) (by simp[BN,Dl,hn]) (rK (BS (hlen _) (bG hy hl ls.length 0 (by omega) fun i h=>by
   have:=JH (rr:=L.rr 166) hs (m:=[]) (p:=.sc (.int .i64 i)) (Post:=fun v s'=>∃ i:Int,v=AD i/\s'=s/\decide (0<=i)=ls.any List.isEmpty) ⟨i,rfl,rfl,by simpa using h⟩;simpa using this)))
  exact⟨i,h,hc⟩
theorem mG {ls:List (List Ty)} {y:AV} (hy:BO y (Dz ls)) (hl:ls.length<2 ^ 60) {s:AK} (hs:B9 s) (L:A0):BC (env R) L 144 [y,.func (.func 145) [] []] s (BB (ls.any List.isEmpty)) s:=by
 have h0:B9 ⟨[],[]⟩:=fun b hb=>by cases hb
 cases hn:Dl y with
 | true=>
  obtain⟨i,h,hc⟩:=WH (R:=R) hy hl h0 (Ca (env R) 144 0 0 0);obtain⟨v,rfl,hc⟩:=AOw (R:=R) (t0:=y) (t1:=.func (.func 145) [] []) (Post:=fun v=>v=BB (ls.any List.isEmpty)) (by simp[BN,Dl,hn]) (rL ⟨_,_,hc,QF ⟨_,rfl,by rw[<-h]⟩⟩);exact hc L s
 | false=>
  obtain⟨i,h,hc⟩:=WH (R:=R) hy hl hs (Ca (env R) 144 0 L.ro L.rt)
  obtain⟨v,s',⟨rfl,rfl⟩,hc⟩:=AOx (R:=R) (L:=L) (s:=s) (t0:=y) (t1:=.func (.func 145) [] []) (Post:=fun v s'=>v=BB (ls.any List.isEmpty)/\s'=s) (by simp[BN,Dl,hn]) (rL ⟨_,_,hc,QF (by
   have:=JH (rr:=L.rr 144) hs (m:=[]) (p:=.sc (.bool (decide (i>=0)))) (Post:=fun v s'=>v=BB (ls.any List.isEmpty)/\s'=s) ⟨by rw[<-h],rfl⟩;simpa using this)⟩)
  exact hc
end
attribute [local simp] CX Cx MP MQ AX Df Ia wO setCells C2 FA DN Ca Bo alive Dx Hv KX nT Bi DF Bz Ib Fj Eo nU pY okB wX pZ wY pg wZ lu we wh wj wk wm wo wq wu wz w6 w7 okF w8 w9 xA xB xD Zh xE Ur Us Ut Uu xH xJ xK xN xO xQ xS xT xU xV Ic xW pn xX xY xZ xd pq xe xg xh xj xk Cn g0 g1 xI xL xM xF xG xC lf Y4 Y5
theorem bH {E:Env} {f:FuncId} {fn:Func} {body:Code} {args:List AV} {L:A0} {s:AK} {Post:AV->AK->Prop} (hfn:E.P.funcs[f]?=some fn) (hb:fn.body=some body) (hk:E.kind f=.esc) (hc:E.clone f=true) (ht:E.told f=none) (hne:Gl args=false) (hl:args.length<=fn.ntmps)
  (h:Wp E (Ca E f L.n0 L.ro L.rt) fn.ntmps fn.results.toList body [] (FZ 0 args) s Post):∃ v s',Post v s'/\BC E L f args s v s':=by
 obtain⟨r,s',n,h1,h2⟩:=Li hb h;refine⟨r,s',h2,⟨n+1,fun m hm=>?_⟩⟩;obtain⟨m,rfl⟩:∃ m',m=m'+1:=⟨m-1,by omega⟩;simp only[Cw,hfn,hc,AE,L8,ht,hne,AB];unfold D3;have:=h1 m (by omega);unfold Ca at this;simp only[if_pos hl,hk];exact this
theorem rM {E:Env} {f:FuncId} {fn:Func} {args:List AV} (hfn:E.P.funcs[f]?=some fn) (hc:E.clone f=true) (ht:E.told f=none) (hne:Gl args=true):AW E f args fun v=>v=.AA []:=by
 refine⟨_,rfl,fun L s=>⟨1,fun m hm=>?_⟩⟩;obtain⟨m,rfl⟩:∃ m',m=m'+1:=⟨m-1,by omega⟩;simp only[Cw,hfn,hc,AE,L8,ht,hne]
section
variable {R:RT}
theorem YT {l:List Ty} (hl:l.length<2 ^ 38) {a:AV} (ha:BO a (AQ l)) {L:A0} (Fz:L.rt=0) (s:AK):∃ v s',(∃ ts',s'=⟨s.bs,ts'⟩/\Ex 0 ts' 25 v (AQ l)/\Ew (.AA []) v s.ts ts')/\BC (env R) L 57 [a] s v s':=by
 cases l with
 | nil=>
  have he:Gl [a]=true:=by
   rcases ha with (rfl|rfl)|⟨t,rfl⟩ <;> rfl
  obtain⟨v,rfl,hc⟩:=rM (E:=env R) (f:=57) (args:=[a]) Tryz.func57 (by kernel_rfl) (by kernel_rfl) he;exact⟨_,s,⟨s.ts,rfl,.inl rfl,Ew.refl _ _⟩,hc L s⟩
 | cons x l=>
  have he:Gl [a]=false:=by
   rcases ha with (rfl|rfl)|⟨t,rfl⟩ <;> rfl
  have cq:∀ K:AV->Prop,K (BB false)->rN s (some 1) (RP a) (some 1) .eql a (.AA []) K:=by
   intro K hK;obtain⟨k1,n1,i1,t1⟩:=x;rcases ha with (rfl|rfl)|⟨t,rfl⟩ <;> exact⟨by simp[sameKind,D6,rowsOf,AQ,Ah],hK⟩
  refine bH (fn:=Tryz.f57) (body:=b57) Tryz.func57 (by kernel_rfl) (by kernel_rfl) (by kernel_rfl) (by kernel_rfl) he (Cm (by kernel_rfl)) ?_
  show ABA R L.n0 L.ro L.rt a s _
  refine AJJ (cq _ (BQ (AJK ?_)))
  have hb:∀ K:AV->AK->Prop,K (.AA []) s->D4 false s 4 [(AD 0),(SS []),(AD 0),(.AA [])] 0 [] K:=by
   intro K hK;simpa[D4,Fh,B6] using hK
  exact hb _ ⟨by decide,Jl (es:=[]) (.inl rfl) Fz (by simp only[BV,A3] at hl ⊢; omega) ha fun a' ts' h1 h2=>⟨ts',rfl,by simpa using h1,h2⟩⟩
end
theorem AJL {a:AV} {rows:List (List PV)} (h:BO a rows):I3 a=some (.list rows):=by
 rcases h with (rfl|rfl)|⟨t,rfl⟩ <;> rfl
theorem fL {l:List Ty} {a:AV} (ha:BO a (AQ l)) {s:AK} {K:AV->AK->Prop} (hK:K (.AA [[.list (AQ l)]]) s):D4 false s 1 [(.AA [])] 1 [(0,1,a)] K:=by
 simp[D4,Fh,B6,ha.ok,AJL ha,ha.cells];exact hK
theorem jn {L:A0} {s:AK} {a:AV} {os:List (List Ty)} {p:List Ty} {K:AV->AK->Prop} (ha:Ex 0 s.ts 23 a (Dz os)) (Fz:L.rt=0) (hl:os.length<2 ^ 38) (h:∀ a' ts',Ex 0 ts' 23 a' (Dz (os++[p]))->Ew a a' s.ts ts'->K a' ⟨s.bs,ts'⟩) :
  E1 false L s 23 1 24 a (.AA [[.list (AQ (Bx p))]]) K:=by
 have h1:=H9 os;have hm:∀ r∈[[PV.list (AQ (Bx p))]],r.length=1:=by simp
 refine YN (m:=[[.list (AQ (Bx p))]]) ha Fz fJ hm (by omega) (IU (.inl (.AA _)) hm) (by simp) (by simp; omega) (by simp; omega) fun a' ts' h3 h4=>h a' ts' ?_ h4
 simpa[Dz] using h3
theorem Ew.AFL {r:List (List PV)} {v:AV} {ts ts':List (Nat×Nat)} (h:Ew (.AA r) v ts ts'):ES v ts:=by
 intro t ht;rcases h.2.2 with h1|⟨u,h1,h2⟩
 ·rw[h1] at ht
  cases ht
 ·rw[h1] at ht
  cases ht;exact h2
theorem ES.dis {v b:AV} {ts:List (Nat×Nat)} {lo k:Nat} {rows:List (List PV)} (h:ES v ts) (hb:Ex lo ts k b rows):RR v b:=by
 intro t ht hbt;have h1:=h t ht;have h2:=Ex.qu hb hbt;omega
section
variable {R:RT}
theorem rO {l pre:List Ty} {xa:AV} (hxa:BO xa (AQ (Bx l))) (hl:l.length<2 ^ 37) (hpre:pre.length<2 ^ 37) {n:Nat} {X:List (List AV)} {t0 t8 t17 t18 t19 t33 t34 t35:AV} {QR:QT} :
  ∀ (j p:Nat) (out:List (List Ty)) (bs:List (List AV)) (tk:List (Nat×Nat)) (acc:AV),p+j=l.length->out.length+j<2 ^ 38->B9 ⟨bs,tk⟩->bs.take n=X->n<=bs.length->Ex 0 tk 23 acc (Dz out) ->
   (∀ bs' Lg acc',B9 ⟨bs',Lg⟩->bs'.take n=X->n<=bs'.length->Ex 0 Lg 23 acc' (Dz (out++(l.drop p).map fun x=>pre++[x]))->Ew acc acc' tk Lg->YU R 0 0 0 t0 t8 acc' t17 t18 t19 t33 t34 t35 ⟨bs',Lg⟩ QR) ->
   YV R 0 0 0 t0 t8 acc (.pv (.list (AQ (Bx pre)))) t17 t18 t19 t33 t34 t35 xa (AD l.length) (AD p) ⟨bs,tk⟩ QR:=by
 intro j
 induction j with
 | zero=>
  intro p out bs tk acc hi ho hs hT hn hacc hK;refine rP (BE ?_);rw[A9 (by omega)];rw[Cf (by omega)] at hK;exact BQ (hK bs tk acc hs hT hn (by simpa using hacc) (Ew.refl _ _))
 | succ j Gs=>
  intro p out bs tk acc hi ho hs hT hn hacc hK;refine rP (BE ?_);rw[Au (by omega)];obtain⟨c,hc⟩:∃ c,l[p]?=some c:=⟨_,Ak (by omega)⟩;have hrc:(Bx l)[p]?=some (ren c):=by rw[Bf]; simp[hc]
  have hrl:((Ah (ren c)).map AV.pv).length=4:=by rw[AZ,Am]
  have hro:=DZ (ren c)
  have L3:AU (bs.length+1) ((Ah (ren c)).map AV.pv)=true:=by
   obtain⟨k1,n1,i1,t1⟩:=ren c;simp[Ah,AU,Aa]
  have JJ:=(Bp.Ci (ren c)).jO;have HY:=PL (ren c);refine BZ (zM (B7 hxa (row:=Ah (ren c)) (by omega) (by simpa using CA hrc) (Am _) (by omega) (EU (Cj ?_))));rw[drop_cons hc] at hK;generalize (Ah (ren c)).map AV.pv=row at hrl hro L3 JJ HY;refine Ck (Ay bs Z4) hrl rfl (by decide) (AM _) hro (.inl (AM _)) ?_;have e1:(bs++[Z4]).set bs.length row=bs++[row]:=by simp
  rw[e1];have hs1:B9 ⟨bs++[row],tk⟩:=B9.app (s:=⟨bs,tk⟩) hs L3;have gr:=Ay bs row;have lp:(Bx pre).length=pre.length:=by rw[Bf,AZ]
  obtain⟨v,s',⟨Qo,rfl,v1,v2⟩,v3⟩:=YT (R:=R) (l:=Bx pre) (by omega) (a:=.pv (.list (AQ (Bx pre)))) (.inl (.list _)) (L:=Ca (env R) 120 0 0 0) rfl ⟨bs++[row],tk⟩;have wQ:=v2.AFL;have AJM:=v2.keep hacc (fun _ h=>by cases h);refine⟨_,_,v3,Az gr hrl (Iu JJ ⟨by decide,M6 v1 rfl (by omega) fun v' N2 w1 w2=>?_⟩)⟩;have ep:Bx pre++[ren c]=Bx (pre++[c]):=by simp[Bf]
  rw[ep] at w1;have Md:=w2.keep AJM (wQ.dis hacc);refine fL w1.BG ⟨by decide,jn Md rfl (by omega) fun acc' RE x1 x2=>?_⟩;refine⟨Az gr hrl HY,zN (Cr (by omega) (by omega) ?_)⟩;have hch:Ew acc acc' tk RE:=(((Ew.refl acc tk).side v2 (ES.AA _ _)).side w2 wQ).trans x2;have:=Gs (p+1) (out++[pre++[c]]) (bs++[row]) RE acc' (by omega) (by simp; omega) hs1 ((Gu hn row).trans hT) (by simp; omega) x1 (fun bs' Lg N5 k1 k2 k3 k4 k5=>hK bs' Lg N5 k1 k2 k3 (by simpa using k4) (hch.trans k5));simpa using this
end
section
variable {R:RT}
theorem AFN {l:List Ty} {xa ya:AV} {outs:List (List Ty)} (hxa:BO xa (AQ (Bx l))) (YW:BO ya (Dz outs)) (hl:l.length<2 ^ 37) (hpre:∀ pre∈outs,pre.length<2 ^ 37) (iK:outs.length<2 ^ 37) {n:Nat} {X:List (List AV)} {t0 t17 t18 t19:AV} {QR:QT} :
  ∀ (j p:Nat) (next:List (List Ty)) (bs:List (List AV)) (tk:List (Nat×Nat)) (acc:AV),p+j=outs.length->next.length+j*l.length<2 ^ 38->B9 ⟨bs,tk⟩->bs.take n=X->n<=bs.length->Ex 0 tk 23 acc (Dz next) ->
   (∀ bs' Lg acc',B9 ⟨bs',Lg⟩->bs'.take n=X->n<=bs'.length->Ex 0 Lg 23 acc' (Dz (next++(outs.drop p).flatMap fun pre=>l.map fun x=>pre++[x]))->Ew acc acc' tk Lg->YX R 0 0 0 t0 acc' t17 t18 t19 ⟨bs',Lg⟩ QR) ->
   YY R 0 0 0 t0 xa acc t17 t18 t19 ya (AD outs.length) (AD p) ⟨bs,tk⟩ QR:=by
 intro j
 induction j with
 | zero=>
  intro p next bs tk acc hi ho hs hT hn hacc hK
  refine rQ (BE ?_);rw[A9 (by omega)];rw[Cf (by omega)] at hK;exact BQ (AFO (hK bs tk acc hs hT hn (by simpa using hacc) (Ew.refl _ _)))
 | succ j Gs=>
  intro p next bs tk acc hi ho hs hT hn hacc hK
  refine rQ (BE ?_);rw[Au (by omega)];obtain⟨pre,hc⟩:∃ c,outs[p]?=some c:=⟨_,Ak (by omega)⟩;rw[drop_cons hc] at hK;rw[FO] at ho;refine BZ (AFP (B7 YW (row:=[.list (AQ (Bx pre))]) (by omega) (by simp[Dz,hc]) rfl (by omega) (Lh (BS (n:=l.length) (by rw[hxa.Bk,Ad,Bf,AZ]) ?_))));refine rO hxa hl (hpre pre (BK hc)) l.length 0 next bs tk acc (by omega) (by omega) hs hT hn hacc fun bs1 tk1 AFQ k1 k2 k3 k4 k5=>?_
  refine zO (Cr (by omega) (by omega) ?_);rw[Fv] at k4;have:=Gs (p+1) (next++l.map fun x=>pre++[x]) bs1 tk1 AFQ (by omega) (by simp; omega) k1 k2 k3 k4 (fun bs' Lg N5 m1 m2 m3 m4 m5=>hK bs' Lg N5 m1 m2 m3 (by simpa using m4) (k5.trans m5));simpa using this
end
theorem AFR {a b:Nat} {K:AV->Prop} (hb:b≠0) (ha:a<2 ^ 62) (h:K (AD ((a / b:Nat):Int))):Dx .i64 .quo (AD a) (AD b) K:=by
 have e:(a:Int).tdiv b=((a / b:Nat):Int):=(Int.ofNat_tdiv a b).symm;have hl:=Nat.div_le_self a b;refine⟨⟨rfl,rfl⟩,by omega,?_⟩;rw[e];generalize a / b=c at hl h;exact DX (by omega) (by omega) h
theorem bI (outs:List (List Ty)) (l:List Ty):(outs.flatMap fun p=>l.map fun x=>p++[x]).length=outs.length*l.length:=by
 induction outs with
 | nil=>simp
 | cons o os ih=>rw[OV,Ab,ih,AZ,A3,FO]; omega
def bJ (v:AV) (r:Option (List (List Ty))):Prop:=match r with
 | none=>v=.tuple [.AA [],BB false]
 | some o=>∃ a,v=.tuple [a,BB true]/\BO a (Dz o)
section
variable {R:RT}
theorem rR {e Ao:Nat} (JI:Ao<2 ^ 20) {d:AV} {ls:List (List Ty)} {ya:AV} (YW:BO ya (Dz ls)) (y9:ls.length<2 ^ 36) (hls:∀ l∈ls,l≠[]/\l.length<2 ^ 37) {n:Nat} {X:List (List AV)} (hX:X[e]?=some [d,AD Ao]) {mH:List (Nat×Nat)} {r:Option (List (List Ty))} {QR:QT}
  (hK:∀ v bs' Lg,bJ v r->B9 ⟨bs',Lg⟩->bs'.take n=X->Ew (.AA []) (.AA []) mH Lg->QR v ⟨bs',Lg⟩) :
  ∀ (j p:Nat) (outs:List (List Ty)) (bs:List (List AV)) (tk:List (Nat×Nat)) (acc:AV),p+j=ls.length->DG (AR Ao) (ls.drop p) outs=r->outs.length<=Ao+1->(∀ o∈outs,o.length<=p)->B9 ⟨bs,tk⟩->bs.take n=X->n<=bs.length->BO acc (Dz outs)->Ew (.AA []) (.AA []) mH tk ->
   YZ R 0 0 0 (.ptr e 0) acc ya (AD ls.length) (AD p) ⟨bs,tk⟩ QR:=by
 intro j
 induction j with
 | zero=>
  intro p outs bs tk acc hi hc ho hp hs hT hn hacc hch;refine rS (BE ?_);rw[A9 (by omega)];rw[Cf (by omega),DG] at hc;subst hc;exact BQ (AFS (hK _ _ _ ⟨acc,rfl,hacc⟩ hs hT hch))
 | succ j Gs=>
  intro p outs bs tk acc hi hc ho hp hs hT hn hacc hch;refine rS (BE ?_);rw[Au (by omega)];obtain⟨l,hl⟩:∃ c,ls[p]?=some c:=⟨_,Ak (by omega)⟩;obtain⟨hne,hlen⟩:=hls l (BK hl);have hpos:0<l.length:=List.length_pos_iff.2 hne;rw[drop_cons hl,DG,bI] at hc;have gE:=Dh hT hX;have hxa:BO (.pv (.list (AQ (Bx l)))) (AQ (Bx l)):=.inl (.list _);refine BZ (AFT (B7 YW (row:=[.list (AQ (Bx l))]) (by omega) (by simp[Dz,hl]) rfl (by omega) (Lh (BS (n:=outs.length) (by rw[hacc.Bk,H9]) (GG (A7 gE) (Aq (A7 gE) (Ax (off:=1) gE rfl (BS (n:=l.length) (by rw[hxa.Bk,Ad,Bf,AZ]) (AFR (by omega) (by omega) (Je ?_))))))))))
  have eb:decide ((outs.length:Int)>((Ao / l.length:Nat):Int))=AR Ao (outs.length*l.length):=by
   simp only[AR];rw[C0];simp only[BT,gt_iff_lt,Int.ofNat_lt];exact Nat.div_lt_iff_lt_mul hpos
  rw[eb];cases hb:AR Ao (outs.length*l.length) with
  | true=>
   rw[hb] at hc;simp only[AE] at hc;subst hc;exact BZ (hK _ _ _ rfl hs hT hch)
  | false=>
   rw[hb] at hc;simp only[AB] at hc;have Ow:outs.length*l.length<=Ao:=by simpa using hb
   refine BQ (AFU (BS (n:=outs.length) (by rw[hacc.Bk,H9]) ?_));refine AFN hxa hacc hlen (fun o hm=>by have:=hp o hm; omega) (by omega) outs.length 0 [] bs tk (.AA []) (by omega) (by simp; omega) hs hT hn (.inl rfl) fun bs1 tk1 AFQ k1 k2 k3 k4 k5=>?_
   refine zP (Cr (by omega) (by omega) ?_);rw[Fv,Di] at k4
   have:=Gs (p+1) (outs.flatMap fun pre=>l.map fun x=>pre++[x]) bs1 tk1 AFQ (by omega) hc (by rw[bI]; omega) (by
    intro o hm;obtain⟨a,ha,hm⟩:=LB.1 hm;obtain⟨x,_,rfl⟩:=Bb.1 hm;have:=hp a ha;simp;omega) k1 k2 k3 k4.BG (hch.side k5 (ES.AA _ _))
   simpa using this
end
theorem ABB {rr:Bool} {v:AV} {r:Option (List (List Ty))} {s0:AK} {bs:List (List AV)} {ts:List (Nat×Nat)} {Post:AV->AK->Prop} (h0:B9 s0) (hT:bs.take s0.bs.length=s0.bs) (hr:bJ v r) (hP:∀ w,bJ w r->Post w ⟨s0.bs,ts⟩):QM rr s0.bs.length Post v ⟨bs,ts⟩:=by
 have hok:((bs.take s0.bs.length).all (AU s0.bs.length))=true:=by
  rw[Bs];intro b hb;exact h0 b (by simpa[hT] using hb)
 cases r with
 | none=>
  cases hr;refine Jj (ds:=[.AA [],BB false]) hok rfl ?_
  show Post _ ⟨bs.take _,ts⟩
  rw[hT];exact hP _ rfl
 | some l=>
  obtain⟨a,rfl,ha⟩:=hr;obtain⟨a',h1,h2⟩:=ha.close bs s0.bs.length ts.length;refine Jj (ds:=[a',BB true]) hok (by simp[AN,h1,Tel.close]) ?_
  show Post _ ⟨bs.take _,ts⟩
  rw[hT];exact hP _ ⟨a',rfl,h2⟩
section
variable {R:RT}
theorem zQ {e Ao:Nat} (JI:Ao<2 ^ 20) {d:AV} {ls:List (List Ty)} {ya:AV} (YW:BO ya (Dz ls)) (y9:ls.length<2 ^ 36) (hls:∀ l∈ls,l.length<2 ^ 37) {s:AK} (hs:B9 s) (hE:s.bs[e]?=some [d,AD Ao]) {L:A0} (hro:L.ro=0) (Fz:L.rt=0) :
  ∃ v s',(∃ ts',bJ v (bif ls.any List.isEmpty then some [] else DG (AR Ao) ls [[]])/\Ew (.AA []) (.AA []) s.ts ts'/\s'=⟨s.bs,ts'⟩)/\BC (env R) L 120 [.ptr e 0,ya] s v s':=by
 refine AO0 (by simp[BN,Dl]) ?_;rw[hro,Fz];refine AFV ⟨_,_,mG YW (by omega) hs _,?_⟩;cases ha:ls.any List.isEmpty with
 | true=>exact BZ (ABB hs (by simp) (r:=some []) ⟨.AA [],rfl,.inl (.AA _)⟩ fun w hw=>⟨s.ts,hw,Ew.refl _ _,rfl⟩)
 | false=>
  refine BQ (AFW (fL (l:=[]) (.inl (.AA _)) (BS (n:=ls.length) (by rw[YW.Bk,H9]) ?_)));refine rR (n:=s.bs.length) (X:=s.bs) (mH:=s.ts) (r:=DG (AR Ao) ls [[]]) JI YW y9 ?_ hE (fun v bs' Lg h1 h2 h3 h4=>ABB hs h3 h1 fun w hw=>⟨Lg,hw,h4,rfl⟩) ls.length 0 [[]] s.bs s.ts (.AA [[.list (AQ [])]]) (by omega) rfl (by simp) (by simp) hs (by simp) (AL _) (.inl (.AA _)) (Ew.refl _ _);intro l hl;refine⟨?_,hls l hl⟩;intro h0;subst h0;have:ls.any List.isEmpty=true:=HG.2 ⟨[],hl,rfl⟩;rw[ha] at this;cases this
end
section
variable {R:RT}
theorem AFX {all:List (List Ty)} {ya:AV} (YW:BO ya (Dz all)) (hl:all.length<2 ^ 37) {t12:AV} {bs:List (List AV)} {mH:List (Nat×Nat)} {QR:QT}
  (hK:∀ acc Lg,Ex 0 Lg 25 acc (AQ (Bx (all.map (.mk 3 [] 0))))->Ew (.AA []) acc mH Lg->rT R 0 0 0 t12 acc ⟨bs,Lg⟩ QR) :
  ∀ (j p:Nat) (tk:List (Nat×Nat)) (acc:AV),p+j=all.length->Ex 0 tk 25 acc (AQ (Bx ((all.take p).map (.mk 3 [] 0))))->Ew (.AA []) acc mH tk ->
   bK R 0 0 0 t12 acc ya (AD all.length) (AD p) ⟨bs,tk⟩ QR:=by
 intro j
 induction j with
 | zero=>
  intro p tk acc hi hacc hch;refine rU (BE ?_);rw[A9 (by omega)];rw[CL (by omega)] at hacc;exact BQ (hK acc tk hacc hch)
 | succ j Gs=>
  intro p tk acc hi hacc hch;refine rU (BE ?_);rw[Au (by omega)];obtain⟨o,hc⟩:∃ c,all[p]?=some c:=⟨_,Ak (by omega)⟩;have ht:Ba (ren (.mk 3 [] 0 o)) (.agg [AD 3,SS [],AD 0,.pv (.list (AQ (Bx o)))]):=⟨_,rfl,.inl (.list _)⟩;refine BZ (AJO (B7 YW (row:=[.list (AQ (Bx o))]) (by omega) (by simp[Dz,hc]) rfl (by omega) (Lh (Q7 (cs:=[AD 3,SS [],AD 0,.pv (.list (AQ (Bx o)))]) rfl (Iu ht ⟨by decide,M6 hacc rfl (by rw[Bf,AZ,AZ,DU]; omega) fun acc' Lg h1 h2=>AJP (Cr (by omega) (by omega) ?_)⟩)))));have er:Bx ((all.take p).map (.mk 3 [] 0))++[ren (.mk 3 [] 0 o)]=Bx ((all.take (p+1)).map (.mk 3 [] 0)):=by rw[Gr,hc]; simp[Bf]
  rw[er] at h1;have:=Gs (p+1) Lg acc' (by omega) h1 (hch.trans h2);simpa using this
end
section
variable {R:RT}
theorem zR {e Ao M:Nat} (JI:Ao<2 ^ 20) {ex:Ty->List Ty->GF} {B0:List Ty} (fH:∀ t B,B<+:(ex t B).2) {ts:List Ty} {ya:AV} (YW:BO ya (AQ (Bx ts))) (hl:ts.length<2 ^ 37)
  (ih:∀ t∈ts,∀ B,B0<+:B->(ex t B).2.length<=M->∀ x,Ba (ren t) x->∀ s,B9 s->WA R e Ao 44 [x] (ex t B) B s)
  {s0:AK} (he:e<s0.bs.length) {d0:AV} {o:Option (List (List Ty))×List Ty} (Tf:o.2.length<=M) {QR:QT}
  (hN:o.1=none->∀ bs tk d,bs.take s0.bs.length=s0.bs.set e [d,AD Ao]->Ex 0 tk 25 d (AQ o.2)->Ew d0 d s0.ts tk->QR (.tuple [.AA [],BB false]) ⟨bs,tk⟩)
  (hS:∀ ls,o.1=some ls->∀ bs tk d acc,B9 ⟨bs,tk⟩->bs.take s0.bs.length=s0.bs.set e [d,AD Ao]->s0.bs.length<=bs.length->Ex 0 tk 25 d (AQ o.2)->Ew d0 d s0.ts tk->BO acc (Dz ls)->rV R 0 0 0 (.ptr e 0) acc ⟨bs,tk⟩ QR) :
  ∀ (j p:Nat) (out:List (List Ty)) (Bc:List Ty) (bs:List (List AV)) (tk:List (Nat×Nat)) (d acc:AV),p+j=ts.length->Er ex (ts.drop p) out Bc=o->B0<+:Bc->out.length<=p ->
   B9 ⟨bs,tk⟩->bs.take s0.bs.length=s0.bs.set e [d,AD Ao]->s0.bs.length<=bs.length ->
   Ex 0 tk 25 d (AQ Bc)->Ex 0 tk 23 acc (Dz out)->Ew d0 d s0.ts tk->ES acc s0.ts->RR d acc ->
   jo R 0 0 0 (.ptr e 0) acc ya (AD ts.length) (AD p) ⟨bs,tk⟩ QR:=by
 intro j
 induction j with
 | zero=>
  intro p out Bc bs tk d acc hi hseq hB hop hs hT OH hd hacc hch hfr HX;refine ABC (BE ?_);rw[A9 (by omega)];rw[Cf (by omega),Er] at hseq;subst hseq;exact BQ (hS out rfl bs tk d acc hs hT OH hd hch hacc.BG)
 | succ j Gs=>
  intro p out Bc bs tk d acc hi hseq hB hop hs hT OH hd hacc hch hfr HX;refine ABC (BE ?_);rw[Au (by omega)];obtain⟨c,hc⟩:∃ c,ts[p]?=some c:=⟨_,Ak (by omega)⟩;have hrc:(Bx ts)[p]?=some (ren c):=by rw[Bf]; simp[hc]
  have hrl:((Ah (ren c)).map AV.pv).length=4:=by rw[AZ,Am]
  have hro:=DZ (ren c)
  have L3:AU (bs.length+1) ((Ah (ren c)).map AV.pv)=true:=by
   obtain⟨k1,n1,i1,t1⟩:=ren c;simp[Ah,AU,Aa]
  have JJ:=(Bp.Ci (ren c)).jO;refine BZ (AJQ (B7 YW (row:=Ah (ren c)) (by omega) (by simpa using CA hrc) (Am _) (by omega) (EU (Cj ?_))));rw[drop_cons hc,Er] at hseq;generalize (Ah (ren c)).map AV.pv=row at hrl hro L3 JJ;refine Ck (Ay bs Z4) hrl rfl (by decide) (AM _) hro (.inl (AM _)) ?_;have e1:(bs++[Z4]).set bs.length row=bs++[row]:=by simp
  rw[e1];have hs1:B9 ⟨bs++[row],tk⟩:=B9.app (s:=⟨bs,tk⟩) hs L3;have gr:=Ay bs row;have YR:=(Gu OH row).trans hT;have lb:(bs++[row]).length=bs.length+1:=by simp
  generalize bs++[row]=b1 at hs1 gr YR lb;have gE:(s0.bs.set e [d,AD Ao])[e]?=some [d,AD Ao]:=by rw[EA he]
  have xp:∀ (l:List Ty) out B,B<+:(Er ex l out B).2:=fun l out B=>TJ fH l out B
  have fI:=ih c (BK hc) Bc hB;have hpre:=fH c Bc;rcases hg:ex c Bc with ⟨r,B1⟩
  rw[hg] at hseq fI hpre;simp only at hseq fI hpre
  have U2:B1.length<=M:=by
   cases r with
   | none=>simp only at hseq; subst hseq; exact Tf
   | some r=>
    simp only at hseq;have:=(xp (ts.drop (p+1)) (out++[r]) B1).length_le;rw[hseq] at this;omega
  obtain⟨w2,s2',⟨d2,N2,q1,q2,q3,rfl⟩,q4⟩:=fI U2 (.agg row) JJ ⟨b1,tk⟩ hs1 (Ca (env R) 88 0 0 0) d rfl rfl (Dh YR gE) hd;have RD:(b1.set e [d2,AD Ao]).take s0.bs.length=s0.bs.set e [d2,AD Ao]:=by rw[Gz (c:=[d2,AD Ao]) YR,E3]
  refine Az gr hrl ⟨_,_,q4,?_⟩;cases r with
  | none=>
   cases q1;simp only at hseq;subst hseq;exact Bq rfl (Bq rfl (nt (BZ (hN rfl _ N2 d2 RD q2 (hch.trans q3)))))
  | some r=>
   obtain⟨a2,rfl,U1⟩:=q1;simp only at hseq;have Md:=q3.keep hacc HX;have K2:RR d2 acc:=HX.V7 q3 hacc;refine Bq rfl (Bq rfl (nt (BQ (AJR (fL U1 ⟨by decide,jn Md rfl (by omega) fun acc' RE h3 h4=>AJS (Cr (by omega) (by omega) ?_)⟩)))));have N4:=hch.trans q3;have zJ:=h4.keep q2 K2.symm;have YQ:=N4.side h4 hfr;have hs2:B9 ⟨b1.set e [d2,AD Ao],RE⟩:=B9.set (s:=⟨b1,tk⟩) hs1 (by simp[AU,Aa,q2.BG.Aa]) _;have:=Gs (p+1) (out++[r]) B1 (b1.set e [d2,AD Ao]) RE d2 acc' (by omega) hseq (hB.trans hpre) (by simp; omega) hs2 RD (by simp; omega) zJ h3 YQ (hfr.V7 h4 N4.1) (K2.symm.V7 h4 q2).symm;simpa using this
def L1 (Ao:Nat) (ex:Ty->List Ty->GF) (ts B:List Ty):GF:=match Er ex ts [] B with
 | (none,B)=>(none,B)
 | (some ls,B)=>bif ls.any List.isEmpty then(some [],B) else match DG (AR Ao) ls [[]] with
  | none=>(none,B)
  | some all=>(some (all.map (.mk 3 [] 0)),B)
theorem WI {Ao:Nat}:∀ (ls out r:List (List Ty)),DG (AR Ao) ls out=some r->r.length<=Ao\/r=out
 | [],out,r,h=>by
  rw[DG] at h;cases h;exact .inr rfl
 | l::ls,out,r,h=>by
  rw[DG] at h;cases hb:AR Ao (out.flatMap fun p=>l.map fun x=>p++[x]).length with
  | true=>rw[hb] at h; cases h
  | false=>
   rw[hb] at h;have hb':(out.flatMap fun p=>l.map fun x=>p++[x]).length<=Ao:=by simpa[AR] using hb
   rcases WI ls _ r h with h1|h1
   ·exact .inl h1
   ·exact .inl (by rw[h1]; exact hb')
end
theorem WJ {Ao:Nat} {ex:Ty->List Ty->GF}:∀ (l:List Ty) (out:List (List Ty)) (B:List Ty) (r:List (List Ty)),(∀ t∈l,∀ B r,(ex t B).1=some r->r.length<=Ao)->(Er ex l out B).1=some r->(∀ o∈out,o.length<=Ao)->(∀ o∈r,o.length<=Ao)/\r.length=out.length+l.length
 | [],out,B,r,_,h,ho=>by
  rw[Er] at h;cases h;exact⟨ho,rfl⟩
 | t::l,out,B,r,hx,h,ho=>by
  have h1:=hx t (by simp) B;rw[Er] at h;rcases hr:ex t B with ⟨_|s,B1⟩
  ·rw[hr] at h
   cases h
  ·rw[hr] at h h1
   have:=WJ l (out++[s]) B1 r (fun a ha=>hx a (by simp[ha])) h (by
    intro o ho';rcases BL.1 ho' with h2|h2
    ·exact ho o h2
    ·rw[Bj.1 h2]
     exact h1 s rfl)
   refine⟨this.1,?_⟩;rw[this.2,Ab,A3,A3,BV];omega
section
variable {R:RT}
theorem zS {e Ao M:Nat} (JI:Ao<2 ^ 20) {ex:Ty->List Ty->GF} {B0:List Ty} (fH:∀ t B,B<+:(ex t B).2) {ts:List Ty} (hxl:∀ t∈ts,∀ B r,(ex t B).1=some r->r.length<=Ao) {ya:AV} (YW:BO ya (AQ (Bx ts))) (hl:ts.length<2 ^ 36)
  (ih:∀ t∈ts,∀ B,B0<+:B->(ex t B).2.length<=M->∀ x,Ba (ren t) x->∀ s,B9 s->WA R e Ao 44 [x] (ex t B) B s)
  {B:List Ty} (hB:B0<+:B) (hM:(L1 Ao ex ts B).2.length<=M) {s:AK} (hs:B9 s):WA R e Ao 88 [ya] (L1 Ao ex ts B) B s:=by
 intro L d hro Fz hE hd;have le:=(Ae.1 hE).1;have same:s.bs.set e [d,AD Ao]=s.bs:=by rw[<-(Ae.1 hE).2]; exact HJ _
 refine m88 (by simp[BN,Dl]) ?_;rw[hro,Fz];refine AJT (BS (n:=ts.length) (by rw[YW.Bk,Ad,Bf,AZ]) ?_);have ABD:=WJ (Ao:=Ao) ts [] B (ex:=ex);rcases ho:Er ex ts [] B with ⟨r,B1⟩
 rw[ho] at ABD
 have ho2:(L1 Ao ex ts B).2=B1:=by
  rw[L1,ho];cases r with
  | none=>rfl
  | some ls=>
   simp only;cases ls.any List.isEmpty with
   | true=>rfl
   | false=>simp only[AB]; split <;> rfl
 rw[ho2] at hM;refine zR (M:=M) JI fH YW (by omega) ih le (o:=(r,B1)) hM ?_ ?_ ts.length 0 [] B s.bs s.ts d (.AA []) (by omega) (by simpa using ho) hB (AM _) hs (by rw[same]; simp) (AL _) hd (.inl rfl) (Ew.refl _ _) (ES.AA _ _) (RR.AA _ _)
 ·rintro h bs tk d' hT hd' hch
  simp only at h;subst h;have e1:L1 Ao ex ts B=(none,B1):=by rw[L1,ho]
  rw[e1];exact FE hs hT (hd'.BG.Aa _) (r:=none) rfl fun w hw=>⟨d',tk,hw,hd',hch,rfl⟩
 ·rintro ls h bs tk d' acc hs1 hT OH hd' hch hacc
  simp only at h hd';subst h
  have e1:L1 Ao ex ts B=bif ls.any List.isEmpty then(some [],B1) else match DG (AR Ao) ls [[]] with
   | none=>(none,B1)
   | some all=>(some (all.map (.mk 3 [] 0)),B1):=by simp only[L1,ho] <;> cases DG (AR Ao) ls [[]] <;> rfl
  obtain⟨XS,Oc⟩:=ABD ls hxl rfl (by simp);have gE:bs[e]?=some [d',AD Ao]:=Dh hT (by rw[EA le]);simp only[BV,CJ] at Oc;obtain⟨v,s',⟨ts',r1,r2,rfl⟩,r3⟩:=zQ (R:=R) (L:=Ca (env R) 88 0 0 0) JI hacc (by omega) (fun l hl=>by have:=XS l hl; omega) hs1 gE rfl rfl;have Ru:=r2.keep hd' (fun _ h=>by cases h);have N4:=hch.side r2 (ES.AA _ _);refine AJU ⟨_,_,r3,?_⟩
  have fin:∀ (r:Option (List (List Ty))) ,bJ v r->(r.map (List.map (Ty.mk 3 [] 0)),B1)=L1 Ao ex ts B->(∀ all,r=some all->all.length<=Ao+1) ->
    DF v 0 fun a39=>DF v 1 fun a40=>Bz ⟨bs,ts'⟩ a39 fun a42=>bK R 0 0 0 a40 (.AA []) a39 a42 (AD 0) ⟨bs,ts'⟩ (QM (L.rr 88) s.bs.length (fun v s'=>∃ d' ts',xo v (L1 Ao ex ts B).1/\Ex 0 ts' 25 d' (AQ (L1 Ao ex ts B).2)/\Ew d d' s.ts ts'/\s'=⟨s.bs.set e [d',AD Ao],ts'⟩)):=by
   intro r hr he hle;rw[<-he];cases r with
   | none=>
    cases hr;refine Bq rfl (Bq rfl (BS (n:=0) rfl (rU (BE ?_))));rw[A9 (by omega)];exact BQ (ABE (FE hs hT (Ru.BG.Aa _) (r:=none) rfl fun w hw=>⟨d',ts',hw,Ru,N4,rfl⟩))
   | some all=>
    obtain⟨a,rfl,ha⟩:=hr;have hle':=hle all rfl;refine Bq rfl (Bq rfl (BS (n:=all.length) (by rw[ha.Bk,H9]) ?_));refine AFX ha (by omega) (mH:=ts') ?_ all.length 0 ts' (.AA []) (by omega) (.inl rfl) (Ew.refl _ _);intro N5 tk2 h5 h6;refine ABE (FE hs hT (Ru.BG.Aa _) (r:=some (all.map (.mk 3 [] 0))) ⟨N5,rfl,h5.BG⟩ fun w hw=>⟨d',tk2,hw,h6.keep Ru (fun _ h=>by cases h),N4.side h6 (ES.AA _ _),rfl⟩)
  refine fin _ r1 ?_ ?_
  ·rw[e1]
   cases ls.any List.isEmpty with
   | true=>rfl
   | false=>
    simp only[AB];cases DG (AR Ao) ls [[]] with
    | none=>rfl
    | some all=>rfl
  ·intro all h
   cases hb:ls.any List.isEmpty with
   | true=>rw[hb] at h; cases h; simp
   | false=>
    rw[hb] at h;simp only[AB] at h;rcases WI ls [[]] all h with h1|h1
    ·omega
    ·rw[h1]; simp
end
section
variable {R:RT}
theorem R4 {e:Nat} {t6:AV} {s:AK} {QR:QT} (h:QR (.tuple [.AA [],BB false]) s):Nh R 0 0 0 (.ptr e 0) t6 (BB false) s QR:=
 ABF (nt (Bv (Bv (Bv (Bv (Bv (Bv (Bv (pk (BZ h))))))))))
theorem bL {e Ao:Nat} {d a:AV} {l:List Ty} {s:AK} {QR:QT} (ha:BO a (AQ (Bx l))) (kE:s.bs[e]?=some [d,AD Ao]) (h:∀ w,xo w (bif AR Ao l.length then none else some l)->QR w s):Nh R 0 0 0 (.ptr e 0) a (BB true) s QR:=by
 refine ABF (nt (A8 (b:=false) (A8 (b:=false) (BS (n:=l.length) (by rw[ha.Bk,Ad,Bf,AZ]) (A8 (b:=false) (A8 (b:=false) (GG (A7 kE) (A8 (b:=false) (Aq (A7 kE) (A8 (b:=false) (Ax (off:=1) kE rfl (A8 (b:=false) (Je (pk ?_))))))))))))))
 have eb:decide ((l.length:Int)>(Ao:Nat))=AR Ao l.length:=by
  simp only[AR];rw[C0];simp only[BT];omega
 rw[eb];cases hb:AR Ao l.length with
 | true=>rw[hb] at h; exact BZ (h _ rfl)
 | false=>rw[hb] at h; exact BQ (AJV (h _ ⟨a,rfl,ha⟩))
theorem zT {e Ao M:Nat} {ex:Ty->List Ty->GF} {B0:List Ty} (fH:∀ t B,B<+:(ex t B).2) {ts:List Ty} (hxl:∀ t∈ts,∀ B r,(ex t B).1=some r->r.length<=Ao) {ya:AV} (YW:BO ya (AQ (Bx ts))) (hl:ts.length*Ao<2 ^ 38) (Oc:ts.length<2 ^ 38)
  (ih:∀ t∈ts,∀ B,B0<+:B->(ex t B).2.length<=M->∀ x,Ba (ren t) x->∀ s,B9 s->WA R e Ao 44 [x] (ex t B) B s)
  {s0:AK} (he:e<s0.bs.length) {d0:AV} {o:(List Ty×Bool)×List Ty} (Tf:o.2.length<=M) {QR:QT}
  (hK:∀ bs tk d acc,B9 ⟨bs,tk⟩->bs.take s0.bs.length=s0.bs.set e [d,AD Ao]->Ex 0 tk 25 d (AQ o.2)->Ew d0 d s0.ts tk->BO acc (AQ (Bx o.1.1))->Nh R 0 0 0 (.ptr e 0) acc (BB o.1.2) ⟨bs,tk⟩ QR) :
  ∀ (j p:Nat) (out:List Ty) (ok:Bool) (Bc:List Ty) (bs:List (List AV)) (tk:List (Nat×Nat)) (d acc:AV),p+j=ts.length->FH ex (ts.drop p) out ok Bc=o->B0<+:Bc->out.length+j*Ao<=ts.length*Ao ->
   B9 ⟨bs,tk⟩->bs.take s0.bs.length=s0.bs.set e [d,AD Ao]->s0.bs.length<=bs.length ->
   Ex 0 tk 25 d (AQ Bc)->Ex 0 tk 25 acc (AQ (Bx out))->Ew d0 d s0.ts tk->ES acc s0.ts->RR d acc ->
   jq R 0 0 0 (.ptr e 0) acc (BB ok) ya (AD ts.length) (AD p) ⟨bs,tk⟩ QR:=by
 intro j
 induction j with
 | zero=>
  intro p out ok Bc bs tk d acc hi hseq hB hop hs hT OH hd hacc hch hfr HX;refine ABG (BE ?_);rw[A9 (by omega)];rw[Cf (by omega),FH] at hseq;subst hseq;exact BQ (hK bs tk d acc hs hT hd hch hacc.BG)
 | succ j Gs=>
  intro p out ok Bc bs tk d acc hi hseq hB hop hs hT OH hd hacc hch hfr HX;refine ABG (BE ?_);rw[Au (by omega)];obtain⟨c,hc⟩:∃ c,ts[p]?=some c:=⟨_,Ak (by omega)⟩;have hrc:(Bx ts)[p]?=some (ren c):=by rw[Bf]; simp[hc]
  have hrl:((Ah (ren c)).map AV.pv).length=4:=by rw[AZ,Am]
  have hro:=DZ (ren c)
  have L3:AU (bs.length+1) ((Ah (ren c)).map AV.pv)=true:=by
   obtain⟨k1,n1,i1,t1⟩:=ren c;simp[Ah,AU,Aa]
  have JJ:=(Bp.Ci (ren c)).jO;rw[FO] at hop;refine BZ (AJW (B7 YW (row:=Ah (ren c)) (by omega) (by simpa using CA hrc) (Am _) (by omega) (EU (Cj ?_))));rw[drop_cons hc,FH] at hseq;generalize (Ah (ren c)).map AV.pv=row at hrl hro L3 JJ;refine Ck (Ay bs Z4) hrl rfl (by decide) (AM _) hro (.inl (AM _)) ?_;have e1:(bs++[Z4]).set bs.length row=bs++[row]:=by simp
  rw[e1];have hs1:B9 ⟨bs++[row],tk⟩:=B9.app (s:=⟨bs,tk⟩) hs L3;have gr:=Ay bs row;have YR:=(Gu OH row).trans hT;have lb:(bs++[row]).length=bs.length+1:=by simp
  generalize bs++[row]=b1 at hs1 gr YR lb;have gE:(s0.bs.set e [d,AD Ao])[e]?=some [d,AD Ao]:=by rw[EA he]
  have xp:∀ (l:List Ty) out ok B,B<+:(FH ex l out ok B).2:=fun l out ok B=>PJ fH l out ok B
  have fI:=ih c (BK hc) Bc hB;have zU:=hxl c (BK hc) Bc;have hpre:=fH c Bc;rcases hg:ex c Bc with ⟨r,B1⟩
  rw[hg] at hseq fI hpre zU;simp only at hseq fI hpre zU
  have U2:B1.length<=M:=by
   cases r with
   | none=>
    simp only at hseq;have:=(xp (ts.drop (p+1)) out false B1).length_le;rw[hseq] at this;omega
   | some r=>
    simp only at hseq;have:=(xp (ts.drop (p+1)) (out++r) ok B1).length_le;rw[hseq] at this;omega
  obtain⟨w2,s2',⟨d2,N2,q1,q2,q3,rfl⟩,q4⟩:=fI U2 (.agg row) JJ ⟨b1,tk⟩ hs1 (Ca (env R) 44 0 0 0) d rfl rfl (Dh YR gE) hd;have RD:(b1.set e [d2,AD Ao]).take s0.bs.length=s0.bs.set e [d2,AD Ao]:=by rw[Gz (c:=[d2,AD Ao]) YR,E3]
  have Md:=q3.keep hacc HX;have K2:RR d2 acc:=HX.V7 q3 hacc;have N4:=hch.trans q3
  have pick:∀ (b:Bool) (s:AK) (K:AV->AK->Prop),K (BB (ok&&b)) s->KX (BB ok) true s (fun K=>K (BB b) s) fun a40 s1=>Bi (BB ok) a40 (BB false) fun a41=>K a41 s1:=by
   intro b s K hK;cases ok with
   | true=>exact A8 (pk hK)
   | false=>exact Cy (pk hK)
  refine Az gr hrl ⟨_,_,q4,?_⟩
  have go:∀ (a2:AV) (b:Bool) (AFY:List Ty) (r2:List Ty),AFY=out++r2->r2.length<=Ao->BO a2 (AQ (Bx r2))->FH ex (ts.drop (p+1)) AFY (ok&&b) B1=o ->
    DF (.tuple [a2,BB b]) 0 fun a33=>DF (.tuple [a2,BB b]) 1 fun a34=>(4=4/\4≠0)/\E1 false (Ca (env R) 44 0 0 0) ⟨b1.set e [d2,AD Ao],N2⟩ 25 4 56 acc a33 fun a37 AJY=>
     KX (BB ok) true AJY (fun K=>K a34 AJY) fun a40 YO=>Bi (BB ok) a40 (BB false) fun a41=>jr R 0 0 0 (.ptr e 0) a37 a41 ya (AD ts.length) (AD p) YO QR:=by
   intro a2 b AFY r2 ho2 Qs U1 hseq;subst ho2;refine Bq rfl (Bq rfl ⟨by decide,Jl Md rfl (by rw[Bf,Bf,AZ,AZ]; omega) U1 fun acc' RE Ng Rq=>pick b _ (fun a41 YO=>jr R 0 0 0 (.ptr e 0) acc' a41 ya (AD ts.length) (AD p) YO QR) (AJZ (Cr (by omega) (by omega) ?_))⟩);have er:Bx out++Bx r2=Bx (out++r2):=by simp[Bf]
   rw[er] at Ng;have zJ:=Rq.keep q2 K2.symm;have YQ:=N4.side Rq hfr;have hs2:B9 ⟨b1.set e [d2,AD Ao],RE⟩:=B9.set (s:=⟨b1,tk⟩) hs1 (by simp[AU,Aa,q2.BG.Aa]) _;have:=Gs (p+1) (out++r2) (ok&&b) B1 (b1.set e [d2,AD Ao]) RE d2 acc' (by omega) hseq (hB.trans hpre) (by rw[Ab]; omega) hs2 RD (by simp; omega) zJ Ng YQ (hfr.V7 Rq N4.1) (K2.symm.V7 Rq q2).symm;simpa using this
  cases r with
  | none=>
   cases q1;exact go (.AA []) false out [] (by simp) (by simp) (.inl (.AA _)) (by simpa using hseq)
  | some r=>
   obtain⟨a2,rfl,U1⟩:=q1;exact go a2 true (out++r) r rfl (zU r rfl) U1 (by simpa using hseq)
end
theorem AFZ {L:A0} {s:AK} {a:AV} {es:List Ty} {t z:Ty} {K:AV->AK->Prop} (ha:Ex 0 s.ts 25 a (AQ es)) (Fz:L.rt=0) (hl:es.length<2 ^ 38) (h:∀ a' ts',Ex 0 ts' 25 a' (AQ (es++[t]))->Ew a a' s.ts ts'->K a' ⟨s.bs,ts'⟩) :
  wFu L s 25 4 56 a (.AA [Ah z]) (AD es.length) (.agg ((Ah t).map .pv)) K:=by
 have hlen:=Ad es
 have hall:((AQ es).all fun r=>r.length==4)=true:=by
  rw[Bs];intro r hr;simpa using HB hr
 have ht:Cn ((Ah t).map AV.pv)=some (Ah t):=K1 _;refine⟨⟨Ah z,rfl,Am z,DZ z⟩,?_,?_⟩
 ·rcases ha with rfl|⟨u,rfl,_,_⟩ <;> simp[Hg,rowsOf,hlen]
 ·unfold AJa
  refine⟨DZ t,?_⟩
  show wO (Cn ((Ah t).map AV.pv)) _
  rw[ht];refine⟨Am t,?_⟩;have er:AQ es++[Ah t]=AQ (es++[t]):=by simp[FY,AQ]
  rcases ha with rfl|⟨u,rfl,h1,h2⟩
  ·refine⟨⟨by omega,by omega,hall⟩,?_⟩
   refine h (.own s.ts.length (AQ es++[Ah t])) _ (.inr ⟨_,by rw[er],?_,AM _⟩) ⟨by simp,fun t ht _=>?_,.inr ⟨_,rfl,AL _⟩⟩
   ·rw[OX,<-er]
    simp
   ·rw[BA ht]
  ·refine⟨⟨by omega,by omega,h1,by omega,hall⟩,?_⟩
   have hlt:u<s.ts.length:=(Ae.1 h1).1;refine h (.own u (AQ es++[Ah t])) _ (.inr ⟨u,by rw[er],?_,AM _⟩) ⟨by simp,fun w hw hn=>?_,.inl rfl⟩
   ·rw[EA hlt,<-er]
    simp
   ·rw[Cd]
    intro hh;exact hn (by rw[<-hh]; rfl)
theorem BO.Cu {a:AV} {es:List Ty} (h:BO a (AQ es)):Tel.Cu a a=true:=by
 rcases h with (rfl|rfl)|⟨t,rfl⟩ <;> simp[Tel.Cu,Ep,VF]
abbrev qM (M:Nat):Int->Bool:=fun i=>decide (0<=i)&&decide (i<M)
theorem rW {Ao M f v:Nat} {b:Ty} {B0:List Ty} (hv:valid b=true) (hc:Dg 0 b=true) (hl:v<B0.length):ExB Ao v M (wt b) B0 (qM M) (Aj (AR Ao) f b):=by
 refine⟨fun B=>HQ f b B,fun B r hB h hM=>?_⟩;have hBl:=hB.length_le
 have fM:∀ q:Int->Bool,Ev q b=true:=fun q=>by
  have:=Jk (q:=q) (σ:=[]) (fun x hx=>by cases hx) b 0 hv;rwa [Ek hv hc] at this
 have AO3:inp b=true:=by
  have:=(Ky [] b 0 hv).2.2.2;rwa [Ek hv hc] at this
 have hlen:=Kv (Ai:=AR Ao) (by simp[AR]) f b B r h;refine⟨by simpa[AR] using hlen,fun c Pv=>?_⟩;obtain⟨h1,h2⟩:=Jh f b B M (qM M) r (fun i h3 h4=>by simp only[AG,BT]; omega) (fM _) h hM c Pv;obtain⟨h3,_⟩:=Jh f b B M (fun i=>qM M i&&!(i==(v:Int))) r (fun i h3 h4=>by simp only[AG,BT,Fq,D1]; omega) (fM _) h hM c Pv;have h5:=fun inv=>PC (q:=fun i=>qM M i&&!(i==(v:Int))) (v:=v) (by simp) c inv h3
 exact⟨h1,fun inv=>(h5 inv).1,(h5 true).2,h2,PK f b B r AO3 h c Pv⟩
section
variable {R:RT}
theorem Me {e:Nat} {k i:Int} {n:List UInt8} {a:AV} {rows:List (List PV)} (ha:BO a rows) {s:AK} {QR:QT} (b:Bool) (hb:(k==0||k==2)=b) (h:js R 0 0 0 (.ptr e 0) (.ptr s.bs.length 0) (.AA []) (BB true) (AD k) (BB b) ⟨s.bs++[[AD k,SS n,AD i,a]],s.ts⟩ QR):bM R 0 0 0 (.ptr e 0) (.agg [AD k,SS n,AD i,a]) s QR:=by
 have g0:=Ay s.bs [AD k,SS n,AD i,a];refine AJb (DY (cs:=[AD k,SS n,AD i,a]) rfl (by simp[ha.ok]) (Aq (A7 g0) (Ax (off:=0) g0 rfl (CC ?_))));cases h0:(k==0) with
 | true=>
  have e1:b=true:=by rw[<-hb,h0]; rfl
  rw[e1] at h;exact BZ h
 | false=>
  have e1:(k==2)=b:=by rw[<-hb,h0]; rfl
  refine BQ (CC ?_);rw[e1];exact h
theorem zV {e Ao:Nat} {T:Ty} {k i:Int} {n:List UInt8} {ts:List Ty} (hT:ren T=.mk k n i ts) (hk:(k==0||k==2)=true) {a:AV} (ha:BO a (AQ ts)) {s:AK} {d:AV} (gE:s.bs[e]?=some [d,AD Ao]) {QR:QT} (h:∀ w,xo w (bif AR Ao 1 then none else some [T])->QR w ⟨s.bs++[[AD k,SS n,AD i,a]],s.ts⟩):bM R 0 0 0 (.ptr e 0) (.agg [AD k,SS n,AD i,a]) s QR:=by
 have g0:=Ay s.bs [AD k,SS n,AD i,a];have hr:Ba (ren T) (.agg [AD k,SS n,AD i,a]):=by rw[hT]; exact⟨a,rfl,ha⟩
 refine Me ha true hk (bN (BZ (Az g0 rfl (Iu hr ?_))));exact bL (l:=[T]) (.inl (by simpa[Bx,AQ] using BP.AA [Ah (ren T)])) (A6 gE _) h
theorem zW {e:Nat} {k i:Int} {n:List UInt8} {a:AV} {rows:List (List PV)} (ha:BO a rows) {s:AK} {QR:QT} (h0:k≠0) (h2:k≠2) (h3:k≠3) (h4:k≠4) (h6:k≠6) {d:AV} {Ao:Nat} (gE:s.bs[e]?=some [d,AD Ao]) (h:∀ w,xo w (some [])->QR w ⟨s.bs++[[AD k,SS n,AD i,a]],s.ts⟩):bM R 0 0 0 (.ptr e 0) (.agg [AD k,SS n,AD i,a]) s QR:=by
 have e0:(k==0)=false:=by simpa using h0
 have e2:(k==2)=false:=by simpa using h2
 have e3:(k==3)=false:=by simpa using h3
 have e4:(k==4)=false:=by simpa using h4
 have e6:(k==6)=false:=by simpa using h6
 refine Me ha false (by rw[e0,e2]; rfl) (bN (BQ (CC ?_)));rw[e4];refine BQ (CC ?_);rw[e3];refine BQ (CC ?_);rw[e6];refine BQ ?_;exact bL (l:=[]) (.inl (by simpa[Bx,AQ] using BP.AA [])) (A6 gE _) (by simpa[AR] using h)
end
def mI (Ao:Nat) (ex:Ty->List Ty->GF) (b body:Ty) (B:List Ty):GF:=match ex (sub B.length 0 body) (B++[b]) with
 | (none,B1)=>(none,B1)
 | (some l,B1)=>match CN (AR Ao) (BX (AR Ao) (ex b) B.length) l [] B1 with
  | (none,B2)=>(none,B2)
  | (some out,B2)=>(bif AR Ao out.length then none else some out,B2)
section
variable {R:RT}
theorem mJ (hn:TC R) {e Ao M f:Nat} (JI:Ao<2 ^ 20) (hM:M<2 ^ 37) {b Cz:Ty} {σ:List Nat} (RB:valid b=true) (hcb:Dg 0 b=true) (hv:valid Cz=true) (hc:Dg (1+σ.length) Cz=true) (hsz:size Cz<2 ^ 38) (hW:(wt Cz+max 1 (cv Cz)*wt b)<2 ^ 37)
  {B:List Ty} (hσ:∀ x∈σ,x<B.length)
  (TI:∀ (B:List Ty),(Aj (AR Ao) f b B).2.length<=M->∀ x,Ba (ren b) x->∀ s,B9 s->WA R e Ao 44 [x] (Aj (AR Ao) f b B) B s)
  (ihy:(Aj (AR Ao) f (inst (B.length::σ) 0 Cz) (B++[b])).2.length<=M->∀ x,Ba (ren (inst (B.length::σ) 0 Cz)) x->∀ s,B9 s->WA R e Ao 44 [x] (Aj (AR Ao) f (inst (B.length::σ) 0 Cz) (B++[b])) (B++[b]) s)
  (Tf:(mI Ao (Aj (AR Ao) f) b (inst σ 1 Cz) B).2.length<=M) {n:List UInt8} {i:Int} {x:AV} (hx:Ba (ren (.mk 6 n i [b,inst σ 1 Cz])) x) {s:AK} (hs:B9 s):WA R e Ao 44 [x] (mI Ao (Aj (AR Ao) f) b (inst σ 1 Cz) B) B s:=by
 intro L d hro Fz hE hd;have le:=(Ae.1 hE).1;have same:s.bs.set e [d,AD Ao]=s.bs:=by rw[<-(Ae.1 hE).2]; exact HJ _
 have Uz:sub B.length 0 (inst σ 1 Cz)=inst (B.length::σ) 0 Cz:=Kq B.length σ Cz 0 hv (by simpa[Eb] using hc)
 have AO5:ren (.mk 6 n i [b,inst σ 1 Cz])=.mk 6 n i [b,ren (inst σ 1 Cz)]:=by
  rw[Gt _ _ _ _ (by decide),Bx,Bx,Bx,M5 b RB]
 have zU:=hx;rw[AO5] at hx;obtain⟨a,rfl,ha⟩:=hx;obtain⟨_,_,hxi⟩:=zU.cells;generalize K3:mI Ao (Aj (AR Ao) f) b (inst σ 1 Cz) B=o at Tf ⊢;rw[mI,Uz] at K3;have hpy:=HQ (Ai:=AR Ao) f (inst (B.length::σ) 0 Cz) (B++[b]);have hall:=Jh (Ai:=AR Ao) f (inst (B.length::σ) 0 Cz) (B++[b]) M (qM M);have hpat:=PK (Ai:=AR Ao) f (inst (B.length::σ) 0 Cz) (B++[b]);have rX:=YD (Ai:=AR Ao) f (inst (B.length::σ) 0 Cz) (B++[b]);have N0:=Kv (Ai:=AR Ao) (by simp[AR]) f (inst (B.length::σ) 0 Cz) (B++[b]);obtain⟨z1,z2,z3,z4⟩:=Ky (B.length::σ) Cz 0 hv;rw[z3] at hall;have fM:Ev (fun i=>qM M i&&decide (i<((B++[b]).length:Nat))) (inst (B.length::σ) 0 Cz)=true->True:=fun _=>trivial
 rcases hg:Aj (AR Ao) f (inst (B.length::σ) 0 Cz) (B++[b]) with ⟨r,B1⟩
 rw[hg] at K3 ihy hpy hall hpat rX N0;simp only at K3 ihy hpy hall hpat rX N0;have hcp:∀ l,B1<+:(CN (AR Ao) (BX (AR Ao) (Aj (AR Ao) f b) B.length) l [] B1).2:=fun l=>Ji (fun c B=>M4 (fun B=>HQ f b B) _ c B) l [] B1
 have U2:B1.length<=M:=by
  cases r with
  | none=>simp only at K3; subst K3; exact Tf
  | some l=>
   simp only at K3;have:=(hcp l).length_le;rcases hk:CN (AR Ao) (BX (AR Ao) (Aj (AR Ao) f b) B.length) l [] B1 with ⟨_|out,B2⟩ <;> rw[hk] at K3 this <;> simp only at K3 this <;> subst K3 <;> simp only at Tf <;> omega
 have hBl:B.length+1<=B1.length:=by have:=hpy.length_le; simpa using this
 refine m44 (by simp[BN,Dl]) ?_;rw[hro,Fz];have g0:=Ay s.bs [AD 6,SS n,AD i,a];have gE:=A6 hE [AD 6,SS n,AD i,a];have hT:(s.bs++[[AD 6,SS n,AD i,a]]).take s.bs.length=s.bs.set e [d,AD Ao]:=by rw[same]; simp
 have hok:B9 ⟨s.bs++[[AD 6,SS n,AD i,a]],s.ts⟩:=B9.app (s:=s) hs (hxi _);refine Me ha false rfl (bN (BQ (CC (BQ (CC (BQ (CC (BZ ?_))))))));generalize s.bs++[[AD 6,SS n,AD i,a]]=bs at g0 gE hT hok;have hZ:Ba (.mk 0 [] 0 []) (.agg [(AD 0),(SS []),(AD 0),(.AA [])]):=⟨.AA [],rfl,.inl (.AA _)⟩;refine GG (A7 gE) (Aq (A7 gE) (Ax (off:=0) gE rfl (BS (n:=B.length) (by rw[hd.BG.Bk,Ad]) (GG (A7 gE) (Aq (A7 gE) (Ax (off:=0) gE rfl (Aq (A7 g0) (Ax (off:=3) g0 rfl ?_))))))));refine B7 ha (row:=Ah b) (by omega) rfl (Am _) (by omega) (EU (BS (n:=B.length) (by rw[hd.BG.Bk,Ad]) (Iu hZ ⟨⟨rfl,rfl,rfl,by decide⟩,AFZ hd rfl (by omega) fun d2 N2 w1 w2=>?_⟩)));refine GG (A7 gE) (Aq (A7 gE) (Fl gE (by simp) w1.BG.cells (AM _) w1.BG.ok (.inl (AM _)) ?_));have AO6:[d,AD Ao].set 0 d2=[d2,AD Ao]:=rfl;rw[AO6];have hne:e≠s.bs.length:=by omega
 have gE2:(bs.set e [d2,AD Ao])[e]?=some [d2,AD Ao]:=DH gE;have g02:(bs.set e [d2,AD Ao])[s.bs.length]?=some [AD 6,SS n,AD i,a]:=Cs g0 hne;have RD:(bs.set e [d2,AD Ao]).take s.bs.length=s.bs.set e [d2,AD Ao]:=by rw[Gz (c:=[d2,AD Ao]) hT,E3]
 have AFa:B9 ⟨bs.set e [d2,AD Ao],N2⟩:=B9.set (s:=⟨bs,s.ts⟩) hok (by simp[AU,Aa,w1.BG.Aa]) _;generalize bs.set e [d2,AD Ao]=b2 at gE2 g02 RD AFa;refine Aq (A7 g02) (Ax (off:=3) g02 rfl (B7 ha (row:=Ah (ren (inst σ 1 Cz))) (by omega) rfl (Am _) (by omega) (EU ?_)));refine AI (QG hn B.length (by omega)) ?_;rintro _ rfl
 have dy:H6 (2 ^ 40) (inst σ 1 Cz)=true:=by
  rw[M8];exact Jk (fun x hx=>by have:=hσ x hx; simp only[AG,BT]; omega) Cz 1 hv
 have AO7:size (inst σ 1 Cz)<2 ^ 38:=by rw[(Ky σ Cz 1 hv).1]; exact hsz
 refine AI (RQ (v:=B.length) AO7 dy (TS σ Cz 1 hv) (Bp.Ci _)) ?_;rintro y hy;rw[Uz] at hy;obtain⟨w,s',⟨d3,RE,q1,q2,q3,rfl⟩,q4⟩:=ihy U2 y hy.jO ⟨b2,N2⟩ AFa (Ca (env R) 44 0 0 0) d2 rfl rfl gE2 w1;have jh:(b2.set e [d3,AD Ao]).take s.bs.length=s.bs.set e [d3,AD Ao]:=by rw[Gz (c:=[d3,AD Ao]) RD,E3]
 have gE3:(b2.set e [d3,AD Ao])[e]?=some [d3,AD Ao]:=DH gE2;have hch:Ew d d3 s.ts RE:=w2.trans q3;have AO8:B9 ⟨b2.set e [d3,AD Ao],RE⟩:=B9.set (s:=⟨b2,N2⟩) AFa (by simp[AU,Aa,q2.BG.Aa]) _;have HY:Tel.Cu a a=true:=BO.Cu (es:=[b,ren (inst σ 1 Cz)]) ha;refine⟨_,_,q4,?_⟩
 have conds:∀ {K:Prop} ,K->(Bo ⟨b2,N2⟩ (.ptr s.bs.length 0) 3 fun v=>Tel.Cu v (.ptr s.bs.length (0+3))=true)/\(FA (env R) ⟨b2,N2⟩ none (.ptr s.bs.length (0+3)) fun v=>Tel.Cu v a=true)/\(Dc ⟨b2,N2⟩ 4 a (AD 1) fun v=>Tel.Cu v (.DK (Ah (ren (inst σ 1 Cz))) 0)=true)/\(FA (env R) ⟨b2,N2⟩ (some 4) (.DK (Ah (ren (inst σ 1 Cz))) 0) fun v=>Tel.Cu v (.agg ((Ah (ren (inst σ 1 Cz))).map .pv))=true)/\K:=fun hK=>
  ⟨Aq (A7 g02) (HR _ _),Ax (off:=3) g02 rfl HY,B7 ha (row:=Ah (ren (inst σ 1 Cz))) (by omega) rfl (Am _) (by omega) (by simp[Tel.Cu,Zj]),EU (PL _),hK⟩
 cases r with
 | none=>
  cases q1;simp only at K3;subst K3;exact Bq rfl (Bq rfl (conds (BQ (R4 (FE hs jh (q2.BG.Aa _) (r:=none) rfl fun w hw=>⟨d3,RE,hw,q2,hch,rfl⟩)))))
 | some l=>
  obtain⟨a3,rfl,ha3⟩:=q1;refine Bq rfl (Bq rfl (conds (BZ ?_)));simp only at K3;have y9:l.length<=Ao:=by simpa[AR] using N0 l rfl
  have XS:=hall l (fun i h1 h2=>by simp only[AG,BT]; omega) (Jk (fun x hx=>by
   simp only[AG,BT,Ab,A3,BV];rcases Av.1 hx with rfl|hx
   ·omega
   ·have:=hσ x hx
    omega) Cz 0 hv) rfl U2
  have Oc:=hpat l z4 rfl
  have hcA:∀ t∈l,BF (·==(B.length:Int)) t<=cv Cz:=fun t ht=>by
   have h1:=rX l rfl t ht;rw[jP _ _ _ hv] at h1;exact Bh (Ry (fun _ _=>rfl) t) h1
  have hvB:(B++[b])[B.length]?=some b:=by simp
  have hxb:ExB Ao B.length M (wt b) (B++[b]) (qM M) (Aj (AR Ao) f b):=rW RB hcb (by simp);have hrb:ren b=b:=M5 b RB;have pG:=jk (R:=R) hn (e:=e) (S:=(wt Cz+max 1 (cv Cz)*wt b)) (fun i hi=>by simp only[AG,BT] at hi; omega) JI hW hxb hvB (fun B s hs' _ Y3=>TI B Y3 _ (by rw[hrb]; exact(Bp.Ci b).jO) s hs')
  have Dp:∀ o,CN (AR Ao) (BX (AR Ao) (Aj (AR Ao) f b) B.length) l [] B1=o->o.2.length<=M:=by
   intro o' ho;rw[ho] at K3;rcases o' with ⟨_|out,B2⟩ <;> simp only at K3 <;> subst K3 <;> exact Tf
  obtain⟨w4,s4,⟨d4,ts4,k1,k2,k3,rfl⟩,k4⟩:=zL (R:=R) hn (e:=e) (M:=M) (W:=wt b) (S:=(wt Cz+max 1 (cv Cz)*wt b)) (B0:=B++[b]) (q:=qM M) (fun i hi=>by simp only[AG,BT] at hi; omega) JI hW (fun B=>HQ f b B) y9 ha3 (fun t ht=>by
   obtain⟨y1,y2⟩:=XS t ht;refine⟨y1,Oc t ht,?_⟩;have y3:=hcA t ht;have y4:BF (·==(B.length:Int)) t*wt b<=max 1 (cv Cz)*wt b:=CB _ (by omega);omega) pG hpy (Dp _ rfl) AO8 (Ca (env R) 44 0 0 0) d3 rfl rfl gE3 q2
  have hT4:((b2.set e [d3,AD Ao]).set e [d4,AD Ao]).take s.bs.length=s.bs.set e [d4,AD Ao]:=by rw[Gz (c:=[d4,AD Ao]) jh,E3]
  have gE4:((b2.set e [d3,AD Ao]).set e [d4,AD Ao])[e]?=some [d4,AD Ao]:=DH gE3;have AJe:=hch.trans k3;refine⟨_,_,k4,?_⟩;rcases hk:CN (AR Ao) (BX (AR Ao) (Aj (AR Ao) f b) B.length) l [] B1 with ⟨ro,B2⟩
  rw[hk] at k1 k2 K3;cases ro with
  | none=>
   cases k1;simp only at K3;subst K3;exact Bq rfl (Bq rfl (R4 (FE hs hT4 (k2.BG.Aa _) (r:=none) rfl fun w hw=>⟨d4,ts4,hw,k2,AJe,rfl⟩)))
  | some out=>
   obtain⟨a5,rfl,ha5⟩:=k1;simp only at K3;subst K3;exact Bq rfl (Bq rfl (bL ha5 gE4 fun w hw=>FE hs hT4 (k2.BG.Aa _) hw fun w hw=>⟨d4,ts4,hw,k2,AJe,rfl⟩))
end
def ex2:List Nat->Nat
 | [_,c]=>c
 | _=>0
mutual
def lv:Ty->Nat
 | .mk k _ _ ts=>bif k==7||k==5 then 1 else bif k==3 then(lvl ts).sum else bif k==4 then(lvl ts).foldr max 0 else bif k==6 then ex2 (lvl ts) else 0
def lvl:List Ty->List Nat
 | []=>[]
 | t::l=>lv t::lvl l
end
theorem Ya:∀ l:List Ty,lvl l=l.map lv
 | []=>rfl
 | t::l=>by rw[lvl,Ya l]; rfl
theorem max_mem:∀ {l:List Nat} {n:Nat},n∈l->n<=l.foldr max 0
 | a::l,n,h=>by
  rw[List.foldr_cons];rcases Av.1 h with rfl|h
  ·omega
  ·have:=max_mem h
   omega
mutual
theorem R5 (σ:List Nat):∀ (t:Ty) (u:Nat),valid t=true->lv (inst σ u t)=lv t
 | .mk k n i ts,u,hv=>by
  rcases D5 σ u hv with ⟨rfl,rfl,rfl,h0,h1,⟨v,h2,h3⟩|h3⟩|⟨b5,h3⟩
  ·rw[h3]
   rfl
  ·rw[h3]
  ·simp only[valid,AG] at hv
   rw[h3,lv,lv,bO σ ts u k 0 hv.2]
theorem bO (σ:List Nat):∀ (l:List Ty) (u:Nat) (k:Int) (j:Nat),Bw l=true->lvl (C5 σ u k j l)=lvl l
 | [],_,_,_,_=>rfl
 | t::l,u,k,j,hv=>by
  simp only[Bw,AG] at hv;rw[C5,lvl,lvl,R5 σ t _ hv.1,bO σ l u k (j+1) hv.2]
end
mutual
theorem bP {m q:Int->Bool} {b:Ty} (hb:BF q b=0):∀ (t:Ty) (k:Nat),BF q (KU m b t k)<=BF q t
 | .mk c n i ts,k=>by
  have ih:=WL (m:=m) hb ts k;rw[KU];cases h7:c==7 with
  | true=>
   simp only[AE];cases bif m i then k==0 else false with
   | true=>cases m i&&k==0 <;> simp[hb]
   | false=>cases m i&&k==0 <;> simp[hb]
  | false=>
   simp only[AB];cases h3:c==3 with
   | true=>
    simp only[AE];rw[BF,BF,h7,h3];exact ih
   | false=>exact AL _
theorem WL {m q:Int->Bool} {b:Ty} (hb:BF q b=0):∀ (l:List Ty) (k:Nat),CP q (Jv m b l k)<=CP q l
 | [],_=>AL _
 | t::l,k=>by
  rw[Jv];cases decide (k<BF m t) with
  | true=>
   have:=bP (m:=m) hb t k;simp only[AE,CP];omega
  | false=>
   have:=WL (m:=m) hb l (k-BF m t);simp only[AB,CP];omega
end
section
variable {Ai:Nat->Bool}
theorem WM {ex:List Ty->GF} {q:Int->Bool} {v:Nat} (hx:∀ B,B.length<=(ex B).2.length) {lo M:Nat} (hr:∀ B r,lo<=B.length->(ex B).1=some r->(ex B).2.length<=M->∀ c∈r,BF q c=0) :
  ∀ (f:Nat) (t:Ty) (B r:List Ty),lo<=B.length->(B8 Ai ex v f t B).1=some r->(B8 Ai ex v f t B).2.length<=M->∀ p∈r,BF q p<=BF q t
 | 0,t,B,r,_,h,_=>by
  rw[B8] at h;cases h;simp
 | f+1,t,B,r,hlo,h,hM=>by
  have h1:=hx B;have h2:=hr B;rw[B8] at h hM;cases ho:C6 v false t with
  | false=>rw[ho] at h; cases h; simp
  | true=>
   rw[ho] at h hM;simp only[AE] at h hM;rcases he:ex B with ⟨_|cs,B1⟩
   ·rw[he] at h
    cases h
   ·rw[he] at h hM h1 h2
    simp only at h hM h1 h2;have h3:=Ih (Ai:=Ai) (g:=fun c B=>B8 Ai ex v f (KU (·==(v:Int)) c t 0) B) (fun c B=>H7 hx v f _ B) cs [] B1;have h4:=h2 cs hlo rfl (by omega);refine Jf (fun c B=>H7 hx v f _ B) (lo:=lo) cs [] B1 r ?_ (by omega) h hM (by simp);intro c hc B' r' o9 h' Y3 p hp;exact Bh (WM hx hr f _ B' r' o9 h' Y3 p hp) (bP (h4 c hc) t 0)
theorem bQ:∀ (f:Nat) (t:Ty) (σ:List Nat) (B:List Ty) (M v:Nat) (r:List Ty),valid t=true->Dg σ.length t=true->v<B.length->(∀ x∈σ,x<B.length) ->
  (Aj Ai f (inst σ 0 t) B).1=some r->(Aj Ai f (inst σ 0 t) B).2.length<=M->∀ p∈r,BF (·==(v:Int)) p<=lv t
 | 0,_,_,_,_,_,_,_,_,_,_,h,_=>by cases h
 | f+1,.mk k n i ts,σ,B,M,v,r,hv,hc,hvB,hσ,h,hM=>by
  have ih:=bQ f;have hf:=fun t B=>Jg (Ai:=Ai) f t B
  have P5:=hv;simp only[valid,AG] at hv
  have part:∀ (hk:k≠6) (bF:k≠5),∀ t∈ts.map (inst σ 0),∀ (B' r:List Ty),B.length<=B'.length->(Aj Ai f t B').1=some r->(Aj Ai f t B').2.length<=M->∀ p∈r,BF (·==(v:Int)) p<=lv t:=by
   intro hk bF t ht B' r hl h hM;obtain⟨t0,Y6,rfl⟩:=Bb.1 ht;rw[R5 σ t0 0 (Cv hv.2 Y6)];exact ih t0 σ B' M v r (Cv hv.2 Y6) (Hz hk (EK hc bF) Y6) (by omega) (fun x hx=>GN (hσ x hx) hl) h hM
  have emap:Bw ts=true->(ts.map (inst σ 0)).map lv=ts.map lv:=by
   intro hv;rw[OL];refine IG fun t ht=>?_
   exact R5 σ t 0 (Cv hv ht)
  rcases D5 σ 0 P5 with ⟨rfl,rfl,rfl,_,_,⟨x,h2,h3⟩|h3⟩|⟨b5,h3⟩
  ·rw[h3,Aj] at h
   have:(7:Int)==7:=rfl;simp only[show((7:Int)==7)=true from rfl,EN,AE] at h;cases hb:Ai 1 with
   | true=>rw[hb] at h; cases h
   | false=>
    rw[hb] at h;cases h;intro p hp;rw[Bj.1 hp,BF,lv];simp only[show((7:Int)==7)=true from rfl,AE,show((5:Int)==7||(5:Int)==5)=true from rfl];cases (x:Int)==(v:Int) <;> simp
  ·rw[h3,Aj] at h
   simp only[show((5:Int)==0||(5:Int)==2||(5:Int)==7)=false from rfl,show((5:Int)==4)=false from rfl,show((5:Int)==3)=false from rfl,show((5:Int)==6)=false from rfl,AB] at h;cases hb:Ai 0 with
   | true=>rw[hb] at h; cases h
   | false=>rw[hb] at h; cases h; simp
  ·rw[h3,Aj] at h hM
   cases h0:k==0||k==2||k==7 with
   | true=>
    rw[h0] at h;simp only[AE] at h;cases hb:Ai 1 with
    | true=>rw[hb] at h; cases h
    | false=>
     rw[hb] at h;cases h;intro p hp;have h7:=Jb P5;have b7:(k==7)=false:=by simpa using h7
     have b3:(k==3)=false:=by
      have:k=0\/k=2\/k=7:=by simpa[or_assoc] using h0
      rcases this with rfl|rfl|rfl <;> rfl
     rw[Bj.1 hp,BF,b7,b3];exact AM _
   | false=>
    rw[h0] at h hM;simp only[AB] at h hM;cases h4:k==4 with
    | true=>
     have hk:k=4:=by simpa using h4
     subst hk;rw[h4,FB (k:=4) (by decide)] at h hM;simp only[AE] at h hM
     have key:=MZ hf (P:=fun p=>BF (·==(v:Int)) p<=lv (.mk 4 n i ts)) (lo:=B.length) (M:=M) (ts.map (inst σ 0)) [] true B (fun t hm B' r hl h hM p hp=>Bh (part (by decide) (by decide) t hm B' r hl h hM p hp) (by
      have h5:lv t∈(ts.map (inst σ 0)).map lv:=Ed hm;rw[emap hv.2] at h5;rw[lv,Ya];exact max_mem h5)) (AL _)
     generalize FH (Aj Ai f) (ts.map (inst σ 0)) [] true B=o at h hM key;obtain⟨⟨o,ok⟩,B1⟩:=o;simp only at h hM key;cases hb:ok&&!Ai o.length with
     | false=>rw[hb] at h; cases h
     | true=>
      rw[hb] at h;cases h;exact key hM (by simp)
    | false=>
     rw[h4] at h hM;simp only[AB] at h hM;cases LS:k==3 with
     | true=>
      have hk:k=3:=by simpa using LS
      subst hk;rw[LS,FB (k:=3) (by decide)] at h hM;simp only[AE] at h hM;have key:=fun r=>PG hf (P:=fun w p=>BF (·==(v:Int)) p<=w) (w:=lv) (lo:=B.length) (M:=M) (ts.map (inst σ 0)) [] [] B r (part (by decide) (by decide)) (AL _)
      rcases hs:Er (Aj Ai f) (ts.map (inst σ 0)) [] B with ⟨_|ls,B1⟩
      ·rw[hs] at h
       cases h
      ·rw[hs] at h hM key
       simp only at h hM key;cases he:ls.any List.isEmpty with
       | true=>
        rw[he] at h;cases h;simp
       | false=>
        rw[he] at h hM;simp only[AB] at h hM;cases Y2:DG Ai ls [[]] with
        | none=>rw[Y2] at h; cases h
        | some all=>
         rw[Y2] at h hM;simp only at h hM;cases hb:Ai all.length with
         | true=>rw[hb] at h; cases h
         | false=>
          rw[hb] at h;cases h;intro p hp;obtain⟨a,ha,rfl⟩:=Bb.1 hp;have h5:=QJ (q:=(·==(v:Int))) ls _ _ all 0 (key ls rfl hM Al) Y2 (by simp[CP]) a ha;simp only[Di,CJ,emap hv.2] at h5;rw[BF,lv,Ya];exact h5
     | false=>
      rw[LS] at h hM;simp only[AB] at h hM;cases Ux:k==6 with
      | false=>
       rw[Ux] at h;simp only[AB] at h;cases hb:Ai 0 with
       | true=>rw[hb] at h; cases h
       | false=>rw[hb] at h; cases h; simp
      | true=>
       have:k=6:=by simpa using Ux
       subst this;rcases O8 hv.1 with h' | h' | h' | h' | h' | h' | ⟨_,rfl,rfl,b,body,rfl,hcb⟩
       iterate 6 exact absurd h' (by simp)
       simp only[Bw,AG] at hv;obtain⟨_,RB,cy,_⟩:=hv;have eb:inst σ (0+HF 6 0) b=b:=JF σ b 0 RB hcb
       have rH:Dg (1+σ.length) body=true:=by
        have:=EK hc (by decide);simp only[Eg,AG] at this;have h2:=this.2.1;rw[Eb];exact h2
       have Uz:sub B.length 0 (inst σ 1 body)=inst (B.length::σ) 0 body:=Kq B.length σ body 0 cy (by simpa[Eb] using rH);have e1:inst σ (0+HF 6 (0+1)) body=inst σ 1 body:=rfl;rw[Ux] at h hM;simp only[AE,C5,eb,Zn] at h hM;rw[e1,Uz] at h hM;have hfl:=Jg (Ai:=Ai) f b
       have hbc:∀ B' r,B.length<B'.length->(Aj Ai f b B').1=some r->(Aj Ai f b B').2.length<=M->∀ c∈r,BF (·==(v:Int)) c=0:=by
        intro B' r hl h hM c Pv
        have fM:∀ q:Int->Bool,Ev q b=true:=fun q=>by
         have:=Jk (q:=q) (σ:=[]) (fun x hx=>by cases hx) b 0 RB;rwa [Ek RB hcb] at this
        have h5:=Jh f b B' M (fun i=>!(i==(v:Int))) r (fun i h3 h4=>by
         simp only[Fq,D1];omega) (fM _) h hM c Pv
        exact(PC (q:=fun i=>!(i==(v:Int))) (v:=v) (by simp) c true h5.1).2
       have hy:=fun l=>ih body (B.length::σ) (B++[b]) M v l cy (by rw[A3,Eb]; exact rH) (by simp; omega) (fun x hx=>by
        rw[Ab,A3,BV];rcases Av.1 hx with rfl|hx
        ·omega
        ·have:=hσ x hx
         omega)
       have rY:=Jg (Ai:=Ai) f (inst (B.length::σ) 0 body) (B++[b]);generalize Aj Ai f (inst (B.length::σ) 0 body) (B++[b])=o at h hM hy rY;rcases o with ⟨_|l,B1⟩
       ·cases h
       ·simp only at h hM hy rY
        have h6:=Ih (Ai:=Ai) (g:=BX Ai (Aj Ai f b) B.length) (fun a B'=>JP hfl B.length a B') l [] B1;have key:=fun r=>Jf (Ai:=Ai) (g:=BX Ai (Aj Ai f b) B.length) (fun a B'=>JP hfl B.length a B') (P:=fun p=>BF (·==(v:Int)) p<=lv body) (lo:=B.length+1) (M:=M) l [] B1 r
        generalize CN Ai (BX Ai (Aj Ai f b) B.length) l [] B1=o2 at h hM h6 key;rcases o2 with ⟨_|out,B2⟩
        ·cases h
        ·simp only at h hM h6 key
         cases hb:Ai out.length with
         | true=>rw[hb] at h; cases h
         | false=>
          rw[hb] at h;cases h;have e2:lv (.mk 6 [] 0 [b,body])=lv body:=rfl;rw[e2];have y9:=hy l rfl (by omega);refine key r ?_ (by simpa using rY) rfl hM (by simp);intro a ha B' r' hlo h5 h7 p hp;have ha1:=y9 a ha;rw[BX] at h5 h7;cases ho:C6 B.length true a with
          | true=>
           rw[ho] at h5;cases h5;rw[Bj.1 hp];exact ha1
          | false=>
           rw[ho] at h5 h7;exact Bh (WM hfl (lo:=B.length+1) (M:=M) (fun B' r hl=>hbc B' r (by omega)) _ a B' r' hlo h5 h7 p hp) ha1
end
section
variable {Ai:Nat->Bool}
theorem Tg {α:Type} {g:α->List Ty->GF} (hg:∀ a B,(g a B).2=B):∀ (l:List α) (out B:List Ty),(CN Ai g l out B).2=B
 | [],_,_=>rfl
 | a::l,out,B=>by
  have h:=hg a B;rw[CN];rcases hr:g a B with ⟨_|r,B1⟩
  ·rw[hr] at h
   exact h
  ·rw[hr] at h
   simp only at h ⊢;subst h;cases Ai (out++r).length with
   | true=>rfl
   | false=>exact Tg hg l _ _
theorem rZ {ex:List Ty->GF} {a v:Nat} (ha:∀ B,(ex B).2.length<=B.length+a) (f:Nat) (hf:f<=1) (t:Ty) (B:List Ty):(B8 Ai ex v f t B).2.length<=B.length+a:=by
 rcases f with _|f
 ·rw[B8]
  exact DT _ _
 ·obtain rfl:f=0:=by omega
  have h:=ha B;rw[B8];cases C6 v false t with
  | false=>exact DT _ _
  | true=>
   simp only[AE];rcases hr:ex B with ⟨_|cs,B1⟩
   ·rw[hr] at h
    exact h
   ·rw[hr] at h
    simp only;rw[Tg (fun c B=>by rw[B8])];exact h
theorem bR {ex:List Ty->GF} {a v:Nat} (ha:∀ B,(ex B).2.length<=B.length+a) (hc:∀ B r,(ex B).1=some r->r.length<=1):∀ (f:Nat) (t:Ty) (B:List Ty),(B8 Ai ex v f t B).2.length<=B.length+a*f
 | 0,t,B=>by rw[B8]; exact DT _ _
 | f+1,t,B=>by
  have h:=ha B;have h2:=hc B;rw[Mr,B8];cases C6 v false t with
  | false=>simp only[AB]; omega
  | true=>
   simp only[AE];rcases hr:ex B with ⟨_|cs,B1⟩
   ·rw[hr] at h
    simp only at h ⊢;omega
   ·rw[hr] at h h2
    simp only at h h2 ⊢;have h3:=h2 cs rfl;rcases cs with _|⟨x,_|⟨y,cs⟩⟩
    ·rw[CN]
     simp only;omega
    ·have ih:=bR (v:=v) ha hc f (KU (·==(v:Int)) x t 0) B1
     rw[CN];rcases Qs:B8 Ai ex v f (KU (·==(v:Int)) x t 0) B1 with ⟨_|r,B2⟩
     ·rw[Qs] at ih
      simp only at ih ⊢;omega
     ·rw[Qs] at ih
      simp only at ih ⊢;cases Ai ([]++r).length with
      | true=>simp only[AE]; omega
      | false=>rw[CN]; simp only[AB]; omega
    ·simp at h3
end
theorem WN {α:Type} {Ao a q K:Nat} {B0:List Ty} {g:α->List Ty->GF} (hpre:∀ x B,B<+:(g x B).2):∀ (l:List α) (out B:List Ty),(∀ x∈l,∀ B,B0<+:B->(∀ r,(g x B).1=some r->r.length=K/\r.length<=Ao+1/\(g x B).2.length+a<=B.length+a*K)/\((g x B).1=none->(g x B).2.length<=B.length+q))->B0<+:B->out.length<=Ao ->
  (∀ r,(CN (AR Ao) g l out B).1=some r->r.length=out.length+l.length*K/\(CN (AR Ao) g l out B).2.length+a*l.length<=B.length+a*(K*l.length)) /\
  ((CN (AR Ao) g l out B).1=none->∃ m,out.length+m*K<=Ao/\((CN (AR Ao) g l out B).2.length<=B.length+a*(m*K)+q\/(K<=Ao+1/\(CN (AR Ao) g l out B).2.length<=B.length+a*(m*K)+a*K)))
 | [],out,B,_,_,_=>by
  rw[CN];exact⟨fun r h=>by cases h; simp,fun h=>by cases h⟩
 | x::l,out,B,hg,hB,ho=>by
  have h1:=hg x (by simp) B hB;have hp:=hpre x B;rw[CN];rcases hr:g x B with ⟨_|r,B1⟩
  ·rw[hr] at h1
   refine⟨fun r h=>(by cases h),fun _=>⟨0,by omega,.inl ?_⟩⟩;have:=h1.2 rfl;simp only at this ⊢;omega
  ·rw[hr] at h1 hp
   obtain⟨e1,e2,e3⟩:=h1.1 r rfl;simp only at e3 hp ⊢;cases hb:AR Ao (out++r).length with
   | true=>
    refine⟨fun r h=>(by cases h),fun _=>⟨0,by omega,.inr ⟨by omega,?_⟩⟩⟩;simp only[AE];omega
   | false=>
    simp only[AB];have hb':out.length+r.length<=Ao:=by simpa[AR] using hb
    obtain⟨i1,i2⟩:=WN hpre l (out++r) B1 (fun y hy=>hg y (by simp[hy])) (hB.trans hp) (by simpa using hb');refine⟨fun s hs=>?_,fun hs=>?_⟩
    ·obtain⟨j1,j2⟩:=i1 s hs
     refine⟨?_,?_⟩
     ·rw[j1,Ab,A3,FO]
      omega
     ·rw[A3,Mr,Mr,J3]
      omega
    ·obtain⟨m,j1,j2⟩:=i2 hs
     rw[Ab] at j1;refine⟨m+1,by rw[FO]; omega,?_⟩;rw[FO,J3];rcases j2 with j2|⟨j2,j3⟩
     ·left
      omega
     ·right
      exact⟨j2,by omega⟩
def qF (f:Nat):Nat:=f+min f 6*66
theorem WO {c f:Nat} (hc:2<=c) (h:c ^ f<=33):f<=5:=by
 rcases CU f 6 with h1|h1
 ·omega
 ·have h2:c ^ 6<=c ^ f:=Nat.pow_le_pow_right (by omega) h1
  have h3:2 ^ 6<=c ^ 6:=Nat.pow_le_pow_left hc 6;have:(2:Nat) ^ 6=64:=rfl;omega
structure ExC (v a c:Nat) (B0:List Ty) (ex:List Ty->GF):Prop where
 pre:∀ B,B<+:(ex B).2
 len:∀ B,(ex B).2.length<=B.length+a
 res:∀ B r,B0<+:B->(ex B).1=some r->r.length=c/\∀ x∈r,BF (·==(v:Int)) x=0/\C6 v true x=false/\pat x=true
theorem WQ {ex:List Ty->GF} {v a c:Nat} {B0:List Ty} (hx:ExC v a c B0 ex) (hc:2<=c):∀ (f:Nat) (t:Ty) (B:List Ty),BF (·==(v:Int)) t=f->C6 v true t=false->pat t=true->B0<+:B ->
  (∀ r,(B8 (AR 32) ex v f t B).1=some r->r.length=c ^ f/\r.length<=32+1/\(B8 (AR 32) ex v f t B).2.length+a<=B.length+a*c ^ f)/\((B8 (AR 32) ex v f t B).1=none->(B8 (AR 32) ex v f t B).2.length<=B.length+a*qF f)
 | 0,t,B,_,_,_,_=>by
  rw[B8];exact⟨fun r h=>by cases h; simp,fun h=>by cases h⟩
 | f+1,t,B,X5,hoc,hpt,hB=>by
  have N0:=fun r=>QS (Ao:=32) (ex:=ex) (v:=v) (f+1) t B r
  have h1:=hx.len B;have h2:=hx.res B;have hp:=hx.pre B;have ho:C6 v false t=true:=by rw[YE t hpt hoc,X5]; simp
  rw[B8,ho] at N0 ⊢;simp only[AE] at N0 ⊢
  have hq:a*qF f+a<=a*qF (f+1):=by
   rw[<-Mr];refine EO _ ?_;unfold qF;omega
  rcases hr:ex B with ⟨_|cs,B1⟩
  ·rw[hr] at h1
   refine⟨fun r h=>(by cases h),fun _=>?_⟩;simp only at h1 ⊢;omega
  ·rw[hr] at h1 h2 hp N0
   simp only at h1 h2 hp N0 ⊢;obtain⟨Bu,hcs⟩:=h2 cs hB rfl
   obtain⟨i1,i2⟩:=WN (Ao:=32) (a:=a) (q:=a*qF f) (K:=c ^ f) (B0:=B0) (g:=fun x B=>B8 (AR 32) ex v f (KU (·==(v:Int)) x t 0) B) (fun x B=>H8 hx.pre v f _ B) cs [] B1 (by
    intro x hxm B' hB';obtain⟨x1,x2,x3⟩:=hcs x hxm;obtain⟨r1,r2⟩:=Rx (m:=(·==(v:Int))) (b:=x) t 0 (by omega);exact WQ hx hc f _ B' (by omega) (YF x2 t 0 hoc) (Rz x3 t 0 hpt) hB') (hB.trans hp) (by simp)
   refine⟨fun r h=>?_,fun h=>?_⟩
   ·obtain⟨j1,j2⟩:=i1 r h
    refine⟨?_,N0 r h,?_⟩
    ·rw[j1,Bu,OW,BV,CJ,IE]
    ·have e1:a*(c ^ f*cs.length)=a*c ^ (f+1):=by rw[Bu,OW]
     have e2:a*2<=a*cs.length:=EO _ (by omega);rw[e1] at j2;omega
   ·obtain⟨m,j1,j2⟩:=i2 h
    rw[BV,CJ] at j1;have e1:a*(m*c ^ f)<=a*32:=EO _ j1;rcases W4 m with rfl|hm
    ·rcases j2 with j2|⟨j2,j3⟩
     ·simp only[Ml,XI,Dq] at j2
      omega
     ·have hf5:=WO hc j2
      have e2:a*c ^ f<=a*33:=EO _ j2;have e3:a*34<=a*qF (f+1):=EO _ (by unfold qF; omega);simp only[Ml,XI,Dq] at j3;omega
    ·have hk:c ^ f<=33:=by
      have:1*c ^ f<=m*c ^ f:=CB _ hm;omega
     have hf5:=WO hc hk;have e3:a*(33+qF f+33)<=a*qF (f+1):=EO _ (by unfold qF; omega);rw[J3,J3] at e3;have e2:a*c ^ f<=a*33:=EO _ hk;rcases j2 with j2|⟨j2,j3⟩ <;> omega
end Go.Proofs.YtpgfpakdnijngaaGreatDoor
