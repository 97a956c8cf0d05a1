/-
  Single operations, part 5: slices made, cut and appended to.
-/
import Derived.Test.YtpgfpakdnijngaaGreatDoorEvB
set_option linter.all false
namespace Go.Tel
open Option renaming some->Y,none->G
open Bool renaming true->Z
open Go renaming World->ϙ,Value->ϛ,TypeId->ϝ,Program->ϟ
theorem Y2 {place:Nat->Option (Nat×Nat)} (parts:List (Nat×AV)):∀(cs cs':Ϭ),Mf place cs parts=Y cs'->cs'.length=cs.length:=by
 induction parts with
 | nil=>grind[Mf]
 | cons p parts b=>
  grind[Mf,Fi]
def Pd {E:Env} {L:Ba} {g:AZ} {w:ϙ} {s C:AY} (D:Inv E g w s) {t:ϝ} {len:Nat} {parts:List (Nat×AV)} {ps:List (Nat×ϛ)} {v:AV}
  (γ:parts.map (·.1)=ps.map (·.1)) (δ:∀(i:Nat) p q,parts[i]?=Y p->ps[i]?=Y q->V g w p.2 q.2) (h:HN E.P L s t len parts=Y (v,C)) :
  ∃H w' g',(Instr.buildSlice t len ps.toArray).run E.P w=.ok H w'/\V g' w' v H/\Ext L g w g' w'/\Inv E g' w' C:=by
 unfold HN at h;split at h
 .rename_i d ε
  split at h
  .rename_i k z W ζ
   split at h
   .rename_i η
    obtain⟨μ,ν,ξ⟩:=η;split at h
    .rename_i θ hf
     have⟨i,ι,X⟩:=FY W;have⟨σ,r,ο,π,Q,A⟩:=ET (g:=g) (w:=w) ζ;have α:r.cells.size=k:=by rw[<-IZ,<-A.len]; omega
     have⟨f,m,l⟩:=Oj (place:=λi=>Y (i*k,k)) parts γ δ (A.GC len) hf;have ρ:θ.length=len*k:=by grind[Y2,Rr]
     have S:f.length=len*k:=by rw[<-l.len]; omega
     have K:(Instr.buildSlice t len ps.toArray).run E.P w=.ok (.slice (Y ⟨w.heap.size,0,G⟩) len len) (Cy w f d):=by
      simp only[Instr.buildSlice,Sem.run_bind,run_underlying ε,Result.andThen_ok,run_sizeOf ι,X];rw[if_neg AA]
      by_cases β:len*k=0
      .have T:len=0:=by grind[Nat.mul_eq_zero]
       subst T;have U:Tel.GC 0 r.cells.toList=[]:=rfl;rw[U] at m;simp only[Sm,HA,Sem.run_bind,Sem.run_pure,Result.andThen_ok];rw[show(Array.map (λx=>(#[]:Array ϛ)[x % (#[]:Array ϛ).size]!) (Array.range 0))=⟨[]⟩ from by simp,m];rfl
      .simp only[β,JP,Sem.run_bind,Q,Result.andThen_ok,Sem.run_pure]
       have:=TX r.cells len AA;rw[α] at this ⊢;rw[this,m];rfl
     cases B:(y7 L d&&Nat.blt 0 len) with
     | true=>
      simp only[B,AQ] at h;simp only[BU,Bg] at h;obtain⟨rfl,rfl⟩:=h;have⟨j,y⟩:=D.TV (L:=L) d l.full.1 l.full.2;refine⟨_,_,_,K,V.ref (b:=w.heap.size) (e:=d) (n:=f.length) ?_ (AU _) ?_ ?_,j,y⟩
      .simp[AZ.GO]
      .exact CM (by rw[Cb,if_pos rfl])
      omega
     | false=>
      simp only[B,AL] at h;split at h
      .rename_i κ M
       simp only[BU,Bg] at h;obtain⟨rfl,rfl⟩:=h;have⟨j,y⟩:=D.ALg (L:=L) f d;have⟨k1,k2⟩:=HO l M;have O:Flat g.I w (CZ k len κ) k f:=Ip S k1 k2;have N:=O.mono j.mono j.cell
       have ς:=N.fy (b:=w.heap.size) (o:=0) (λq _=>.inr rfl) (λq u M=>by
        rw[CI (by rw[Cb,if_pos rfl])]; grind)
       refine⟨_,_,_,K,?_,j,y⟩
       grind[V.AE,Fo]
      grind
    grind
   grind
  grind
 grind
theorem Inv.alive {E:Env} {g:AZ} {w:ϙ} {s:AY} (h:Inv E g w s) {id:Nat} (d:Tel.alive s id=Z):¬ g.dead id:=λb=>by
 have:=h.D3 id b
 grind[Tel.alive]
def Qq {E:Env} {P:ϟ} {g:AZ} {w:ϙ} {s:AY} (D:Inv E g w s) {t:ϝ} {x y v:AV} {H z:ϛ} (hx:V g w x H) (X:V g w y z) (h:IE P s t x y=Y v) :
  ∃I,(Instr.indexAt t H z).run P w=.ok I w/\V g w v I:=by
 unfold IE at h
 have hint:∀i,Yr y=Y i->∃k,z=.int k i:=by
  intro i m;unfold Yr at m;split at m
  .rename_i k n; simp at m; subst m; exact⟨k,X.DX⟩
  grind
 split at h
 .rename_i L i α u
  obtain⟨β,rfl⟩:=hint i u;split at h
  .rename_i k A
   have⟨γ,Q,S⟩:=FY A;split at h
   .rename_i rows K
    split at h
    .rename_i κ
     split at h
     .rename_i p l
      split at h
      .rename_i M
       simp at h; subst h;obtain⟨δ,T,b,o,sz,f,rfl,N,d⟩:=EU hx K;have U:sz=k:=by rw[<-d.hsz p (A8 l)]; omega
       subst U;have hb:=d.hbase AB M.2;subst hb;have ε:=DY l;refine⟨_,?_,V.DF (b:=b) (o:=o+i.toNat*sz) 0 (λj=>f i.toNat j) (λj c B=>⟨(d.hc _ p j c l B).1,(d.hc _ p j c l B).2,d.hv _ p j c l B⟩)⟩;have ζ:i<(rows.length:Int):=AA;simp[*,Instr.indexAt,asIntOf,run_underlying,run_sizeOf,Dl]
      grind
     grind
    grind
   .split at h
    .rename_i id W len sz
     split at h
     .rename_i hb
      obtain⟨η,θ,ι,r⟩:=hb;simp at h; subst h;cases hx with
      | @ref _ _ _ _ b T n e O N μ hn=>
       simp[*,V.ptr,Instr.indexAt,asIntOf,run_underlying,run_sizeOf,Dl]
      | Jb C=>exact absurd C (D.alive r)
     grind
    grind
  grind
 .rename_i len L i α u
  obtain⟨β,rfl⟩:=hint i u;split at h
  .rename_i k A
   have⟨γ,Q,S⟩:=FY A;split at h
   .rename_i hb
    split at h
    .rename_i id W
     cases r:Tel.alive s id with
     | false=>grind
     | true=>
     simp[r] at h; subst h;cases hx with
     | LS C=>exact absurd C (D.alive r)
     | @ptr _ _ b O=>
      simp[*,V.ptr,Instr.indexAt,Instr.sureAddr,asIntOf,run_underlying,run_sizeOf,Dl]
    .simp at h; subst h
     cases hx with
     | EF=>
      simp[*,V.EF,Instr.indexAt,Instr.sureAddr,asIntOf,run_underlying,run_sizeOf,Dl]
    .simp at h; subst h
     cases hx with
     | @DF _ b o _ f d=>
      refine⟨_,?_,V.DF (b:=b) (o:=o) _ f d⟩;simp[*,Instr.indexAt,Instr.sureAddr,asIntOf,run_underlying,run_sizeOf,Dl,Sn]
    grind
   grind
  grind
 grind
def LU {E:Env} {P:ϟ} {g:AZ} {w:ϙ} {s:AY} (m:Inv E g w s) {t:ϝ} {x v:AV} {i:ϛ} {j:Nat} (hx:V g w x i) (h:ID P s t x j=Y v) :
  ∃l,(∀d:ϙ,(Instr.fieldAt t i j).run P d=.ok l d)/\V g w v l:=by
 unfold ID at h;split at h
 .rename_i fields I
  split at h
  .rename_i f hf
   split at h
   .rename_i k n
    have⟨p,B,C⟩:=FY n;split at h
    .grind
    .rename_i D
     have z:p.size≠0:=AA;split at h
     .rename_i id H
      cases e:Tel.alive s id with
      | false=>grind
      | true=>
      simp[e] at h; subst h;cases hx with
      | LS r=>exact absurd r (m.alive e)
      | @ptr _ _ b A=>
       simp[*,V.ptr,Instr.fieldAt,Instr.sureAddr,fieldPlace,run_underlying,run_sizeOf,Dl]
     .simp at h; subst h
      cases hx with
      | EF=>
       simp[*,V.EF,Instr.fieldAt,Instr.sureAddr,fieldPlace,run_underlying,run_sizeOf,Dl]
     .simp at h; subst h
      cases hx with
      | @DF _ b o _ u y=>
       refine⟨_,λd=>?_,V.DF (b:=b) (o:=o) _ u y⟩;simp[*,Instr.fieldAt,Instr.sureAddr,fieldPlace,run_underlying,run_sizeOf,Dl,Sn]
     grind
   grind
  grind
 grind
def Y3 {P:ϟ} {g:AZ} {w:ϙ} {t:ϝ} {x v:AV} {d:ϛ} {e:Nat} (hx:V g w x d) (h:TT P t x e=Y v) :
  ∃b,(Instr.field t d e).run P w=.ok b w/\V g w v b:=by
 unfold TT at h;split at h
 .rename_i fields j k
  split at h
  .rename_i f hf
   obtain⟨l,rfl,i⟩:=hx.Yy;have⟨b,m,n⟩:=Y0 (P:=P) i h;simp[*,Instr.field,run_underlying,asAgg]
  grind
 grind
def V7 {P:ϟ} {α β:Type} {w:ϙ} (f:α->Sem β) (h:α->β) (l:List α) (hf:∀x∈l,(f x).run P w=.ok (h x) w) :
  (l.mapM f).run P w=.ok (l.map h) w:=by
 induction l with
 | nil=>simp
 | cons x l b=>
  simp_all
def TY {P:ϟ} {α β:Type} {w:ϙ} (f:α->Sem β) (h:α->β) (l:Array α) (hf:∀x∈l.toList,(f x).run P w=.ok (h x) w) :
  (l.mapM f).run P w=.ok (l.map h) w:=by
 rw[kU];simp only[Sem.run_map,V7 f h l.toList hf,Result.andThen_ok];congr 1
 grind
def Y4 {P:ϟ} {g:AZ} {w:ϙ} {t:ϝ} {parts:List (Nat×AV)} {ps:List (Nat×ϛ)} {v:AV}
  (l:parts.map (·.1)=ps.map (·.1)) (m:∀(i:Nat) p q,parts[i]?=Y p->ps[i]?=Y q->V g w p.2 q.2) (h:TS P t parts=Y v) :
  ∃o,(Instr.build t ps.toArray).run P w=.ok o w/\V g w v o:=by
 unfold TS at h;split at h
 .rename_i z fields d D
  split at h
  .rename_i E hf
   split at h
   .rename_i s
    simp at h; subst h;have⟨i,H,I,x,u,b⟩:=ET (g:=g) (w:=w) d;have⟨e,r,j⟩:=Oj parts l m b hf;refine⟨.agg ⟨e⟩,?_,V.rK j⟩
    have N:(fields.mapM λf=>(do pure (f.offset,<-sizeOf f.type):Sem (Nat×Nat))).run P w=.ok (fields.map λf=>(f.offset,(Dy P f.type).getD 0)) w:=by
     apply TY;intro f y;have:=Array.all_eq_true'.1 s f (Array.mem_toList_iff.1 y);cases K:Dy P f.type with
     | none=>grind
     | some k=>
      have⟨L,A,B⟩:=FY K;simp[*,run_sizeOf]
    have M:(λi=>(fields.map λf=>(f.offset,(Dy P f.type).getD 0))[i]?)=TR P fields:=by grind[TR]
    simp_all[Instr.build,run_underlying]
   grind
  grind
 .rename_i z n O d D
  split at h
  .rename_i k C
   split at h
   .rename_i E hf
    simp at h; subst h;have⟨L,A,B⟩:=FY C;have⟨i,H,I,x,u,b⟩:=ET (g:=g) (w:=w) d;have⟨e,r,j⟩:=Oj parts l m b hf;simp[*,V.rK,Instr.build,run_underlying,run_sizeOf]
   grind
  grind
 grind
def bB {α:Type} {k:Nat} (e:k≠0) (rows:List (List α)) (h:∀r∈rows,r.length=k):∀q:Nat,rows.flatten[q]?=(rows[q / k]?).bind (λr=>r[q % k]?):=by
 induction rows with
 | nil=>simp
 | cons r rows d=>
  intro q;have b:r.length=k:=h r AD;rw[Nh];rcases Fv q k with hq|hq
  .grind[Nat.div_eq_of_lt,Nat.mod_eq_of_lt]
  .rw[Ei AA,d (λr b=>h r AB),b]
   have f:q / k=(q-k) / k+1:=Nat.div_eq_sub_div AA hq
   grind[Nat.mod_eq_sub_mod]
theorem Mx {α:Type} {k:Nat} (rows:List (List α)) (h:∀r∈rows,r.length=k):rows.flatten.length=rows.length*k:=by
 induction rows with
 | nil=>simp
 | cons r rows b=>
  grind
theorem Flat.vl {g:AZ} {w:ϙ} {rows:Ϯ} {k:Nat} {us:List ϛ} (h:Flat g.I w rows k us) (j:k≠0):VL g w (rows.flatten.map .pv) us:=by
 refine⟨by rw[Bj,Mx rows h.hsz,h.len],λq c v d l=>?_⟩;rw[E8,bB j rows h.hsz] at d;cases f:rows[q / k]? with
 | none=>grind
 | some e=>
  cases i:e[q % k]? with
  | none=>grind
  | some p=>
   simp[f,i] at d; subst d;have⟨u,b,m⟩:=h.at_ (q / k) e (q % k) p f i;rw[show q / k*k+q % k=q by grind[Nat.div_add_mod]] at b;rw[l] at b; simp at b; subst b;exact .pv m
def L8 {rows:Ϯ} {k:Nat} (h:(rows.all λr=>r.length==k)=Z):∀r∈rows,r.length=k:=λr b=>by grind
def Em.Ww {I:Nat->Nat->Prop} {w:ϙ} {rows:Ϯ} {base:Option Addr} {b o sz k:Nat} {f:Nat->Nat->ϛ} (h:Em I w rows base b o sz f) (i:k≠0)
  (n:∀r∈rows,r.length=k) (cap:Nat):∃us,Flat I w rows k us/\(∀q u,us[q]?=Y u->I b (o+q)/\w.cell? ⟨b,o+q,G⟩=Y u)/\∀(P:ϟ) (w':ϙ),w'.heap=w.heap->(Builtin.firstCells k rows.length (.slice base rows.length cap)).run P w'=.ok (List.toArray us) w':=by
 by_cases e:rows=[]
 .subst e
  refine⟨[],⟨AD,AD,AD⟩,AD,λP w' _=>?_⟩;cases base with
  | none=>rfl
  | some a=>simp[Builtin.firstCells,loadCells,loadCellsFrom]
 .obtain⟨r,d,rfl⟩:∃r d,rows=r::d:=by cases rows with|nil=>grind|cons r d=>simp
  have j:sz=k:=by rw[<-h.hsz r AD]; grind
  subst j;have⟨us,hf,l⟩:=h.flat i;refine⟨us,hf,l,λP w' m=>?_⟩;rw[h.hbase e i];simp only[Builtin.firstCells];rw[<-hf.len]
  grind[E2,Cg]
def J4 {E:Env} {g:AZ} {w:ϙ} {s:AY} (r:Inv E g w s) {y:AV} {d:ϛ} {k:Nat} {cs:Ϭ} (j:V g w y d) (t:k≠0) (h:DS s k y=Y cs) :
  ∃n us,(Builtin.lenOf d).run E.P w=.ok n w/\cs.length=n*k/\(∀w',w'.heap=w.heap->(Builtin.firstCells k n d).run E.P w'=.ok (List.toArray us) w')/\VL g w cs us:=by
 unfold DS at h;split at h
 .rename_i b
  split at h
  .rename_i C
   subst C;simp at h; subst h;have:=j.DX; subst this;refine⟨b.size,b.data.toList.map λb=>.int .u8 b.toNat,AX,AD,λw' _=>?_,?_⟩
   .simp only[Builtin.firstCells]
    have:b.extract 0 b.size=b:=AD;rw[this,Sem.run_pure];congr 1
    grind
   .refine⟨AD,λi c v α β=>?_⟩
    grind[V.Jo]
  grind
 .rename_i id l len sz
  split at h
  .rename_i D hb
   split at h
   .rename_i L
    obtain⟨U,H,I⟩:=L;subst H;simp at h; subst h;cases j with
    | Jb M=>exact absurd M (r.alive I)
    | @ref _ _ _ _ b m n e x z γ hn=>
     have⟨W,N,δ,k1,k2,X,k3⟩:=r.blk id b x;rw[hb] at k1; simp at k1; subst k1;have K:=(k3.drop l).take (len*sz);refine⟨len,_,AX,AB,λw' p=>?_,K⟩;simp only[Builtin.firstCells];have S:(((N.take D.length).drop l).take (len*sz)).length=len*sz:=AB
     grind[E2,CI]
   grind
  grind
 .split at h
  .rename_i rows u
   split at h
   .rename_i A
    simp only[BU] at h; subst h;have O:=L8 A;obtain⟨T,m,b,o,sz,f,rfl,z,Q⟩:=EU j u;have⟨us,hf,_,B⟩:=Q.Ww t O m;exact⟨rows.length,us,AX,by grind[Mx],λw' p=>B E.P w' p,hf.vl t⟩
   grind
  grind
def run_append_room {P:ϟ} {w:ϙ} {t u elem:ϝ} {d:TypeDesc} {i:TypeInfo} {base:Option Addr} {sLen sCap n:Nat} {x:ϛ} {us:List ϛ} (T:ϝ) (ts:List ϝ)
  (e:P.underlying t=Y (.slice elem)) (f:P.info? elem=Y i) (j:P.underlying u=Y d) (m:∀k,d≠.int k)
  (hn:(Builtin.lenOf x).run P w=.ok n w) (hf:(Builtin.firstCells i.size n x).run P w=.ok (List.toArray us) w) (b:sLen+n<=sCap) :
  (Builtin.append_ (List.toArray (t::u::ts)) T #[.slice base sLen sCap,x]).run P w =
   match base with
   | none=>.ok (.slice base (sLen+n) sCap) w
   | some a=>((storeCells (a.add (sLen*i.size)) us).run P w).andThen λ_ l=>.ok (.slice base (sLen+n) sCap) l:=by
 simp only[Builtin.append_];simp[run_underlying e,run_sizeOf f,run_underlying j,hn,b,hf];cases base <;> simp
theorem og (b:Nat):∀(r c:Nat),Builtin.growBy b r c<=max c (b+(b+768) / 4):=by
 intro r
 induction r with
 | zero=>grind[Builtin.growBy]
 | succ r d=>
  grind[Builtin.growBy]
def nextslicecap_le (b cap:Nat) (h:cap<b):Builtin.nextslicecap b cap<=3*b:=by grind[Builtin.nextslicecap,og]
def Bt (w:ϙ):ϙ:={ w with drawn:=w.drawn+1 }
def run_append_grow {P:ϟ} {w:ϙ} {t u elem:ϝ} {d:TypeDesc} {i:TypeInfo} {base:Option Addr} {sLen sCap n:Nat} {x b:ϛ} {us os:List ϛ} (T:ϝ) (ts:List ϝ)
  (r:P.underlying t=Y (.slice elem)) (l:P.info? elem=Y i) (s:P.underlying u=Y d) (C:∀k,d≠.int k)
  (hn:(Builtin.lenOf x).run P w=.ok n w) (hf:(Builtin.firstCells i.size n x).run P (Bt w)=.ok (List.toArray us) (Bt w))
  (y:(Builtin.firstCells i.size sLen (.slice base sLen sCap)).run P (Bt w)=.ok (List.toArray os) (Bt w)) (D:i.zero=Y b)
  (m:sCap<sLen+n) (A:(sLen+n)*i.bytes<=2 ^ 45) (B:sLen+n<=2 ^ 45) :
  ∃cap rest,sLen+n<=cap/\rest.length=(cap-(sLen+n))*b.cells.size /\
   (Builtin.append_ (List.toArray (t::u::ts)) T #[.slice base sLen sCap,x]).run P w=.ok (.slice (Y ⟨w.heap.size,0,G⟩) (sLen+n) cap) (Cy (Bt w) (os++us++rest) elem):=by
 have p:¬ (2 ^ 48<Builtin.nextslicecap (sLen+n) sCap*i.bytes):=by
  have:=nextslicecap_le (sLen+n) sCap m;have:=Be i.bytes this
  grind
 have z:¬ (IntKind.i64.max<((sLen:Int)+(n:Int))):=by
  have:IntKind.i64.max=9223372036854775807:=rfl;omega
 have o:(zeroValue elem).run P (Bt w)=.ok b (Bt w):=by simp[*,zeroValue,run_typeInfo]
 refine⟨(sLen+n)+w.tape w.drawn (.appendCap (sLen+n) sCap elem) % (2 ^ 63-(sLen+n)),(Builtin.zeroCells b.cells ((sLen+n)+w.tape w.drawn (.appendCap (sLen+n) sCap elem) % (2 ^ 63-(sLen+n))-(sLen+n))).toList,Ni _ _,?_,?_⟩
 .simp[Builtin.zeroCells]
 .simp only[Builtin.append_]
  simp[run_underlying r,run_sizeOf l,run_underlying s,hn,run_typeInfo l,Question.forced,Question.cut];rw[if_neg AA,if_neg AA,if_neg p];have f:=hf;have j:=y;have e:=o;unfold Bt at f j e;simp[j,f,e,newRow,Cy,Bt];congr 2;simp
def Inv.drew {E:Env} {L:Ba} {g:AZ} {w:ϙ} {s:AY} (h:Inv E g w s):Ext L g w g (Bt w)/\Inv E g (Bt w) s:=by
 have ext:Ext L g w g (Bt w):=
  ⟨rfl,rfl,rfl,AU _,λ_ _ h=>h,λ_ _ _=>rfl,λ_ _ h=>.inl h,λ_ h=>h,λ_ _ _ _=>rfl,λ_ l h=>⟨l,h,.inl rfl⟩,λ_ _ h _=>⟨h,rfl⟩,
   λ_ _ h _=>⟨h,rfl,λ_ h=>h⟩,λ_ _ _ _ _=>⟨rfl,λ_ h=>h⟩,λ_ _ h=>h,λ_ _ _=>⟨λ_=>rfl,λ_ h=>h⟩,λid _ h _=>⟨id,h⟩,λid _ h _=>⟨id,h⟩,λ_ l h _=>⟨l,h,rfl⟩,λ_ h=>h⟩
 refine⟨ext,?_⟩
 exact { h with
  blk:=λid b hb=>by
   have⟨k,vs,e,h1,h2,h3,m⟩:=h.blk id b hb;exact⟨k,vs,e,h1,h2,h3,m.mono ext⟩
  GF:=λf d i j c n=>by
   have⟨v,h1,h2,h3⟩:=h.GF f d i j c n;exact⟨v,h1,h2,h3.mono ext.mono ext.cell⟩
  D4:=λf d i=>by
   have⟨h1,h2⟩:=h.D4 f d i;exact⟨h1,h2⟩ }
def AZ.Gu (g:AZ) (t:Nat) (l:Qo):AZ:=
 {g with tok:=λk=>if k=t then Y l else g.tok k,I:=λb o=>g.I b o\/(b=l.b/\o<l.n*l.sz) }
def Inv.kz {E:Env} {L:Ba} {g:AZ} {w:ϙ} {s:AY} (h:Inv E g w s) {t cap sz n:Nat} {vs:List ϛ} {e:ϝ} {i:Ϫ}
  (ζ:vs.length=cap*sz) (hn:n<=cap) (γ:sz≠0) (δ:Dy E.P e=Y sz)
  (η:(t=s.ts.length/\i=s.ts++[(n,e)])\/(∃l,g.tok t=Y l/\l.n<n/\L.rt<=t/\i=s.ts.set t (n,e))) :
  Ext L g w (g.Gu t ⟨w.heap.size,cap,sz,n,e⟩) (Cy w vs e)/\Inv E (g.Gu t ⟨w.heap.size,cap,sz,n,e⟩) (Cy w vs e) { s with ts:=i }:=by
 have O:(Cy w vs e).heap.size=w.heap.size+1:=by simp[Cy]
 have α:∀k l,g.tok k=Y l->k<s.ts.length:=λk l d=>DY (h.HI k l d)
 have H:∀k,k≠t->(g.Gu t ⟨w.heap.size,cap,sz,n,e⟩).tok k=g.tok k:=λk f=>by grind[AZ.Gu]
 have β:(g.Gu t ⟨w.heap.size,cap,sz,n,e⟩).tok t=Y ⟨w.heap.size,cap,sz,n,e⟩:=by simp[AZ.Gu]
 have D:∀k,k≠t->i[k]?=s.ts[k]?\/(k>=s.ts.length/\i[k]?=G):=AB;have ε:i[t]?=Y (n,e):=AB;have inv:∀k l,(g.Gu t ⟨w.heap.size,cap,sz,n,e⟩).tok k=Y l->(k=t/\l=⟨w.heap.size,cap,sz,n,e⟩)\/(k≠t/\g.tok k=Y l):=λk l d=>by grind
 have ext:Ext L g w (g.Gu t ⟨w.heap.size,cap,sz,n,e⟩) (Cy w vs e):={
  os:=rfl,tape:=rfl,output:=rfl,size:=AA
  mono:=λ_ _ hi=>.inl hi
  cell:=λk o hi=>Cg (BW (h.KZ k o hi)) o
  blk:=λ_ _ hb=>.inl hb
  dead:=λ_ Q=>Q
  shape:=λid b hb _=>EA (BW (h.EY hb))
  tok:=λk l d=>by grind
  GK:=λid b hb _=>⟨hb,BW (h.EY hb)⟩
  F5:=λk l d I=>by
   have f:k≠t:=λe=>by grind
   exact⟨AB,BW (h.GM d),λo r=>r.resolve_right (λe=>by have:=h.GM d; grind)⟩
  out:=λk f _ _ _=>⟨BW f,λo r=>r.resolve_right (λe=>by grind)⟩
  mp:=λ_ _ hb=>hb
  F6:=λ_ θ u=>⟨λ_=>BW (h.L6 u),λo r=>r.resolve_right (λe=>by have:=h.L6 u; grind)⟩
  K4:=λK _ hb _=>⟨K,hb⟩
  HY:=λid _ hb _=>⟨id,hb⟩
  Db:=λ_ h=>h
  K5:=λk l d I=>by grind }
 refine⟨ext,?_⟩
 exact {
  FC:=h.FC
  EB:=h.EB
  D3:=h.D3
  blk:=λid b hb=>by
   have⟨M,us,e',h1,h2,h3,S⟩:=h.blk id b hb;exact⟨M,us,e',h1,by grind[BW],h3,S.mono ext⟩
  GL:=λid b o hb hi=>by
   rcases hi with hi|hi
   .exact h.GL id b o hb hi
   .have:=h.EY hb; grind
  HH:=λk m q f=>by
   by_cases e:k=t
   .grind
   .rw[H k e]
    rcases D k e with x|⟨_,x⟩
    .rw[x] at f; exact h.HH k m q f
    grind
  HI:=λk l d=>by
   rcases inv k l d with ⟨rfl,rfl⟩|⟨f,d⟩
   .omega
   .rcases D k f with x|⟨x,_⟩
    .rw[x]; exact h.HI k l d
    grind
  tok:=λk l d=>by
   rcases inv k l d with ⟨_,rfl⟩|⟨_,d⟩
   .grind[Cb]
   .have⟨us,e',h1,h2⟩:=h.tok k l d
    grind[BW]
  HZ:=λk l o d N hi=>by
   rcases inv k l d with ⟨_,rfl⟩|⟨_,d⟩
   .rcases hi with hi|hi
    .have:=h.KZ _ o hi; grind
    omega
   .rcases hi with hi|hi
    .exact h.HZ k l o d N hi
    .have:=h.GM d; grind
  FD:=h.FD
  Gt:=λk z l A d p T=>by
   rcases inv k l d with ⟨U,rfl⟩|⟨_,d⟩
   .rcases inv z A p with ⟨W,_⟩|⟨_,p⟩
    .rw[U,W]
    .have:=h.GM p; grind
   .rcases inv z A p with ⟨_,rfl⟩|⟨_,p⟩
    .have:=h.GM d; grind
    .exact h.Gt k z l A d p T
  Dc:=λid b k l hb d=>by
   rcases inv k l d with ⟨_,rfl⟩|⟨_,d⟩
   .have:=h.EY hb; grind
   .exact h.Dc id b k l hb d
  KZ:=λk o hi=>by
   rw[O];rcases hi with hi|hi
   .have:=h.KZ k o hi; omega
   grind
  Ev:=h.Ev
  mp:=h.IJ (λ_ _ _=>rfl) (λ_ _ u=>BW (h.L6 u))
  Mh:=h.Mh
  Hy:=h.Hy
  EJ:=h.EJ
  GF:=λB y C j c X=>by
   have⟨v,h1,h2,h3⟩:=h.GF B y C j c X;exact⟨v,.inl h1,by rw[ext.cell _ _ h1]; omega,h3.mono ext.mono ext.cell⟩
  D4:=λB y C=>by
   have⟨h1,h2⟩:=h.D4 B y C;exact⟨.inl h1,by rw[ext.cell _ _ h1]; omega⟩ }
theorem Fk (us:List ϛ):∀(vs:List ϛ) (k q:Nat),(q<k\/k+us.length<=q)->(Ca vs k us)[q]?=vs[q]?:=by
 induction us with
 | nil=>intro vs k q _; rfl
 | cons u us b=>
  grind[Ca]
theorem HP (us:List ϛ):∀(vs:List ϛ) (k q:Nat) (u:ϛ),us[q]?=Y u->k+us.length<=vs.length->(Ca vs k us)[k+q]?=Y u:=by
 induction us with
 | nil=>simp
 | cons x us d=>
  intro vs k q u h b;simp only[CP] at b;cases q with
  | zero=>
   grind[Ca,Fk]
  | succ q=>
   simp at h;rw[Ca,show k+(q+1)=k+1+q by omega];exact d _ _ _ _ h AB
def Inv.ABM {E:Env} {L:Ba} {g:AZ} {w:ϙ} {s:AY} (h:Inv E g w s) {t n:Nat} {l:Qo} {vs us:List ϛ} {fz:Nat×Nat} (i:g.tok t=Y l)
  (θ:w.heap[l.b]?=Y (.cells ⟨vs⟩ l.e fz)) (S:l.n<n) (hle:n<=l.cap) (ο:L.rt<=t) :
  Ext L g w (g.Gu t { l with n:=n }) (Bd w l.b (Ca vs (l.n*l.sz) us) l.e fz)/\Inv E (g.Gu t { l with n:=n }) (Bd w l.b (Ca vs (l.n*l.sz) us) l.e fz) { s with ts:=s.ts.set t (n,l.e) }:=by
 have hb:=h.GM i;have r:∀k,k≠l.b->(Bd w l.b (Ca vs (l.n*l.sz) us) l.e fz).heap[k]?=w.heap[k]?:=λk p=>by grind[Bv]
 have qm:(Bd w l.b (Ca vs (l.n*l.sz) us) l.e fz).heap[l.b]?=Y (.cells ⟨Ca vs (l.n*l.sz) us⟩ l.e fz):=by grind[Bv]
 have ι:(Bd w l.b (Ca vs (l.n*l.sz) us) l.e fz).heap.size=w.heap.size:=by simp[Bd]
 have⟨γ,δ,π,β,ρ,hsz,O,ε⟩:=h.tok t l i;have T:γ=vs/\δ=fz:=AB;rw[T.1] at β;rw[T.2] at O;have ς:t<s.ts.length:=DY (h.HI t l i);have X:∀k,k≠t->(g.Gu t { l with n:=n }).tok k=g.tok k:=λk p=>by grind[AZ.Gu]
 have ξ:(g.Gu t { l with n:=n }).tok t=Y { l with n:=n }:=by simp[AZ.Gu]
 have inv:∀k d,(g.Gu t { l with n:=n }).tok k=Y d->(k=t/\d={ l with n:=n })\/(k≠t/\g.tok k=Y d):=λk d f=>by grind
 have α:∀b o,g.I b o->(Bd w l.b (Ca vs (l.n*l.sz) us) l.e fz).cell? ⟨b,o,G⟩=w.cell? ⟨b,o,G⟩:=λb o hi=>by
  by_cases p:b=l.b
  .subst p
   have:o<l.n*l.sz:=by
    rcases Fv o (l.n*l.sz) with x|x
    .exact x
    .exact absurd hi (h.HZ t l o i x)
   rw[CI qm,CI θ,Fk us vs _ _ (.inl this)]
  grind[Cg]
 have ext:Ext L g w (g.Gu t { l with n:=n }) (Bd w l.b (Ca vs (l.n*l.sz) us) l.e fz):={
  os:=rfl,tape:=rfl,output:=rfl,size:=AA
  mono:=λ_ _ hi=>.inl hi
  cell:=α
  blk:=λ_ _ hb=>.inl hb
  dead:=λ_ κ=>κ
  shape:=λid b hb _=>EA (r b (h.Dc id b t l hb i))
  tok:=λk d f=>by grind
  GK:=λid b hb _=>⟨hb,r b (h.Dc id b t l hb i)⟩
  F5:=λk d f σ=>by
   have p:k≠t:=λe=>by omega
   have U:d.b≠l.b:=λe=>p (h.Gt k t d l f i e)
   exact⟨AB,r _ U,λo u=>u.resolve_right (λe=>U e.1)⟩
  out:=λk p _ h2 _=>⟨r k (λe=>h2 t l i e.symm),λo u=>u.resolve_right (λe=>h2 t l i e.1.symm)⟩
  mp:=λ_ _ hb=>hb
  F6:=λ_ C y=>⟨λ_=>r C (h.mpT y i),λo u=>u.resolve_right (λe=>h.mpT y i e.1)⟩
  K4:=λζ _ hb _=>⟨ζ,hb⟩
  HY:=λid _ hb _=>⟨id,hb⟩
  Db:=λ_ h=>h
  K5:=λk d f _=>by grind }
 refine⟨ext,?_⟩
 exact {
  FC:=h.FC
  EB:=h.EB
  D3:=h.D3
  blk:=λid b hb=>by
   have⟨η,us',e',h1,h2,h3,μ⟩:=h.blk id b hb;exact⟨η,us',e',h1,by rw[r b (h.Dc id b t l hb i)]; omega,h3,μ.mono ext⟩
  GL:=λid b o hb hi=>by
   rcases hi with hi|hi
   .exact h.GL id b o hb hi
   .exact h.Dc id b t l hb i hi.1
  HH:=λk m q p=>by
   by_cases e:k=t
   .grind
   .rw[X k e]; simp only[Ge (Fx e)] at p; exact h.HH k m q p
  HI:=λk d f=>by
   rcases inv k d f with ⟨rfl,rfl⟩|⟨p,f⟩
   .grind
   .simp only[Ge (Fx p)]; exact h.HI k d f
  tok:=λk d f=>by
   rcases inv k d f with ⟨_,rfl⟩|⟨p,f⟩
   .exact⟨_,fz,qm,by grind[B8],hle,hsz,BC O (Be _ (Nat.le_of_lt S)),ε⟩
   .have⟨us',e',h1,h2⟩:=h.tok k d f
    exact⟨us',e',by rw[r _ (λe=>p (h.Gt k t d l f i e))]; omega,h2⟩
  HZ:=λk d o f Q hi=>by
   rcases inv k d f with ⟨_,rfl⟩|⟨p,f⟩
   .rcases hi with hi|hi
    .exact h.HZ t l o i (by simp only at Q; have:=Be l.sz (Nat.le_of_lt S); omega) hi
    omega
   .rcases hi with hi|hi
    .exact h.HZ k d o f Q hi
    .exact p (h.Gt k t d l f i hi.1)
  FD:=h.FD
  Gt:=λk z D A h1 h2 H=>by
   rcases inv k D h1 with ⟨W,rfl⟩|⟨_,h1⟩
   .rcases inv z A h2 with ⟨K,_⟩|⟨_,h2⟩
    .rw[W,K]
    .rw[W]; exact h.Gt t z l A i h2 H
   .rcases inv z A h2 with ⟨K,rfl⟩|⟨_,h2⟩
    .rw[K]; exact h.Gt k t D l h1 i H
    .exact h.Gt k z D A h1 h2 H
  Dc:=λid b k d hb f=>by
   rcases inv k d f with ⟨_,rfl⟩|⟨_,f⟩
   .exact h.Dc id b t l hb i
   .exact h.Dc id b k d hb f
  KZ:=λk o hi=>by
   rw[ι];rcases hi with hi|hi
   .exact h.KZ k o hi
   grind
  Ev:=h.Ev
  mp:=h.IJ (λ_ _ _=>rfl) (λ_ C y=>r C (h.mpT y i))
  Mh:=h.Mh
  Hy:=h.Hy
  EJ:=h.EJ
  GF:=λM B N j c ν=>by
   have⟨v,h1,h2,h3⟩:=h.GF M B N j c ν;exact⟨v,.inl h1,AB,h3.mono ext.mono ext.cell⟩
  D4:=λM B N=>by
   have⟨h1,h2⟩:=h.D4 M B N;exact⟨.inl h1,AB⟩ }
def AZ.kill (g:AZ) (id:Nat):AZ:=
 {g with blk:=λi=>if i=id then G else g.blk i,dead:=λi=>g.dead i\/i=id,
         hd:=λi (b:g.dead i\/i=id)=>(if e:i=id then if_pos e else(if_neg e).trans (g.hd i (b.resolve_right e)):(if i=id then G else g.blk i)=G) }
theorem Inv.kill {E:Env} {L:Ba} {g:AZ} {w:ϙ} {s:AY} (h:Inv E g w s) {id b:Nat} (hb:g.blk id=Y b) (H:L.ro<=id) :
  Ext L g w (g.kill id) w/\Inv E (g.kill id) w { s with bs:=s.bs.set id [] }:=by
 have inv:∀i d,(g.kill id).blk i=Y d->i≠id/\g.blk i=Y d:=λi d f=>by grind[AZ.kill]
 have ext:Ext L g w (g.kill id) w:={
  os:=rfl,tape:=rfl,output:=rfl,size:=AU _
  mono:=λ_ _ f=>f
  cell:=λ_ _ _=>rfl
  blk:=λi d f=>by grind[AZ.kill]
  dead:=λ_ hd=>.inl hd
  shape:=λ_ _ _ _=>rfl
  tok:=λ_ l hl=>⟨l,hl,.inl rfl⟩
  GK:=λi d f I=>⟨by grind[AZ.kill],rfl⟩
  F5:=λ_ _ hl _=>⟨hl,rfl,λ_ n=>n⟩
  out:=λ_ _ _ _ _=>⟨rfl,λ_ n=>n⟩
  mp:=λ_ _ hb=>hb
  F6:=λ_ _ _=>⟨λ_=>rfl,λ_ n=>n⟩
  K4:=λy _ hb _=>⟨y,hb⟩
  HY:=λi d f _=>⟨i,(inv i d f).2⟩
  Db:=λ_ h=>h
  K5:=λ_ l hl _=>⟨l,hl,rfl⟩ }
 refine⟨ext,?_⟩
 exact {
  FC:=λi d f=>by simpa using h.FC i d (inv i d f).2
  EB:=λi hd=>by
   rcases hd with hd|rfl
   .simpa using h.EB i hd
   .simpa using h.FC _ b hb
  D3:=λi hd=>by
   by_cases e:i=id
   .subst e; simp[h.FC _ b hb]
   .rcases hd with hd|hd
    .simp only[Ge (Fx e)]; exact h.D3 i hd
    omega
  blk:=λi d f=>by
   have⟨e,f⟩:=inv i d f;have⟨z,vs,e',h1,h2,h3,A⟩:=h.blk i d f;exact⟨z,vs,e',AB,h2,h3,A.mono ext⟩
  GL:=λi d o f=>h.GL i d o (inv i d f).2
  HH:=h.HH
  HI:=h.HI
  tok:=h.tok
  HZ:=h.HZ
  FD:=λi j d f r=>h.FD i j d (inv i d f).2 (inv j d r).2
  Gt:=h.Gt
  Dc:=λi d t l f hl=>h.Dc i d t l (inv i d f).2 hl
  KZ:=h.KZ
  Ev:=λi f=>by
   by_cases e:i=id
   .exact .inr (.inl (.inr e))
   .rcases h.Ev i AB with ⟨d,k⟩|q|q
    .exact .inl ⟨d,(if_neg e).trans k⟩
    .exact .inr (.inl (.inl q))
    .exact .inr (.inr q)
  mp:=h.IJ (λ_ _ k=>Ge (h.rJ hb k)) (λ_ _ _=>rfl)
  Mh:=λi d k=>by
   have⟨B,a2,C⟩:=h.Mh i d k;have m:i≠id:=Fx (h.rJ hb k);exact⟨(if_neg m).trans B,λhd=>hd.elim a2 m,C⟩
  Hy:=h.Hy
  EJ:=λi D=>by
   have⟨a,b,c⟩:=h.EJ i D;have m:i≠id:=λe=>by grind
   exact⟨AB,(if_neg m).trans b,λhd=>hd.elim c m⟩
  GF:=λu p x j c r=>by
   have⟨v,h1,h2,h3⟩:=h.GF u p x j c r;exact⟨v,h1,h2,h3.mono ext.mono ext.cell⟩
  D4:=λu p x=>by
   have⟨h1,h2⟩:=h.D4 u p x;exact⟨h1,h2⟩ }
def Inv.TZ {E:Env} {g:AZ} {w:ϙ} {s:AY} (h:Inv E g w s) {id b:Nat} (hb:g.blk id=Y b):¬ (g.kill id).dead s.bs.length:=λhd=>by
 rcases hd with hd|hd
 .have:=h.EB _ hd; omega
 .have:=h.FC id b hb; omega
def Inv.rN {E:Env} {L:Ba} {g:AZ} {w:ϙ} {s:AY} (h:Inv E g w s) {id b:Nat} {cs':Ϭ} {vs vs':List ϛ} {e:ϝ}
  (hb:g.blk id=Y b) (K:w.heap[b]?=Y (.cells ⟨vs⟩ e (0,0))) (D:vs'.length=vs.length) (W:L.ro<=id) (hle:cs'.length<=vs'.length) (hl:VL g w cs' (vs'.take cs'.length)) :
  Ext L g w ((g.kill id).GO s.bs.length b (h.TZ hb)) (Bd w b vs' e)/\Inv E ((g.kill id).GO s.bs.length b (h.TZ hb)) (Bd w b vs' e) { s with bs:=s.bs.set id []++[cs'] }:=by
 have x:=h.EY hb;have T:=h.FC id b hb;have n:∀k,k≠b->(Bd w b vs' e).heap[k]?=w.heap[k]?:=λk m=>by grind[Bv]
 have qm:(Bd w b vs' e).heap[b]?=Y (.cells ⟨vs'⟩ e (0,0)):=by grind[Bv]
 have H:(Bd w b vs' e).heap.size=w.heap.size:=by simp[Bd]
 have inv:∀i d,((g.kill id).GO s.bs.length b (h.TZ hb)).blk i=Y d->(i=s.bs.length/\d=b)\/(i≠id/\i≠s.bs.length/\g.blk i=Y d):=λi d f=>by
  simp only[AZ.GO,AZ.kill] at f
  grind
 have keep:∀i d,g.blk i=Y d->i≠id->((g.kill id).GO s.bs.length b (h.TZ hb)).blk i=Y d:=λi d f e=>by
  have:=h.FC i d f;have e2:i≠s.bs.length:=AA;simp[*,AZ.GO,AZ.kill]
 have ext:Ext L g w ((g.kill id).GO s.bs.length b (h.TZ hb)) (Bd w b vs' e):={
  os:=rfl,tape:=rfl,output:=rfl,size:=AA
  mono:=λ_ _ f=>f
  cell:=λk o f=>Cg (n k (λm=>h.GL id b o hb (m ▸ f))) o
  blk:=λi d f=>by
   by_cases e:i=id
   .exact .inr (.inr e)
   grind
  dead:=λ_ hd=>.inl hd
  shape:=λi d f X=>by
   by_cases m:d=b
   .subst m; rw[CM qm,CM K,D]
   grind[EA]
  tok:=λ_ l hl=>⟨l,hl,.inl rfl⟩
  GK:=λi d f U=>by
   have e:i≠id:=AA;exact⟨keep i d f e,n d (λm=>e (h.FD i id d f (m ▸ hb)))⟩
  F5:=λt l hl _=>⟨hl,n _ (λm=>h.Dc id b t l hb hl m.symm),λ_ r=>r⟩
  out:=λk _ h1 _ _=>⟨n k (λm=>h1 id (m ▸ hb)),λ_ r=>r⟩
  mp:=λ_ _ hb=>hb
  F6:=λ_ d p=>⟨λ_=>n d (λm=>h.mpB p (m ▸ hb)),λ_ r=>r⟩
  K4:=λI _ hb _=>⟨I,hb⟩
  HY:=λi d f _=>by grind
  Db:=λ_ h=>h
  K5:=λ_ l hl _=>⟨l,hl,rfl⟩ }
 refine⟨ext,?_⟩
 exact {
  FC:=λi d f=>by
   rcases inv i d f with ⟨rfl,_⟩|⟨_,_,f⟩
   .simp
   .have:=h.FC i d f; grind
  EB:=λi hd=>by
   rcases hd with hd|rfl
   .have:=h.EB i hd; grind
   grind
  D3:=λi hd=>by
   have x:i<s.bs.length:=by
    rcases hd with hd|rfl
    .exact h.EB i hd
    omega
   rw[C3 AB]
   by_cases e:i=id
   .grind
   .rcases hd with hd|hd
    .simp only[Ge (Fx e)]; exact h.D3 i hd
    omega
  blk:=λi d f=>by
   rcases inv i d f with ⟨rfl,rfl⟩|⟨u,_,f⟩
   .exact⟨cs',vs',e,AD,qm,hle,hl.mono ext⟩
   .have⟨M,us,e',h1,h2,h3,N⟩:=h.blk i d f
    exact⟨M,us,e',AB,
     by rw[n d (λm=>u (h.FD i id d f (m ▸ hb)))]; omega,h3,N.mono ext⟩
  GL:=λi d o f=>by
   rcases inv i d f with ⟨_,rfl⟩|⟨_,_,f⟩
   .exact h.GL id _ o hb
   .exact h.GL i d o f
  HH:=h.HH
  HI:=h.HI
  tok:=λt l hl=>by
   have⟨us,e',h1,h2⟩:=h.tok t l hl
   grind
  HZ:=h.HZ
  FD:=λi j d f y=>by
   rcases inv i d f with ⟨u,e2⟩|⟨u,e2,f⟩
   .rcases inv j d y with ⟨e3,_⟩|⟨e3,e4,z⟩
    .rw[u,e3]
    .exact absurd (h.FD j id d z (by rw[hb,e2])) e3
   .rcases inv j d y with ⟨e3,e4⟩|⟨e3,e4,z⟩
    .exact absurd (h.FD i id d f (by rw[hb,e4])) u
    .exact h.FD i j d f z
  Gt:=h.Gt
  Dc:=λi d t l f hl=>by
   rcases inv i d f with ⟨_,rfl⟩|⟨_,_,f⟩
   .exact h.Dc id _ t l hb hl
   .exact h.Dc i d t l f hl
  KZ:=λk o f=>by rw[H]; exact h.KZ k o f
  Ev:=λi f=>by
   by_cases e:i=s.bs.length
   .exact .inl ⟨_,if_pos e⟩
   by_cases e2:i=id
   .exact .inr (.inl (.inr e2))
   .rcases h.Ev i AB with ⟨d,p⟩|q|q
    .grind
    .exact .inr (.inl (.inl q))
    .exact .inr (.inr q)
  mp:=h.IJ (λi d p=>by
    have x:=h.zE p;rw[C3 AB];exact Ge (h.rJ hb p)) (λ_ d p=>n d (λm=>h.mpB p (m ▸ hb)))
  Mh:=λi d p=>by
   have⟨O,a2,Q⟩:=h.Mh i d p;have n:i≠id:=Fx (h.rJ hb p);have x:=h.zE p;exact⟨(if_neg (Yc x)).trans ((if_neg n).trans O),λhd=>hd.elim a2 n,Q⟩
  Hy:=h.Hy
  EJ:=λi S=>by
   have⟨a,b,c⟩:=h.EJ i S;have n:i≠id:=λe=>by grind
   exact⟨AB,(if_neg AA).trans ((if_neg n).trans b),λhd=>hd.elim c n⟩
  GF:=λB A C j c y=>by
   have⟨v,h1,h2,h3⟩:=h.GF B A C j c y;exact⟨v,h1,by rw[ext.cell _ _ h1]; omega,h3.mono ext.mono ext.cell⟩
  D4:=λB A C=>by
   have⟨h1,h2⟩:=h.D4 B A C;exact⟨h1,by rw[ext.cell _ _ h1]; omega⟩ }
def Flat.ALh {I:Nat->Nat->Prop} {w:ϙ} {rows:Ϯ} {k k':Nat} {us:List ϛ} (e:k=k') (h:Flat I w rows k us):Flat I w rows k' us:=AB
def HQ {g:AZ} {w:ϙ} {t n cap sz:Nat} {b:Nat} {e:ϝ} {rows:Ϯ} {us:List ϛ} (f:g.tok t=Y ⟨b,cap,sz,n,e⟩) (hf:Flat g.I w rows sz us)
  (hn:rows.length=n) (k:n<=cap) (i:∀o,o<n*sz->g.I b o) (l:∀q u,us[q]?=Y u->w.cell? ⟨b,q,G⟩=Y u) :
  V g w (.own t rows) (.slice (Y ⟨b,0,G⟩) rows.length cap):=by
 have d:=hf.fy (b:=b) (o:=0) (λq j=>by rw[CY]; exact i q (by rw[<-hn,<-hf.len]; omega)) (λq u j=>by grind);exact .own d AA f AB (λ_=>⟨rfl,rfl,rfl,rfl,rfl⟩)
def LV (us vs:List ϛ) (k:Nat) (h:k+us.length<=vs.length):(Ca vs k us).take (k+us.length)=vs.take k++us:=by
 apply Fw;intro q;rw[PO];split
 .rename_i b
  rcases Fv q k with x|x
  .grind[Fk]
  .obtain⟨j,rfl⟩:∃j,q=k+j:=⟨q-k,AA⟩
   grind[HP]
 grind
def bC {P:ϟ} {w:ϙ} (a:Option Addr) (n c:Nat):(Builtin.lenOf (.slice a n c)).run P w=.ok n w:=AX
theorem VL.one {g:AZ} {w:ϙ} {cs:Ϭ} {vs:List ϛ} (h:VL g w cs vs) (b:cs.all BS=Z):∀u∈vs,u.oneCell'=true:=by
 intro u d;obtain⟨j,f,rfl⟩:=Nf.1 d;have e:j<cs.length:=by rw[h.len]; omega
 exact J3 (h.at_ j cs[j] _ AD AD) (Cl.1 b cs[j] AD)
def OU {E:Env} {L:Ba} {g:AZ} {w:ϙ} {s b7:AY} (A:Inv E g w s) {t u T:ϝ} {ts:List ϝ} {d:TypeDesc} {x y v:AV} {θ a3:ϛ}
  (hx:V g w x θ) (b8:V g w y a3) (ψ:E.P.underlying u=Y d) (S:∀k,d≠.int k) (h:JV E.P L s t x y=Y (v,b7)) :
  ∃b9 w' g',(Builtin.append_ (List.toArray (t::u::ts)) T #[θ,a3]).run E.P w=.ok b9 w'/\V g' w' v b9/\Ext L g w g' w'/\Inv E g' w' b7:=by
 unfold JV at h;split at h
 .rename_i r ω
  split at h
  .rename_i i ι
   split at h
   .rename_i π
    obtain⟨π,U⟩:=π
    obtain⟨z,hz1,hz2⟩:∃z,zeroOf E.P r=Y z/\z.length=i.size:=by
     cases H:zeroOf E.P r with
     | none=>simp[H] at π
     | some z=>simp[H] at π; exact⟨z,rfl,π⟩
    have⟨j,zv,b0,Ψ,_,hzl⟩:=ET (g:=g) (w:=w) hz1;have:j=i:=by rw[ι] at b0; simpa using b0.symm
    subst this;have b1:Dy E.P r=Y j.size:=by simp[Dy,ι]
    have σ:zv.cells.size=j.size:=by rw[<-IZ,<-hzl.len]; exact hz2
    split at h
    ·-- nothing is appended
     rename_i Θ;have⟨n,us,hn,Ω,ν,N⟩:=J4 A b8 U Θ
     have hn0:n=0:=by
      rcases Nat.mul_eq_zero.1 Ω.symm with x|x
      .exact x
      .exact absurd x U
     subst hn0;have hus:us=[]:=N.Fb;subst hus
     have key:∀(γ:Option Addr) (len O:Nat),θ=.slice γ len O->len<=O ->
       (Builtin.append_ (List.toArray (t::u::ts)) T #[θ,a3]).run E.P w=.ok θ w:=by
      intro γ len O e hle;subst e;rw[run_append_room T ts ω ι ψ S hn (ν w rfl) AA];cases γ <;> rfl
     split at h
     .rename_i id off len sz
      cases τ:Tel.alive s id with
      | false=>grind
      | true=>
       simp only[τ,AQ,BU,Bg] at h;obtain⟨rfl,rfl⟩:=h;refine⟨θ,w,g,?_,hx,Ext.refl _ _ _,A⟩;cases hx with
       | Jb S=>exact absurd S (A.alive τ)
       | ref _ a8=>grind
     grind[EU,Ext.refl]
    ·-- something is appended
     rename_i c α Θ;split at h
     .rename_i hok
      have⟨n,us,hn,Ω,ν,N⟩:=J4 A b8 U Θ;have a9:=N.one hok;have hdiv:(c::α).length / j.size=n:=by grind[Nat.mul_div_cancel]
      have hnp:0<n:=AB;have W:us.length=n*j.size:=by rw[<-N.len]; omega
      simp only[hdiv] at h;split at h
      .rename_i id off len sz
       split at h
       .rename_i X hold
        split at h
        .rename_i ρ
         obtain⟨rfl,rfl,hlo,τ,ξ,ο,b2⟩:=ρ;simp only[BU,Bg] at h;obtain⟨rfl,rfl⟩:=h;cases hx with
         | Jb S=>exact absurd S (A.alive τ)
         | @ref _ _ _ _ b O n' e Λ a8 hs hn'=>
          have⟨cs',p,e',k1,k2,kle,k3⟩:=A.blk id b Λ;rw[hold] at k1; simp only[BU] at k1; subst k1;have hsh:p.length=n':=by rw[CM k2] at hs; grind
          have k4:VL g w (X.take (len*j.size)) (p.take (len*j.size)):=by
           have:=k3.take (len*j.size)
           grind
          by_cases β:len+n<=O
          .have a0:len*j.size+us.length<=p.length:=by
            have:=Be j.size β
            grind
           have hst:=GN (P:=E.P) (b:=b) (o:=len*j.size) (e:=e') us 0 w p a9 k2 AA;have b3:(X.take (len*j.size)).length=len*j.size:=AB
           have⟨B,Γ⟩:=A.rN (L:=L) (cs':=X.take (len*j.size)++(c::α)) (vs':=Ca p (len*j.size) us) Λ k2 (B8 _ _ _) b2
            (by grind[B8])
            (by rw[B6,Ω,<-W,b3,LV us p _ a0]; exact k4.append N)
           refine⟨_,_,_,?_,V.ref (b:=b) (e:=e') (n:=n') ?_ β ?_ hn',B,Γ⟩
           .simp[*,run_append_room,Dl]
           all_goals grind[AZ.GO,CM,Bv,B8]
          .have hvt:(p.take (len*j.size)).length=len*j.size:=by grind
           have b3:(X.take (len*j.size)).length=len*j.size:=AB;have hos:(Builtin.firstCells j.size len (.slice (Y ⟨b,0,G⟩) len O)).run E.P (Bt w)=.ok (List.toArray (p.take (len*j.size))) (Bt w):=by grind[Builtin.firstCells,E2,Bt,CI]
           have⟨C,D,Q,ε,δ⟩:=run_append_grow (base:=Y ⟨b,0,G⟩) (sCap:=O) T ts ω ι ψ S hn (ν (Bt w) rfl) hos Ψ AA ξ ο;have⟨B,κ⟩:=A.drew (L:=L);have⟨Γ,i2⟩:=κ.kill (L:=L) Λ b2;have hpre:(X.take (len*j.size)++(c::α)).length<=(p.take (len*j.size)++us++D).length:=AB
           have ζ:(p.take (len*j.size)++us++D).take (X.take (len*j.size)++(c::α)).length=p.take (len*j.size)++us:=by
            rw[So AB]
           have⟨e3,i3⟩:=i2.TV (L:=L) (cs:=X.take (len*j.size)++(c::α)) (vs:=p.take (len*j.size)++us++D) r hpre (by rw[ζ]; exact((k4.append N).mono B).mono Γ);refine⟨_,_,_,δ,?_,(B.trans Γ).trans e3,i3⟩;refine V.ref (b:=w.heap.size) (e:=r) (n:=(p.take (len*j.size)++us++D).length) ?_ Q ?_ ?_
           .simp[AZ.GO,Bt]
           .exact CM (by rw[Cb]; exact if_pos rfl)
           .simp only[B6,hvt,W,ε,σ]
            rw[<-DM,<-DM]
            grind
        grind
       grind
      .rename_i rows
       split at h
       .rename_i ρ
        obtain⟨ξ,ο,Ξ⟩:=ρ;have a4:=L8 Ξ;cases hx with
        | @AE _ γ b o sz f a5=>
         have⟨K,M,_,Δ⟩:=a5.Ww U a4 rows.length;have⟨C,D,Q,ε,δ⟩:=run_append_grow (base:=γ) (sCap:=rows.length) T ts ω ι ψ S hn (ν (Bt w) rfl) (Δ E.P (Bt w) rfl) Ψ AA ξ ο;have⟨B,κ⟩:=A.drew (L:=L);cases b4:L.mu r with
         | true=>
          simp only[b4,AQ,BU,Bg] at h;obtain⟨rfl,rfl⟩:=h;have b5:=(M.vl U).append N;have hlen:(rows.flatten.map AV.pv++(c::α)).length=(K++us).length:=b5.len;have⟨e3,i3⟩:=κ.TV (L:=L) (cs:=rows.flatten.map .pv++(c::α)) (vs:=K++us++D) r AB (by rw[hlen,So rfl]; exact b5.mono B);refine⟨_,_,_,δ,?_,B.trans e3,i3⟩;refine V.ref (b:=w.heap.size) (e:=r) (n:=(K++us++D).length) ?_ Q ?_ ?_
          .simp[AZ.GO,Bt]
          .exact CM (by rw[Cb]; exact if_pos rfl)
          .simp only[B6,M.len,W,ε,σ]
           rw[<-DM,<-DM]
           grind
         | false=>
          simp only[b4,AL] at h;split at h
          .rename_i ps a1
           simp only[BU,Bg] at h;obtain⟨rfl,rfl⟩:=h;have⟨q1,a6⟩:=HO N a1;have a2:Flat g.I w (CZ j.size n ps) j.size us:=Ip W q1 a6;have υ:=M.append a2
           have Φ:(K++us++D).length=C*j.size:=by
            simp only[B6,M.len,W,ε,σ];rw[<-DM,<-DM];rw[show rows.length+n+(C-(rows.length+n))=C by omega]
           have⟨e3,i3⟩:=κ.kz (L:=L) (t:=s.ts.length) (e:=r) Φ Q U b1 (.inl ⟨rfl,rfl⟩);have η:(rows++CZ j.size n ps).length=rows.length+n:=by grind[Fo]
           refine⟨_,_,_,δ,?_,B.trans e3,i3⟩
           have μ:=HQ (g:=g.Gu s.ts.length ⟨(Bt w).heap.size,C,j.size,rows.length+n,r⟩) (w:=Cy (Bt w) (K++us++D) r) (t:=s.ts.length) (b:=(Bt w).heap.size) (cap:=C) (e:=r)
            (by simp[AZ.Gu]) (υ.mono (B.trans e3).mono (B.trans e3).cell) η Q (λo ς=>.inr ⟨rfl,ς⟩) (λq u H=>by
             rw[CI (by rw[Cb]; exact if_pos rfl),C3 (DY H)]; omega)
           rw[η] at μ;exact μ
          grind
       grind
      .rename_i k rows
       split at h
       .rename_i ρ
        obtain⟨ξ,ο,hts,b6,Ξ⟩:=ρ;have a4:=L8 Ξ;split at h
        .rename_i ps a1
         simp only[BU,Bg] at h;obtain⟨rfl,rfl⟩:=h;have⟨q1,a6⟩:=HO N a1;have a2:Flat g.I w (CZ j.size n ps) j.size us:=Ip W q1 a6;have η:(rows++CZ j.size n ps).length=rows.length+n:=by grind[Fo]
         cases hx with
         | @own _ _ γ b o sz O f l a5 a8 ζ hnl hf=>
          have⟨m,hl1,φ,AVs⟩:=A.HH k _ _ hts;have:m=l:=AB;subst this;obtain⟨rfl,rfl,rfl,rfl,rfl⟩:=hf φ.symm;have⟨K,M,hco,Δ⟩:=a5.Ww U a4 m.cap;have υ:=M.append a2;have⟨p,fz,a7,AVu,hnc,hsz,hfz,hsl⟩:=A.tok k m ζ;have χ:m.sz=j.size:=AB
          by_cases β:rows.length+n<=m.cap
          .have a0:m.n*m.sz+us.length<=p.length:=by
            have:=Be j.size β
            grind[Nat.add_mul]
           have hst:=Fj (P:=E.P) (b:=m.b) (o:=m.n*m.sz) (e:=m.e) hfz us 0 w p a9 a7 AA;have⟨e3,i3⟩:=A.ABM (L:=L) (n:=rows.length+n) (us:=us) ζ a7 AA β b6;have i3':Inv E (g.Gu k { m with n:=rows.length+n }) (Bd w m.b (Ca p (m.n*m.sz) us) m.e fz) { s with ts:=s.ts.set k (rows.length+n,r) }:=AB;refine⟨.slice (Y ⟨m.b,0,G⟩) (rows.length+n) m.cap,_,_,?_,?_,e3,i3'⟩
           .simp_all[run_append_room,Dl]
           .have μ:=HQ (g:=g.Gu k { m with n:=rows.length+n }) (w:=Bd w m.b (Ca p (m.n*m.sz) us) m.e fz) (t:=k) (b:=m.b) (cap:=m.cap) (sz:=m.sz) (e:=m.e)
             (by simp[AZ.Gu]) (Flat.ALh χ.symm (υ.mono e3.mono e3.cell)) η β (λo ς=>.inr ⟨rfl,ς⟩) (λq u H=>by
              rw[CI (by rw[Bv,if_pos rfl,if_pos (A.GM ζ)])];rcases Fv q K.length with x|x
              .rw[C3 x] at H
               have:=(hco q u H).2;rw[CI a7,CY] at this;rw[Fk us p _ _ (.inl (by rw[φ,χ,<-M.len]; exact x))];omega
              .rw[Ei x] at H
               have:=HP us p (m.n*m.sz) _ u H a0;rw[φ,χ,<-M.len,show K.length+(q-K.length)=q by omega] at this;rw[φ,χ,<-M.len];omega)
            grind
          .have⟨C,D,Q,ε,δ⟩:=run_append_grow (base:=Y ⟨m.b,0,G⟩) (sCap:=m.cap) T ts ω ι ψ S hn (ν (Bt w) rfl) (Δ E.P (Bt w) rfl) Ψ AA ξ ο
           have⟨B,κ⟩:=A.drew (L:=L)
           have Φ:(K++us++D).length=C*j.size:=by
            simp only[B6,M.len,W,ε,σ];rw[<-DM,<-DM];rw[show rows.length+n+(C-(rows.length+n))=C by omega]
           have⟨e3,i3⟩:=κ.kz (L:=L) (t:=k) (e:=r) Φ Q U b1 (.inr ⟨m,ζ,AA,b6,rfl⟩);refine⟨_,_,_,δ,?_,B.trans e3,i3⟩
           have μ:=HQ (g:=g.Gu k ⟨(Bt w).heap.size,C,j.size,rows.length+n,r⟩) (w:=Cy (Bt w) (K++us++D) r) (t:=k) (b:=(Bt w).heap.size) (cap:=C) (e:=r)
            (by simp[AZ.Gu]) (υ.mono (B.trans e3).mono (B.trans e3).cell) η Q (λo ς=>.inr ⟨rfl,ς⟩) (λq u H=>by
             rw[CI (by rw[Cb]; exact if_pos rfl),C3 (DY H)]; omega)
           rw[η] at μ;exact μ
        grind
       grind
      grind
     grind
    grind
   grind
  grind
 grind
end Go.Tel
