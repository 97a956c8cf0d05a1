/-
  Single operations, part 9: slices cut and made, conversions, nil.
-/
import Derived.Test.YtpgfpakdnijngaaGreatDoorEvC
import Derived.Laws.BytesString
set_option linter.all false
namespace Go.Tel
open Option renaming some->Y,none->G
open Bool renaming true->Z
theorem Fc {g:AZ} {w:World} {x:AV} {v:Value} {n:Nat} (h:V g w x v) (hn:Ho x=Y n):∃k,v=.int k n:=by
 unfold Ho at hn;split at hn
 .rename_i k m
  split at hn
  .simp at hn; subst hn
   exact⟨k,by rw[h.DX]; grind⟩
  grind
 grind
theorem run_sliceBound {P:Program} {w:World} {k:IntKind} {n y:Nat} {c:BoundsCode} (h:n<=y):(Instr.sliceBound (.int k n) y c).run P w=.ok n w:=by simp[*,Instr.sliceBound,asIntOf]
def VP.nil {I:Nat->Nat->Prop} {w:World} (base:Option Addr) (cap:Nat):VP I w (.list []) (.slice base 0 cap):=
 VP.Ja (b:=0) (o:=0) (sz:=0) (f:=λ_ _=>undef) (Em.nil) (AO _)
theorem Em.sub {I:Nat->Nat->Prop} {w:World} {rows:Ϯ} {base:Option Addr} {b o sz:Nat} {f:Nat->Nat->Value} (h:Em I w rows base b o sz f) (l m cap k:Nat)
  (u:m<=rows.length) (A:m<=cap) (B:∀r∈rows,r.length=k) :
  Em I w ((rows.take m).drop l) (if cap=l then base else base.map (·.add (l*k))) b (o+l*sz) sz (λi j=>f (i+l) j):=by
 have get:∀i d,((rows.take m).drop l)[i]?=Y d->rows[i+l]?=Y d:=λi d e=>by grind
 refine⟨λd e=>?_,λx t=>?_,λi d j c e n=>?_,λi d j c e n=>?_⟩
 .exact h.hsz d (List.mem_of_mem_take (List.mem_of_mem_drop e))
 .have y:l<m:=by simp_all
  have s:rows≠[]:=AB;have hb:=h.hbase s t
  have z:sz=k:=by
   obtain⟨r,p,rfl⟩:∃r p,rows=r::p:=by cases rows with|nil=>grind|cons r p=>simp
   rw[<-h.hsz r AD]; grind
  grind[Dl]
 .have:=h.hc (i+l) d j c (get i d e) n
  grind
 .exact h.hv (i+l) d j c (get i d e) n
def ZG {E:Env} {g:AZ} {w:World} {s:AY} (X:Inv E g w s) {P:Program} {t:TypeId} {x v:AV} {α:Value} {lo y mx:Option AV} {u B C:Option Value}
  (hx:V g w x α) (υ:∀a,lo=Y a->∃b,u=Y b/\V g w a b) (ς:lo=G->u=G) (U:∀a,y=Y a->∃b,B=Y b/\V g w a b) (ζ:y=G->B=G)
  (ι:∀a,mx=Y a->∃b,C=Y b/\V g w a b) (η:mx=G->C=G) (h:Qm P s t x lo y mx=Y v) :
  ∃β,(Instr.sliceAt t α u B C).run P w=.ok β w/\V g w v β:=by
 unfold Qm at h;split at h
 .rename_i σ Γ
  split at h
  .rename_i k ο
   have⟨Δ,φ,χ⟩:=FY ο
   have I:∀(len d l i m:Nat),GH len y=Y i->GH 0 lo=Y l->l<=i->i<=len->len<=d ->
     ((mx=G/\m=d)\/(∃a,mx=Y a/\Ho a=Y m/\m=i/\y.isSome=Z)) ->
     (Instr.sliceBounds Z len d u B C).run P w=.ok (l,i,m) w:=by
    intro len d l i m j z D p Θ π
    have M:∀c,(match u with|some v=>Instr.sliceBound v i c|none=>pure 0:Sem Nat).run P w=.ok l w:=by
     intro c;cases lo with
     | none=>simp_all[GH]
     | some a=>
      grind[Fc,GH,run_sliceBound]
    rcases π with ⟨hm,rfl⟩|⟨a,hm,κ,rfl,K⟩
    .rw[η hm]
     cases y with
     | none=>
      rw[ζ rfl];simp[GH] at j;subst j;simp only[Instr.sliceBounds,Sem.run_bind,Sem.run_pure,Result.andThen_ok];have:=M .sliceB
      grind[Sem.run_bind,Sem.run_pure,Result.andThen_ok]
     | some a=>
      have⟨b,hb,O⟩:=U a rfl;obtain⟨k,rfl⟩:=Fc O Bp;rw[hb];simp only[Instr.sliceBounds,Sem.run_bind,Sem.run_pure,Result.andThen_ok,run_sliceBound (show i<=m by omega)];have:=M .sliceB
      grind[Sem.run_bind,Sem.run_pure,Result.andThen_ok]
    .have⟨Λ,μ,ν⟩:=ι a hm
     obtain⟨Ξ,rfl⟩:=Fc ν κ;rw[μ];cases y with
     | none=>grind
     | some ρ=>
      have⟨b,hb,O⟩:=U ρ rfl;obtain⟨k,rfl⟩:=Fc O Bp;rw[hb];simp only[Instr.sliceBounds,Sem.run_bind,Result.andThen_ok,run_sliceBound (show m<=d by omega),run_sliceBound (AU m)];have:=M .slice3C
      grind[Sem.run_bind,Sem.run_pure,Result.andThen_ok]
   have L:∀(a:Option Addr) (len d l i m:Nat),(Instr.sliceBounds Z len d u B C).run P w=.ok (l,i,m) w ->
     (Instr.sliceAt t (.slice a len d) u B C).run P w=.ok (.slice (if m=l then a else a.map (·.add (l*k))) (i-l) (m-l)) w:=by
    intro a len d l i m hb;simp[*,Instr.sliceAt,Instr.slice,run_underlying,run_sizeOf]
   split at h
   .rename_i id ψ len sz
    split at h
    .rename_i i l j z
     split at h
     .rename_i H
      obtain⟨D,p,rfl,ω,N⟩:=H;cases hx with
      | Jb Q=>exact absurd Q (X.alive N)
      | @ref _ _ _ _ b d n e S A γ hn=>
       have hb:=I len d l i d j z D p A (.inl ⟨rfl,rfl⟩);refine⟨_,L _ _ _ _ _ _ hb,?_⟩;split at h
       .rename_i W
        subst W;simp at h; subst h;rw[Nat.sub_self];exact .pv (VP.nil _ _)
       .rename_i W
        simp at h; subst h;rw[if_neg AA];simp only[Nl,Dl];refine V.ref S AA γ ?_;have:l*sz+(d-l)*sz=d*sz:=by rw[<-DM]; grind
        omega
     grind
    .rename_i i l m j z
     split at h
     .rename_i r hm
      split at h
      .rename_i H
       obtain⟨rfl,p,rfl,K,N⟩:=H;simp at h; subst h;cases hx with
       | Jb Q=>exact absurd Q (X.alive N)
       | @ref _ _ _ _ b d n e S A γ hn=>
        have hb:=I len d r r r j z (AU _) p A (.inr ⟨m,rfl,hm,rfl,K⟩);refine⟨_,L _ _ _ _ _ _ hb,?_⟩;rw[Nat.sub_self];exact V.AE (rows:=[]) (b:=0) (o:=0) (sz:=0) (f:=λ_ _=>undef) Em.nil
      grind
     grind
    grind
   .split at h
    .rename_i rows ε
     obtain⟨τ,d,b,o,sz,f,rfl,A,δ⟩:=EU hx ε;split at h
     .rename_i i l j z
      split at h
      .rename_i H
       obtain⟨D,p,T⟩:=H;have θ:((rows.take i).drop l).length=i-l:=AB;split at h
       .simp at h; subst h
        have hb:=I rows.length d l i d j z D p A (.inl ⟨rfl,rfl⟩);refine⟨_,L _ _ _ _ _ _ hb,?_⟩;have:=VP.Ja (δ.sub l i d k p AA (L8 T)) (show((rows.take i).drop l).length<=d-l by omega);rw[θ] at this;exact .pv this
       .rename_i m
        split at h
        .rename_i r hm
         split at h
         .rename_i ξ
          obtain⟨rfl,K⟩:=ξ;simp at h; subst h;have hb:=I rows.length d l r r j z D p A (.inr ⟨m,rfl,hm,rfl,K⟩);refine⟨_,L _ _ _ _ _ _ hb,?_⟩;have:=V.AE (g:=g) (w:=w) (δ.sub l r r k p (AU _) (L8 T))
          grind
         grind
        grind
      grind
     grind
    grind
  grind
 grind
end Go.Tel
