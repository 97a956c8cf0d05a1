/-
  Single operations, part 9: slices cut and made, conversions, nil.
-/
import Derived.Test.YtpgfpakdnijngaaGreatDoorEvC
import Derived.Laws.BytesString
set_option linter.all false
namespace Go.Tel
theorem FP {g:AP} {w:World} {x:AV} {v:Value} {n:Nat} (h:V g w x v) (hn:HS x=some n):∃k,v=.int k n:=by
 unfold HS at hn;split at hn
 .rename_i k m
  split at hn
  .simp at hn; subst hn
   exact⟨k,by rw[h.DC]; grind⟩
  grind
 grind
theorem run_sliceBound {P:Program} {w:World} {k:IntKind} {n y:Nat} {c:BoundsCode} (h:n<=y):(Instr.sliceBound (.int k n) y c).run P w=.ok n w:=by simp[*,Instr.sliceBound,asIntOf]
theorem VP.nil {I:Nat->Nat->Prop} {w:World} (base:Option Addr) (cap:Nat):VP I w (.list []) (.slice base 0 cap):=
 VP.JH (b:=0) (o:=0) (sz:=0) (f:=λ_ _=>undef) (ES.nil) (AN _)
theorem ES.sub {I:Nat->Nat->Prop} {w:World} {rows:List (List PV)} {base:Option Addr} {b o sz:Nat} {f:Nat->Nat->Value} (h:ES I w rows base b o sz f) (l hh cap k:Nat)
  (hh':hh<=rows.length) (hc:hh<=cap) (hk:∀r∈rows,r.length=k) :
  ES I w ((rows.take hh).drop l) (if cap=l then base else base.map (·.add (l*k))) b (o+l*sz) sz (λi j=>f (i+l) j):=by
 have get:∀i row,((rows.take hh).drop l)[i]?=some row->rows[i+l]?=some row:=λi row hr=>by grind
 refine⟨λrow hr=>?_,λhne hs=>?_,λi row j c hr hj=>?_,λi row j c hr hj=>?_⟩
 .exact h.hsz row (List.mem_of_mem_take (List.mem_of_mem_drop hr))
 .have hlt:l<hh:=by simp_all
  have hrn:rows≠[]:=AB;have hb:=h.hbase hrn hs
  have hsk:sz=k:=by
   obtain⟨r,rs,rfl⟩:∃r rs,rows=r::rs:=by cases rows with|nil=>grind|cons r rs=>simp
   rw[<-h.hsz r AD]; grind
  grind[DQ]
 .have:=h.hc (i+l) row j c (get i row hr) hj
  grind
 .exact h.hv (i+l) row j c (get i row hr) hj
theorem Y2 {E:Env} {g:AP} {w:World} {s:AQ} (hI:Inv E g w s) {P:Program} {t:TypeId} {x v:AV} {xv:Value} {lo hi mx:Option AV} {lov hiv mxv:Option Value}
  (hx:V g w x xv) (hlo:∀a,lo=some a->∃b,lov=some b/\V g w a b) (AAd:lo=none->lov=none) (hhi:∀a,hi=some a->∃b,hiv=some b/\V g w a b) (AXU:hi=none->hiv=none)
  (hmx:∀a,mx=some a->∃b,mxv=some b/\V g w a b) (AXV:mx=none->mxv=none) (h:QW P s t x lo hi mx=some v) :
  ∃v',(Instr.sliceAt t xv lov hiv mxv).run P w=.ok v' w/\V g w v v':=by
 unfold QW at h;split at h
 .rename_i elem hu
  split at h
  .rename_i k hk
   obtain⟨ti,fO,his⟩:=FL hk
   have bounds:∀(len cap l hh m:Nat),Fy len hi=some hh->Fy 0 lo=some l->l<=hh->hh<=len->len<=cap ->
     ((mx=none/\m=cap)\/(∃a,mx=some a/\HS a=some m/\m=hh/\hi.isSome=true)) ->
     (Instr.sliceBounds true len cap lov hiv mxv).run P w=.ok (l,hh,m) w:=by
    intro len cap l hh m e1 e2 h1 h2 h3 h4
    have AF0:∀c,(match lov with|some v=>Instr.sliceBound v hh c|none=>pure 0:Sem Nat).run P w=.ok l w:=by
     intro c;cases lo with
     | none=>simp_all[Fy]
     | some a=>
      grind[FP,Fy,run_sliceBound]
    rcases h4 with ⟨hm,rfl⟩|⟨a,hm,hma,rfl,hsome⟩
    .rw[AXV hm]
     cases hi with
     | none=>
      rw[AXU rfl];simp[Fy] at e1;subst e1;simp only[Instr.sliceBounds,Sem.run_bind,Sem.run_pure,Result.andThen_ok];have:=AF0 .sliceB
      grind[Sem.run_bind,Sem.run_pure,Result.andThen_ok]
     | some a=>
      obtain⟨b,hb,hv⟩:=hhi a rfl;obtain⟨k,rfl⟩:=FP hv Be;rw[hb];simp only[Instr.sliceBounds,Sem.run_bind,Sem.run_pure,Result.andThen_ok,run_sliceBound (show hh<=m by omega)];have:=AF0 .sliceB
      grind[Sem.run_bind,Sem.run_pure,Result.andThen_ok]
    .obtain⟨bm,td,hvm⟩:=hmx a hm
     obtain⟨km,rfl⟩:=FP hvm hma;rw[td];cases hi with
     | none=>grind
     | some a'=>
      obtain⟨b,hb,hv⟩:=hhi a' rfl;obtain⟨k,rfl⟩:=FP hv Be;rw[hb];simp only[Instr.sliceBounds,Sem.run_bind,Result.andThen_ok,run_sliceBound (show m<=cap by omega),run_sliceBound (AY m)];have:=AF0 .slice3C
      grind[Sem.run_bind,Sem.run_pure,Result.andThen_ok]
   have run:∀(a:Option Addr) (len cap l hh m:Nat),(Instr.sliceBounds true len cap lov hiv mxv).run P w=.ok (l,hh,m) w ->
     (Instr.sliceAt t (.slice a len cap) lov hiv mxv).run P w=.ok (.slice (if m=l then a else a.map (·.add (l*k))) (hh-l) (m-l)) w:=by
    intro a len cap l hh m hb;simp[*,Instr.sliceAt,Instr.slice,run_underlying,run_sizeOf]
   split at h
   .rename_i id off len sz
    split at h
    .rename_i hh l e1 e2
     split at h
     .rename_i hc
      obtain⟨h1,h2,rfl,sA,hal⟩:=hc;cases hx with
      | JI hd=>exact absurd hd (hI.alive hal)
      | @ref _ _ _ _ b cap n e IY hcap hs hn=>
       have hb:=bounds len cap l hh cap e1 e2 h1 h2 hcap (.inl ⟨rfl,rfl⟩);refine⟨_,run _ _ _ _ _ _ hb,?_⟩;split at h
       .rename_i hlh
        subst hlh;simp at h; subst h;rw[Nat.sub_self];exact .pv (VP.nil _ _)
       .rename_i hlh
        simp at h; subst h;rw[if_neg AA];simp only[NQ,DQ];refine V.ref IY AA hs ?_;have:l*sz+(cap-l)*sz=cap*sz:=by rw[<-EN]; grind
        omega
     grind
    .rename_i hh l m e1 e2
     split at h
     .rename_i mm hm
      split at h
      .rename_i hc
       obtain⟨rfl,h2,rfl,hsome,hal⟩:=hc;simp at h; subst h;cases hx with
       | JI hd=>exact absurd hd (hI.alive hal)
       | @ref _ _ _ _ b cap n e IY hcap hs hn=>
        have hb:=bounds len cap mm mm mm e1 e2 (AY _) h2 hcap (.inr ⟨m,rfl,hm,rfl,hsome⟩);refine⟨_,run _ _ _ _ _ _ hb,?_⟩;rw[Nat.sub_self];exact V.AE (rows:=[]) (b:=0) (o:=0) (sz:=0) (f:=λ_ _=>undef) ES.nil
      grind
     grind
    grind
   .split at h
    .rename_i rows hrows
     obtain⟨base,cap,b,o,sz,f,rfl,hcap,hr⟩:=Ed hx hrows;split at h
     .rename_i hh l e1 e2
      split at h
      .rename_i hc
       obtain⟨h1,h2,hall⟩:=hc;have hlen:((rows.take hh).drop l).length=hh-l:=AB;split at h
       .simp at h; subst h
        have hb:=bounds rows.length cap l hh cap e1 e2 h1 h2 hcap (.inl ⟨rfl,rfl⟩);refine⟨_,run _ _ _ _ _ _ hb,?_⟩;have:=VP.JH (hr.sub l hh cap k h2 AA (Ll hall)) (show((rows.take hh).drop l).length<=cap-l by omega);rw[hlen] at this;exact .pv this
       .rename_i m
        split at h
        .rename_i mm hm
         split at h
         .rename_i hmm
          obtain⟨rfl,hsome⟩:=hmm;simp at h; subst h;have hb:=bounds rows.length cap l mm mm e1 e2 h1 h2 hcap (.inr ⟨m,rfl,hm,rfl,hsome⟩);refine⟨_,run _ _ _ _ _ _ hb,?_⟩;have:=V.AE (g:=g) (w:=w) (hr.sub l mm mm k h2 (AY _) (Ll hall))
          grind
         grind
        grind
      grind
     grind
    grind
  grind
 grind
end Go.Tel
