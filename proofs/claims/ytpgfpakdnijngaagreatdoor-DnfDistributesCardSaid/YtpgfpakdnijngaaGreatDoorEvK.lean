/-
  Single operations, part 9: slices cut and made, conversions, nil.
-/
import Derived.Test.YtpgfpakdnijngaaGreatDoorEvC
import Derived.Laws.BytesString
set_option linter.unusedSimpArgs false
set_option linter.unusedVariables false
namespace Go.Tel
theorem FU {g:AH} {w:World} {x:AV} {v:Value} {n:Nat} (h:V g w x v) (hn:Hg x=some n):∃ k,v=.int k n:=by
 unfold Hg at hn;split at hn
 ·rename_i k m
  split at hn
  ·simp at hn; subst hn
   exact⟨k,by rw[h.CM]; congr 1; omega⟩
  ·simp at hn
 ·simp at hn
theorem run_sliceBound {P:Program} {w:World} {k:IntKind} {n y:Nat} {c:BoundsCode} (h:n<=y):(Instr.sliceBound (.int k n) y c).run P w=.ok n w:=by
 have h0:(0:Int)<=(n:Int):=by omega
 have h1:(n:Int)<=(y:Int):=by omega
 simp[Instr.sliceBound,asIntOf,h1]
theorem VP.nil {I:Nat->Nat->Prop} {w:World} (base:Option Addr) (cap:Nat):VP I w (.list []) (.slice base 0 cap):=
 VP.IP (b:=0) (o:=0) (sz:=0) (f:=fun _ _=>undef) (EH.nil) (AM _)
theorem EH.sub {I:Nat->Nat->Prop} {w:World} {rows:List (List PV)} {base:Option Addr} {b o sz:Nat} {f:Nat->Nat->Value} (h:EH I w rows base b o sz f) (l hh cap k:Nat)
  (hh':hh<=rows.length) (hc:hh<=cap) (hk:∀ r∈rows,r.length=k) :
  EH I w ((rows.take hh).drop l) (if cap=l then base else base.map (·.add (l*k))) b (o+l*sz) sz (fun i j=>f (i+l) j):=by
 have get:∀ i row,((rows.take hh).drop l)[i]?=some row->rows[i+l]?=some row:=fun i row hr=>by
  rw[GM,CT] at hr;split at hr
  ·rw[Eb]; exact hr
  ·simp at hr
 refine⟨fun row hr=>?_,fun hne hs=>?_,fun i row j c hr hj=>?_,fun i row j c hr hj=>?_⟩
 ·exact h.hsz row (List.mem_of_mem_take (List.mem_of_mem_drop hr))
 ·have hlt:l<hh:=by
   rcases CU l hh with x|x
   ·exact x
   ·exact absurd (List.drop_eq_nil_of_le (by simp; omega)) hne
  have hrn:rows≠[]:=by intro e; subst e; simp at hh'; omega
  have hb:=h.hbase hrn hs
  have hsk:sz=k:=by
   obtain⟨r,rs,rfl⟩:∃ r rs,rows=r::rs:=by cases rows with|nil=>exact absurd rfl hrn|cons r rs=>exact⟨r,rs,rfl⟩
   rw[<-h.hsz r (by simp)]; exact hk r (by simp)
  rw[if_neg (by omega),hb,hsk];simp[DW]
 ·have:=h.hc (i+l) row j c (get i row hr) hj
  rw[show o+l*sz+i*sz+j=o+(i+l)*sz+j by rw[CH]; omega];exact this
 ·exact h.hv (i+l) row j c (get i row hr) hj
theorem Xn {E:Env} {g:AH} {w:World} {s:AK} (hI:Inv E g w s) {P:Program} {t:TypeId} {x v:AV} {xv:Value} {lo hi mx:Option AV} {wW hiv mxv:Option Value}
  (hx:V g w x xv) (hlo:∀ a,lo=some a->∃ b,wW=some b/\V g w a b) (o9:lo=none->wW=none) (hhi:∀ a,hi=some a->∃ b,hiv=some b/\V g w a b) (ANr:hi=none->hiv=none)
  (hmx:∀ a,mx=some a->∃ b,mxv=some b/\V g w a b) (ANs:mx=none->mxv=none) (h:Nj P s t x lo hi mx=some v) :
  ∃ v',(Instr.sliceAt t xv wW hiv mxv).run P w=.ok v' w/\V g w v v':=by
 unfold Nj at h;split at h
 ·rename_i elem hu
  split at h
  ·rename_i k hk
   obtain⟨ti,Oh,cZ⟩:=FP hk
   have bounds:∀ (len cap l hh m:Nat),Gw len hi=some hh->Gw 0 lo=some l->l<=hh->hh<=len->len<=cap ->
     ((mx=none/\m=cap)\/(∃ a,mx=some a/\Hg a=some m/\m=hh/\hi.isSome=true)) ->
     (Instr.sliceBounds true len cap wW hiv mxv).run P w=.ok (l,hh,m) w:=by
    intro len cap l hh m e1 e2 h1 h2 h3 h4
    have ADk:∀ c,(match wW with|some v=>Instr.sliceBound v hh c|none=>pure 0:Sem Nat).run P w=.ok l w:=by
     intro c;cases lo with
     | none=>rw[o9 rfl]; simp[Gw] at e2; simp[e2]
     | some a=>
      obtain⟨b,hb,hv⟩:=hlo a rfl;obtain⟨k,rfl⟩:=FU hv (by simpa[Gw] using e2);rw[hb];exact run_sliceBound h1
    rcases h4 with ⟨hm,rfl⟩|⟨a,hm,hma,rfl,hsome⟩
    ·rw[ANs hm]
     cases hi with
     | none=>
      rw[ANr rfl];simp[Gw] at e1;subst e1;simp only[Instr.sliceBounds,Sem.run_bind,Sem.run_pure,Result.andThen_ok];have:=ADk .sliceB;cases wW with
      | none=>simp only[Sem.run_bind,Sem.run_pure,Result.andThen_ok] at this ⊢; simp at this; simp[this]
      | some q=>simp only[OP,Cc,Dk,Sem.run_bind] at this ⊢; rw[this]; rfl
     | some a=>
      obtain⟨b,hb,hv⟩:=hhi a rfl;obtain⟨k,rfl⟩:=FU hv (by simpa[Gw] using e1);rw[hb];simp only[Instr.sliceBounds,Sem.run_bind,Sem.run_pure,Result.andThen_ok,run_sliceBound (show hh<=m by omega)];have:=ADk .sliceB;cases wW with
      | none=>simp only[Sem.run_bind,Sem.run_pure,Result.andThen_ok] at this ⊢; simp at this; simp[this]
      | some q=>simp only[OP,Cc,Dk,Sem.run_bind] at this ⊢; rw[this]; rfl
    ·obtain⟨bm,hbm,hvm⟩:=hmx a hm
     obtain⟨km,rfl⟩:=FU hvm hma;rw[hbm];cases hi with
     | none=>simp at hsome
     | some a'=>
      obtain⟨b,hb,hv⟩:=hhi a' rfl;obtain⟨k,rfl⟩:=FU hv (by simpa[Gw] using e1);rw[hb];simp only[Instr.sliceBounds,Sem.run_bind,Result.andThen_ok,run_sliceBound (show m<=cap by omega),run_sliceBound (AL m)];have:=ADk .slice3C;cases wW with
      | none=>simp only[Sem.run_bind,Sem.run_pure,Result.andThen_ok] at this ⊢; simp at this; simp[this]
      | some q=>simp only[Option.isSome_some,Dr,Sem.run_bind] at this ⊢; rw[this]; rfl
   have run:∀ (a:Option Addr) (len cap l hh m:Nat),(Instr.sliceBounds true len cap wW hiv mxv).run P w=.ok (l,hh,m) w ->
     (Instr.sliceAt t (.slice a len cap) wW hiv mxv).run P w=.ok (.slice (if m=l then a else a.map (·.add (l*k))) (hh-l) (m-l)) w:=by
    intro a len cap l hh m hb;simp[Instr.sliceAt,Instr.slice,run_underlying hu,hb,run_sizeOf Oh,cZ]
   split at h
   ·rename_i id off len sz
    split at h
    ·rename_i hh l e1 e2
     split at h
     ·rename_i hc
      obtain⟨h1,h2,rfl,cj,hal⟩:=hc;cases hx with
      | I8 hd=>exact absurd hd (hI.alive hal)
      | @ref _ _ _ _ b cap n e F2 hcap hs hn=>
       have hb:=bounds len cap l hh cap e1 e2 h1 h2 hcap (.inl ⟨rfl,rfl⟩);refine⟨_,run _ _ _ _ _ _ hb,?_⟩;split at h
       ·rename_i hlh
        subst hlh;simp at h; subst h;rw[Rg];exact .pv (VP.nil _ _)
       ·rename_i hlh
        simp at h; subst h;rw[if_neg (by omega)];simp only[Jw,DW];refine V.ref F2 (by omega) hs ?_;have:l*sz+(cap-l)*sz=cap*sz:=by rw[<-CH]; congr 1; omega
        omega
     ·simp at h
    ·rename_i hh l m e1 e2
     split at h
     ·rename_i mm hm
      split at h
      ·rename_i hc
       obtain⟨rfl,h2,rfl,hsome,hal⟩:=hc;simp at h; subst h;cases hx with
       | I8 hd=>exact absurd hd (hI.alive hal)
       | @ref _ _ _ _ b cap n e F2 hcap hs hn=>
        have hb:=bounds len cap mm mm mm e1 e2 (AL _) h2 hcap (.inr ⟨m,rfl,hm,rfl,hsome⟩);refine⟨_,run _ _ _ _ _ _ hb,?_⟩;rw[Rg];exact V.AA (rows:=[]) (b:=0) (o:=0) (sz:=0) (f:=fun _ _=>undef) EH.nil
      ·simp at h
     ·simp at h
    ·simp at h
   ·split at h
    ·rename_i rows hrows
     obtain⟨base,cap,b,o,sz,f,rfl,hcap,hr⟩:=EC hx hrows;split at h
     ·rename_i hh l e1 e2
      split at h
      ·rename_i hc
       obtain⟨h1,h2,hall⟩:=hc;have hlen:((rows.take hh).drop l).length=hh-l:=by simp; omega
       split at h
       ·simp at h; subst h
        have hb:=bounds rows.length cap l hh cap e1 e2 h1 h2 hcap (.inl ⟨rfl,rfl⟩);refine⟨_,run _ _ _ _ _ _ hb,?_⟩;have:=VP.IP (hr.sub l hh cap k h2 (by omega) (LM hall)) (show((rows.take hh).drop l).length<=cap-l by rw[hlen]; omega);rw[hlen] at this;exact .pv this
       ·rename_i m
        split at h
        ·rename_i mm hm
         split at h
         ·rename_i hmm
          obtain⟨rfl,hsome⟩:=hmm;simp at h; subst h;have hb:=bounds rows.length cap l mm mm e1 e2 h1 h2 hcap (.inr ⟨m,rfl,hm,rfl,hsome⟩);refine⟨_,run _ _ _ _ _ _ hb,?_⟩;have:=V.AA (g:=g) (w:=w) (hr.sub l mm mm k h2 (AL _) (LM hall));rw[hlen] at this;exact this
         ·simp at h
        ·simp at h
      ·simp at h
     ·simp at h
    ·simp at h
  ·simp at h
 ·simp at h
end Go.Tel
