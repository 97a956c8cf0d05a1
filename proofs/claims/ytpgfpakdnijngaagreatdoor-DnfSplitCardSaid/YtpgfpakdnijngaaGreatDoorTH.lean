/-
  The reference: renumber.
-/
import Derived.Test.YtpgfpakdnijngaaGreatDoorTG
import Derived.Test.YtpgfpakdnijngaaGreatDoorTE
import Derived.Test.YtpgfpakdnijngaaGreatDoorWpW
import Derived.Test.YtpgfpakdnijngaaGreatDoorTC
set_option linter.all false
namespace Go.Proofs.YtpgfpakdnijngaaGreatDoor
open Go.Tel
attribute [local simp] Ia Mt Js KW ER Fh Eo wO setCells IM D5 DF Ce E2 alive DX KF Tl gY HW JM HI Ib Lr JN oY kj okB oZ oa oc od og fP oh oo oq ot ou ow oz o5 o6 o7 o8 okF o9 pE pF pG pH V7 pI Qm Qn Qo Qp pJ pK pL pM pN pO pP pQ pR pS Hu pT kn pU pV pW pX pY pZ pg pn pq pz Cp
/- QP, QI -/
def wI (i:Int):Bool:=decide (-(2 ^ 50)<=i)&&decide (i<2 ^ 50)
theorem yS {t:Ty} (h:vP wI t=true):Xp t=true:=Oi (λi hi=>by simp only[wI,AH,Cy] at hi; omega) t h
theorem mb {n m:Int} (hm:wI m=true) {t:Ty} (h:vP wI t=true):vP wI (I5 n m t)=true/\size (I5 n m t)=size t:=by
 rw[Jv];refine Oc (λi hi=>?_) t h
 grind
section
variable {R:RT}
theorem AJV {L:List Int} {c:AV} (hc:BE c (Ab L)) (hl:L.length<2 ^ 40) {bd:List Ty} {F:Ty} {Post:AV->Prop} (hP:∀r,MX ⟨bd,F⟩ r->Post r) :
  ∀(j q:Nat) (cur:Ty) (bs:List (List AV)) (tk:List (Nat×Nat)) (o:AV) (y:List AV),q+j=L.length->SL j q cur=F->size cur<2 ^ 37->vP wI cur=true->bs[1]?=some Z5->bs[2]?=some (o::y)->BE o (Ad bd)->BP cur (.agg y) ->
   AEf R 0 0 0 (.ptr 1 0) c (.ptr 2 0) (AG q) ⟨bs,tk⟩ (QP Post):=by
 have hh:(hole:Int)=1073741824:=rfl;intro j
 induction j with
 | zero=>
  intro q cur bs tk o y hi he hsz hv g1 g2 ho hy;rw[SL] at he;subst he;refine AEg (Aq (n:=L.length) (by rw[hc.BA,BF]) (Ao ?_));rw[Az AA];have D4:CG ⟨bd,cur⟩ (.agg (o::y)):=⟨o,y,rfl,ho,hy⟩;obtain⟨c1,c2,c3⟩:=D4.cells;refine Ay (AQ3 (Ag g2 c1 (QA g1 c1 (AN _) c2 (AN _) (Ag (BZ g1) c1 ?_))));obtain⟨o',h1,h2⟩:=ho.closed (bs.set 1 (o::y)) 0;obtain⟨k,n,i,ts⟩:=cur;obtain⟨a,he,ha⟩:=hy;cases he;obtain⟨a',h3,h4⟩:=ha.closed (bs.set 1 (o::[AG k,SS n,AG i,a])) 0;exact⟨.agg (o'::[AG k,SS n,AG i,a']),by simp[*],hP _ ⟨o',_,rfl,h2,a',rfl,h4⟩⟩
 | succ j ih=>
  intro q cur bs tk o y hi he hsz hv g1 g2 ho hy;rw[SL] at he;refine AEg (Aq (n:=L.length) (by rw[hc.BA,BF]) (Ao ?_));rw[Ar AA];obtain⟨d1,d2,d3⟩:=hy.cells;refine A9 (AQ4 (AO (AX g2) (QC g2 d1 (Ba AA AA ?_))));have e1:(1073741825:Int)+(q:Int)=hole+1+q:=AA;rw[e1];refine AL (MB (R:=R) (hole+1+q) q hsz (yS hv) hy) ?_;intro r hr;obtain⟨du,rfl⟩:=hr.Fj.agg;obtain⟨f1,f2,f3⟩:=hr.Fj.cells
  have hw:wI (q:Int)=true:=by
   simp only[wI,AH,Cy];omega
  obtain⟨v1,v2⟩:=mb (n:=hole+1+q) hw hv;refine AO (AX g2) (Zq g2 d1 f1 (AN _) f2 (AN _) (AQ5 (Ba AA AA ?_)));have:=ih (q+1) (I5 (hole+1+q) q cur) (bs.set 2 (o::du)) tk o du AA he AA v1 (BQ g1 AI) (BZ g2) ho hr.Fj
  grind
theorem AJW {b:Br} {L:List Int} {c:AV} (hc:BE c (Ab L)) (hl:L.length<2 ^ 37) (hL:∀i∈L,0<=i/\i<(b.bounds.length:Int)) (QU:b.bounds.length<2 ^ 37) {xa:AV} {xb:List AV} (Up:BE xa (Ad b.bounds)) {F:Ty} {Post:AV->Prop} (hP:∀r,MX ⟨L.map λi=>b.bounds.getD i.toNat aN,F⟩ r->Post r) :
  ∀(j q:Nat) (cur:Ty) (bs:List (List AV)) (tk:List (Nat×Nat)) (o:AV) (y:List AV),q+j=L.length->SL L.length 0 (SK L j q cur)=F->size cur<2 ^ 37->vP wI cur=true->bs[0]?=some (xa::xb)->bs[1]?=some Z5->bs[2]?=some (o::y)->Dl 0 tk 25 o (Ad ((L.take q).map λi=>b.bounds.getD i.toNat aN))->BP cur (.agg y) ->
   AEh R 0 0 0 (.ptr 0 0) (.ptr 1 0) c (.ptr 2 0) (AG q) ⟨bs,tk⟩ (QP Post):=by
 have hh:(hole:Int)=1073741824:=rfl;intro j
 induction j with
 | zero=>
  intro q cur bs tk o y hi he hsz hv g0 g1 g2 ho hy;rw[SK] at he;refine AEi (Aq (n:=L.length) (by rw[hc.BA,BF]) (Ao ?_));rw[Az AA];rw[CU AA] at ho;have:=AJV (R:=R) hc AA hP L.length 0 cur bs tk o y AA he hsz hv g1 g2 ho.A1 hy;exact Ay (AQ6 (by simpa using this))
 | succ j ih=>
  intro q cur bs tk o y hi he hsz hv g0 g1 g2 ho hy;rw[SK] at he;refine AEi (Aq (n:=L.length) (by rw[hc.BA,BF]) (Ao ?_));rw[Ar AA];obtain⟨w,hw⟩:∃w,L[q]?=some w:=⟨_,Au AA⟩;obtain⟨w1,w2⟩:=hL w (A3 hw);obtain⟨t,ht⟩:∃t,b.bounds[w.toNat]?=some t:=⟨_,Au AA⟩;have hgd:b.bounds.getD w.toNat aN=t:=AB;have hLd:L.getD q 0=w:=AB;rw[hLd] at he;obtain⟨d1,d2,d3⟩:=hy.cells;have ix:∀(s:AQ) (K:AV->Prop),K (AG w)->NC s 1 c (AG q) λa=>D5 (env R) s none a K:=λs K h=>BS hc (row:=[.sc (.int .i64 w)]) AA (by grind[KX]) rfl AA (Dy h)
  refine A9 (AQ7 (AO (AX g2) (AZ (off:=0) g2 rfl (AO (AX g0) (AZ (off:=0) g0 rfl (ix _ _ (BS Up (row:=Aj t) w1 (BJ ht) (Al t) AA (Ca (E9 (A7.Bi t).Fj ⟨AI,ZT ho rfl AB λo' GH ho'=>?_⟩)))))))));have hcell:=ho'.A1;refine AO (AX g2) (C2 (off:=0) g2 AD hcell.cells (AN _) hcell.ok (.inl (AN _)) ?_);have es:(o::y).set 0 o'=o'::y:=rfl;rw[es];have sP:=BQ (b:=o'::y) g0 (k:=2) AI;have g1':=BQ (b:=o'::y) g1 (k:=2) AI;have sJ:=BZ (b:=o'::y) g2;generalize bs.set 2 (o'::y)=bs' at sP g1' sJ;refine AO (AX sJ) (QC sJ d1 (ix _ _ (Ba AA AA ?_)));have e1:(1073741825:Int)+(q:Int)=hole+1+q:=AA;rw[e1];refine AL (MB (R:=R) w (hole+1+q) hsz (yS hv) hy) ?_;intro r hr;obtain⟨du,rfl⟩:=hr.Fj.agg;obtain⟨f1,f2,f3⟩:=hr.Fj.cells
  have hwi:wI (hole+1+(q:Int))=true:=by
   simp only[wI,AH,Cy];omega
  obtain⟨v1,v2⟩:=mb (n:=w) hwi hv;refine AO (AX sJ) (Zq sJ d1 f1 (AN _) f2 (AN _) (AQ8 (Ba AA AA ?_)));have ht2:(L.take q).map (λi=>b.bounds.getD i.toNat aN)++[t]=(L.take (q+1)).map λi=>b.bounds.getD i.toNat aN:=by grind[List.take_add_one]
  rw[ht2] at ho';have:=ih (q+1) (I5 w (hole+1+q) cur) (bs'.set 2 (o'::du)) GH o' du AA he AA v1 (BQ sP AI) (BQ g1' AI) (BZ sJ) ho' hr.Fj
  grind
theorem WQ {b:Br} (hs:size b.body<2 ^ 36) (hv:vP wI b.body=true) (hb:b.bounds.length<2 ^ 37) (hr:∀i∈occs b.body [],0<=i/\i<(b.bounds.length:Int)) {x:AV} (hx:MX b x):Af (env R) 50 [x] λr=>MX (Dq b) r:=by
 obtain⟨a,y,rfl,ha,hy⟩:=hx;obtain⟨c1,c2,c3,c4⟩:=hy.cells;have aL:=QE b.body [];simp only[Bz,CQ] at aL;refine e50 (u0:=.agg (a::y)) (by simp[BR,close,ha.close,c4]) (AQ9 ?_);refine Bx (cs:=a::y) rfl (by simp[ha.ok]; grind) (Bj ?_);have g0:(AQ.mk [a::y,Z5] []).bs[0]?=some (a::y):=rfl
 have hs1:BI ⟨[a::y,Z5],[]⟩:=by
  intro d hd;simp only[A5,Ep,Er] at hd;rcases hd with rfl|rfl
  .show Ah _ _=true
   simp only[Ah,ha.Aw,CZ];exact Bp (AN _) _ c3
  rfl
 refine AO (s:=⟨[a::y,Z5],[]⟩) (AX g0) (QC g0 c1 ?_);obtain⟨v,s',⟨ts',h1,_,rfl⟩,h3⟩:=eC (R:=R) b.body AA (.agg y) hy.Fj [] ⟨[a::y,Z5],[]⟩ AB hs1 (Ce (env R) 50 0 0 0) (.AE []) rfl rfl (.inl rfl);refine⟨_,_,h3,AO (s:=⟨[a::y,Z5],ts'⟩) (AX g0) (QC g0 c1 (Hg (AEU hy.Fj) (Bj (QA (s:=⟨[a::y,Z5]++[Z5],ts'⟩) rfl AB (AN _) (by simp[*]) (AN _) ?_))))⟩;have:=AJW (R:=R) (b:=b) (L:=occs b.body []) (c:=v) h1.A1 AA hr hb (xa:=a) (xb:=y) (.inl ha) (F:=(Dq b).body) (Post:=λr=>MX (Dq b) r) (λr h=>h) (occs b.body []).length 0 b.body [a::y,Z5,.AE []::y] ts' (.AE []) y AA rfl AA hv rfl rfl rfl (.inl rfl) hy.Fj
 grind
theorem VH {b:Br} (hs:size b.body<2 ^ 36) (hv:vP wI b.body=true) (hb:b.bounds.length<2 ^ 37) (hr:∀i∈occs b.body [],0<=i/\i<(b.bounds.length:Int)) {x:AV} (hx:CG b x):Af (env R) 50 [x] λr=>MX (Dq b) r:=by
 obtain⟨x',h1,h2,h3⟩:=hx.closed;exact Af.open (args':=[x']) AR AR rfl h1 h2 (WQ hs hv hb hr h3)
end
theorem mg {t:Ty} (hv:valid t=true) (hc:CP 0 t=true) (hs:CM (bw t)) {l:List Br} (hl:DG (AU 32) (depth t) t=some l) :
  ∃ps B,A4 (AU 32) (depth t) t []=(some ps,B)/\l.map Dq=ps.map (HY B)/\(∀b∈l,∀i∈occs b.body [],0<=i/\i<(b.bounds.length:Int))/\(∀b∈B,WI t b)/\∀b∈l,∀c∈b.bounds,WI t c:=by
 have h:=ZK (A8:=AU 32) rfl rfl (depth t) t [] hv hc Et hs [] (λx hx=>by grind);rw[C8 hv hc] at h;have hb:=Ob (f:=depth t) hv hc;have hsz:=Cz (A8:=AU 32) (depth t) t l hl;rw[hl] at h;generalize A4 (AU 32) (depth t) t []=o2 at h hb;rcases o2 with ⟨_|ps,B⟩
 .exact h.elim
 .obtain⟨_,h2⟩:=h
  simp only at hb ⊢
  have h3:∀(l':List Br) (ps':List Ty),(∀b∈l',b∈l)->CB (λb p=>∃φ,Rl false 0 B ([]:List Ty).length B.length [] b p φ) l' ps'->CB (λb p=>b∈l/\∃φ,Rl false 0 B ([]:List Ty).length B.length [] b p φ) l' ps':=by
   intro l'
   induction l' with
   | nil=>intro ps' _ h; cases ps' with
    | nil=>trivial
    | cons _ _=>exact h.elim
   | cons a l' ihl=>
    intro ps' hm h;cases ps' with
    | nil=>exact h.elim
    | cons p ps'=>exact⟨⟨hm a AD,h.1⟩,ihl ps' (λb hb=>hm b AB) h.2⟩
  have h4:∀(l':List Br) (ps':List Ty),CB (λb p=>∃φ,Rl false 0 B ([]:List Ty).length B.length [] b p φ) l' ps'->∀b∈l',∃p φ,Rl false 0 B ([]:List Ty).length B.length [] b p φ:=by
   intro l'
   induction l' with
   | nil=>simp
   | cons a l' ihl=>
    intro ps' h b hb;cases ps' with
    | nil=>exact h.elim
    | cons p ps'=>
     rcases A5.1 hb with rfl|hb
     .exact⟨p,h.1⟩
     .exact ihl ps' h.2 b hb
  have e:l.map Dq=ps.map (HY B):=by
   refine(h3 l ps (λb hb=>hb) h2).map_eq λb p ⟨QU,φ,H⟩=>(iL H (AY _) (Cu hs ?_)).symm
   have:=H.Zi;have:=H.len
   grind
  refine⟨ps,B,rfl,e,λb QU i hi=>?_,hb,λb QU c hc=>?_⟩
  rotate_left
  .obtain⟨p,φ,H⟩:=h4 l ps h2 b QU
   obtain⟨i,hi,hic⟩:=NJ.1 hc;obtain⟨x,hx⟩:∃x,φ[i]?=some x:=⟨_,Au (by have:=H.len; omega)⟩;have h5:=H.Kl i x hx
   grind
  obtain⟨p,φ,H⟩:=h4 l ps h2 b QU;rcases HZ b.body [] i hi with h|h
  .cases h
  .have:=H.len
   rcases H.vis i h with h|h|h
   all_goals grind
theorem mh {L:List Int}:∀(f j:Nat) (t:Ty),j+f<2 ^ 40->vP wI t=true->vP wI (SK L f j t)=true/\size (SK L f j t)=size t
 | 0,_,_,_,h=>⟨h,rfl⟩
 | f+1,j,t,hj,h=>by
  have hw:wI (hole+1+(j:Int))=true:=by
   have:(hole:Int)=1073741824:=rfl;simp only[wI,AH,Cy];omega
  obtain⟨h1,h2⟩:=mb (n:=L.getD j 0) hw h;obtain⟨h3,h4⟩:=mh (L:=L) f (j+1) _ AA h1;exact⟨h3,h4.trans h2⟩
theorem mj:∀(f j:Nat) (t:Ty),j+f<2 ^ 40->vP wI t=true->vP wI (SL f j t)=true/\size (SL f j t)=size t
 | 0,_,_,_,h=>⟨h,rfl⟩
 | f+1,j,t,hj,h=>by
  have hw:wI (j:Int)=true:=by
   simp only[wI,AH,Cy];omega
  obtain⟨h1,h2⟩:=mb (n:=hole+1+(j:Int)) hw h;obtain⟨h3,h4⟩:=mj f (j+1) _ AA h1;exact⟨h3,h4.trans h2⟩
theorem Xx {b:Br} (hv:vP wI b.body=true) (hs:size b.body<2 ^ 36):size (Dq b).body=size b.body/\(Dq b).bounds.length<=size b.body:=by
 have hl:=QE b.body [];simp only[Bz,CQ] at hl;obtain⟨h1,h2⟩:=mh (L:=occs b.body []) (occs b.body []).length 0 b.body AA hv;obtain⟨_,h4⟩:=mj (occs b.body []).length 0 _ AA h1;refine⟨h4.trans h2,?_⟩
 show((occs b.body []).map _).length<=_
 grind
theorem AJX {W:Nat} {b:Br} (h:L7 W b) (hb:b.bounds.length<2 ^ 40):vP wI b.body=true:=
 Zj (λi hi=>by
  have:(hole:Int)=1073741824:=rfl;rw[mI] at hi;simp only[wI,AH,Cy];omega) _ h.ok
section
variable {R:RT}
def qt (R:RT) (t:Ty) (o:List Br×Int):Prop:=∀x,A7 t x->Af (env R) 15 [x] λr=>∃a,r=.tuple [a,AG o.2]/\A2 a (o.1.map Di)
theorem ABt {X:Ty->List Br×Int} {ts:List Ty} {y:AV} (hy:A2 y (Ad ts)) (hl:ts.length<2 ^ 30) (hx:∀t∈ts,qt R t (X t)) {bs:List (List AV)} {tk:List (Nat×Nat)} {xb:List AV} (g0:bs[0]?=some (y::xb)) {Post:AV->Prop} (hP:Post (BB (ts.all λt=>Cg (X t)))) :
  ∀(j p:Nat),p+j=ts.length->(ts.all λt=>Cg (X t))=((ts.drop p).all λt=>Cg (X t))->AEj R 0 0 0 (.ptr 0 0) (AG p) ⟨bs,tk⟩ (QP Post):=by
 intro j
 induction j with
 | zero=>
  intro p hi hall;refine AEk (AO (AX g0) (AZ (off:=0) g0 rfl (Aq (n:=ts.length) (by rw[hy.BA,Aa]) (Ao ?_))));rw[Az AA];rw[CH AA] at hall;rw[hall] at hP;exact Ay (ARA ⟨_,Hu,hP⟩)
 | succ j D1=>
  intro p hi hall;refine AEk (AO (AX g0) (AZ (off:=0) g0 rfl (Aq (n:=ts.length) (by rw[hy.BA,Aa]) (Ao ?_))));rw[Ar AA];obtain⟨t,ht⟩:∃t,ts[p]?=some t:=⟨_,Au AA⟩;have Pz:=A3 ht;rw[drop_cons ht,HP] at hall;refine A9 (ARB (AO (AX g0) (AZ (off:=0) g0 rfl (BM hy (row:=Aj t) AA (by simp[*,BJ]) (Al _) AA (Ca (AL (hx t Pz _ (A7.Bi t)) ?_))))));rintro _ ⟨a,rfl,ha⟩
  have fail:Cg (X t)=false->(QP Post) (BB false) ⟨bs,tk⟩:=λh=>by
   rw[hall,h,Gt] at hP;exact⟨_,Hu,hP⟩
  refine B9 rfl (B9 rfl (EM ?_));cases h0:(X t).2==0 with
  | false=>
   grind[Cr,pk,A9,Cg]
  | true=>
   have:((X t).2 != 0)=false:=AB;rw[this];refine Ak (Ak (Aq (n:=(X t).1.length) (by rw[ha.BA,Bm]) (Ak (F8 (pk ?_)))))
   by_cases h4:(X t).1.length<=4
   .rw[Az AA]
    have hok:Cg (X t)=true:=by simp[Cg,h0,h4]
    rw[hok,CZ] at hall;refine Ay (ARC (Ba AA AA ?_));have:=D1 (p+1) AA hall;simpa using this
   .rw[Ar AA]
    exact A9 (fail (by simp[Cg,h4]))
theorem Zs {X:Ty->List Br×Int} {b:Br} (hs:size b.body<2 ^ 37) (hl:b.bounds.length<2 ^ 30) (hx:∀t∈b.bounds,qt R t (X t)) {x:AV} (kP:MX b x):Af (env R) 51 [x] λr=>r=BB (Nx b&&b.bounds.all λb=>Cg (X b)):=by
 obtain⟨a,y,rfl,ha,hy⟩:=kP;obtain⟨c1,c2,c3,c4⟩:=hy.cells;have hcs:=Ea b.body
 suffices H:∀Post:AV->Prop,Post (BB (Nx b&&b.bounds.all λb=>Cg (X b)))->AEl R 0 0 0 (.agg (a::y)) ⟨[],[]⟩ (QP Post) from e51 (u0:=.agg (a::y)) (by simp[BR,close,ha.close,c4]) (H _ rfl)
 intro Post hP;refine ARD (Bx (cs:=a::y) rfl (by simp[ha.ok]; grind) ?_);have g0:(AQ.mk ([]++[a::y]) []).bs[0]?=some (a::y):=rfl;refine AO (AX g0) (AZ (off:=0) g0 rfl (Aq (n:=b.bounds.length) (by rw[ha.BA,Aa]) (F8 ?_)))
 by_cases h6:b.bounds.length<=6
 .rw[Az AA]
  refine Ak (AO (AX g0) (Ak (QC g0 c1 (Ak (AL (RJ b.body hs _ hy) ?_)))));intro v hv;refine Ak (Aq (n:=(Ae b.body).length) (by rw[hv.BA,BF]) (Ak (F8 (pk ?_))))
  by_cases h3:(Ae b.body).length<=3
  .rw[Az AA]
   have hw:Nx b=true:=by grind[Nx]
   rw[hw,CZ] at hP;have:=ABt (R:=R) ha hl hx (bs:=[]++[a::y]) (tk:=[]) (xb:=y) g0 hP b.bounds.length 0 AA rfl;exact Ay (ARF (by simpa using this))
  .rw[Ar AA]
   have hw:Nx b=false:=by simp[Nx,h3]
   rw[hw,Gt] at hP;exact A9 ⟨_,Hu,hP⟩
 .rw[Ar AA]
  have hw:Nx b=false:=by simp[Nx,h6]
  rw[hw,Gt] at hP;exact Cr (Cr (Cr (Cr (Cr (pk (A9 ⟨_,Hu,hP⟩))))))
theorem WR {X:Ty->List Br×Int} {b:Br} (hs:size b.body<2 ^ 37) (hl:b.bounds.length<2 ^ 30) (hx:∀t∈b.bounds,qt R t (X t)) {x:AV} (kP:CG b x):Af (env R) 51 [x] λr=>r=BB (Nx b&&b.bounds.all λb=>Cg (X b)):=by
 obtain⟨x',h1,h2,h3⟩:=kP.closed;exact Af.open (args':=[x']) AR AR rfl h1 h2 (Zs hs hl hx h3)
end
theorem yT:∀(new pre old post:List AV),old.length=new.length->setCells (pre++(old++post)) pre.length new=pre++(new++post)
 | [],pre,old,post,h=>by
  have:old=[]:=AB;subst this;rfl
 | x::new,pre,old,post,h=>by
  cases old with
  | nil=>grind
  | cons y old=>
   have:=yT new (pre++[x]) old post AB
   grind[setCells]
theorem CB.set {α β:Type} {P:α->β->Prop}:∀{l:List α} {m:List β} (p:Nat) {a:α} {b:β},CB P l m->P a b->CB P (l.set p a) (m.set p b)
 | [],[],_,_,_,_,_=>trivial
 | x::l,y::m,0,_,_,⟨_,h⟩,hab=>⟨hab,h⟩
 | x::l,y::m,p+1,_,_,⟨h1,h2⟩,hab=>⟨h1,CB.set p h2 hab⟩
 | [],_::_,_,_,_,h,_=>h.elim
 | _::_,[],_,_,_,h,_=>h.elim
theorem CB.len {α β:Type} {P:α->β->Prop}:∀{l:List α} {m:List β},CB P l m->l.length=m.length
 | [],[],_=>rfl
 | _::l,_::m,⟨_,h⟩=>by simp[CB.len h]
 | [],_::_,h=>h.elim
 | _::_,[],h=>h.elim
theorem yU:∀{l:List Br} {rows:List (List AV)},CB (λb row=>CG b (.agg row)) l rows->rows.flatten.length=rows.length*5
 | [],[],_=>rfl
 | b::l,row::rows,⟨h1,h2⟩=>by
  have:=yU h2;obtain⟨c1,_,_⟩:=h1.cells
  grind
 | [],_::_,h=>h.elim
 | _::_,[],h=>h.elim
theorem CB.take {α β:Type} {P:α->β->Prop}:∀{l:List α} {m:List β} (p:Nat),CB P l m->CB P (l.take p) (m.take p)
 | [],[],p,_=>by grind
 | _::_,_::_,0,_=>trivial
 | x::l,y::m,p+1,⟨h1,h2⟩=>⟨h1,CB.take p h2⟩
 | [],_::_,_,h=>h.elim
 | _::_,[],_,h=>h.elim
theorem AJY {L:BL} {s:AQ} {lo p:Nat} {l:List Br} {y:AV} {c c':Br} {row:List AV} (hy:EB lo s.bs l y) (hc:l[p]?=some c) (hr:CG c' (.agg row)) (hro:L.ro<=lo) (hn0:L.n0<=lo) {K:AQ->Prop}
  (h:∀bs',EB lo bs' (l.set p c') y->bs'.length=s.bs.length->(∀j d,(∀n,y≠.ref j 0 n 5)->s.bs[j]?=some d->bs'[j]?=some d)->(BI s->BI ⟨bs',s.ts⟩)->K ⟨bs',s.ts⟩):NC s 5 y (AG p) λa=>IM L s 5 a (.agg row) K:=by
 have hp:p<l.length:=(BH.1 hc).1;rcases hy with ⟨rfl,rfl⟩|⟨id,rows,h1,rfl,h2,h3,h4⟩
 .grind
 .obtain⟨_,_,_,_,_,_,hal⟩:=EB.block (lo:=lo) h2 h3 h4
  obtain⟨q1,q2,q3⟩:=hr.cells;have hl:=h3.len;have hfl:=yU h3;have hft:=yU (h3.take p);have hce:cellsOf (.agg row)=row:=rfl;obtain⟨old,ho⟩:∃old,rows[p]?=some old:=⟨_,Au AA⟩;obtain⟨Kt,hog⟩:=BH.1 ho
  have h5:∀(l:List Br) (rows:List (List AV)) (p:Nat) (old:List AV),CB (λb row=>CG b (.agg row)) l rows->rows[p]?=some old->old.length=5:=by
   intro l
   induction l with
   | nil=>intro rows p old h ho; cases rows with
    | nil=>grind
    | cons _ _=>exact h.elim
   | cons b l ih=>
    intro rows p old h ho;cases rows with
    | nil=>grind
    | cons r rows=>
     cases p with
     | zero=>
      have:r=old:=AB;subst this;exact h.1.cells.1
     | succ p=>exact ih rows p old h.2 AB
  have h5:=h5 l rows p old h3 ho;refine⟨⟨AA,AA,rfl,hal⟩,?_⟩;simp only[IM,h2,wO,hce];have e0:0+((p:Nat):Int).toNat*5=p*5:=AA;rw[e0];refine⟨⟨q1,AA,AA,q2,.inl AA,AA⟩,?_⟩;have es:rows.flatten=(rows.take p).flatten++(old++(rows.drop (p+1)).flatten):=by grind[List.drop_eq_getElem_cons,List.take_append_drop]
  have es2:setCells rows.flatten (p*5) row=(rows.set p row).flatten:=by grind[List.set_eq_take_append_cons_drop,yT]
  rw[es2];refine h _ (.inr ⟨id,rows.set p row,h1,by rw[O4],?_,h3.set p hr,?_⟩) (by rw[O4]) (λj d hj hjd=>?_) (λhs=>?_)
  .rw[CX (BH.1 h2).1]
  .simp[*]
  .grind
  .have sQ:=(ID (h3.set p hr)).2.2
   grind[BI.set]
theorem EB.close {lo:Nat} {bs:List (List AV)} {l:List Br} {v:AV} (hb:EB lo bs l v):∃v',Tel.close bs 0 0 v=some v'/\A2 v' (l.map Di):=by
 rcases hb with ⟨rfl,rfl⟩|⟨id,rows,h1,rfl,h2,h3,h4⟩
 .exact⟨.AE [],AR,.AE _⟩
 .obtain⟨c,cs,hc,k1,k2,k3,hal⟩:=EB.block (lo:=lo) (s:=⟨bs,[]⟩) h2 h3 h4
  have htp:=VF h3;refine⟨.pv (.list (l.map Di)),?_,.list _⟩
  grind[KL,F9,LU,List.length_map,Tel.close]
section
variable {R:RT}
structure AJZ (b:Br):Prop where
 L5:size b.body<2 ^ 36
 ok:vP wI b.body=true
 EE:b.bounds.length<2 ^ 37
 Nj:∀i∈occs b.body [],0<=i/\i<(b.bounds.length:Int)
theorem ABu {X:Ty->List Br×Int} {l:List Br} (hl:l.length<=32) (hG:∀b∈l,AJZ b/\(Dq b).bounds.length<2 ^ 30/\∀c∈(Dq b).bounds,qt R c (X c)) {t5:AV} {Post:AV->Prop}
  (hF:((l.map Dq).all λb=>Nx b&&b.bounds.all λb=>Cg (X b))=false->Post (.tuple [.AE [],AG 4])) (hS:((l.map Dq).all λb=>Nx b&&b.bounds.all λb=>Cg (X b))=true->∀a,A2 a ((l.map Dq).map Di)->Post (.tuple [a,AG 0])) :
  ∀(j p:Nat) (bs:List (List AV)) (tk:List (Nat×Nat)),p+j=l.length->EB 2 bs ((l.take p).map Dq++l.drop p) t5->(((l.take p).map Dq).all λb=>Nx b&&b.bounds.all λb=>Cg (X b))=true->AEm R 0 0 0 t5 (AG p) ⟨bs,tk⟩ (QP Post):=by
 have hlen:∀p,p<=l.length->((l.take p).map Dq++l.drop p).length=l.length:=AB;intro j
 induction j with
 | zero=>
  intro p bs tk hi hb hall;refine AEn (Aq (n:=l.length) (by rw[hb.BA,hlen p AA]) (Ao ?_));rw[Az AA];rw[CU AA] at hb hall;rw[CH AA,HO] at hb;obtain⟨a,h1,h2⟩:=hb.close;exact Ay (ARG ⟨.tuple [a,AG 0],by grind[Tel.close,BR],hS hall a h2⟩)
 | succ j ih=>
  intro p bs tk hi hb hall;refine AEn (Aq (n:=l.length) (by rw[hb.BA,hlen p AA]) (Ao ?_));rw[Ar AA];obtain⟨b,hbp⟩:∃b,l[p]?=some b:=⟨_,Au AA⟩;obtain⟨hr,Ng,hX⟩:=hG b (A3 hbp);have htl:((l.take p).map Dq).length=p:=AB;have hgp:((l.take p).map Dq++l.drop p)[p]?=some b:=by simp_all[EO]
  have qI:((l.take p).map Dq++l.drop p).set p (Dq b)=(l.take (p+1)).map Dq++l.drop (p+1):=by simp_all[drop_cons,List.take_add_one]
  refine A9 (ARH (Oh hb hgp λrow hrow=>AL (VH hr.L5 hr.ok hr.EE hr.Nj hrow) ?_));intro v hv
  have LY:CG (Dq b) v:=by
   obtain⟨a,y,rfl,ha,hy⟩:=hv;exact⟨a,y,rfl,.inl ha,hy.Fj⟩
  obtain⟨r2,rfl⟩:=LY.agg;refine AJY hb hgp LY (AN _) (AN _) λbs' h1 _ _ _=>?_
  rw[qI] at h1;have hsz:=(Xx hr.ok hr.L5).1
  have hg2:((l.take (p+1)).map Dq++l.drop (p+1))[p]?=some (Dq b):=by
   rw[<-qI,CX AB]
  refine Oh h1 hg2 λrow2 ARI=>AL (WR (X:=X) (by have:=hr.L5; omega) Ng hX ARI) ?_
  rintro _ rfl;refine nt ?_;cases hg:Nx (Dq b)&&(Dq b).bounds.all λb=>Cg (X b) with
  | false=>
   refine A9 ⟨_,AR,hF ?_⟩
   grind[List.mem_map_of_mem]
  | true=>
   refine Ay (ARJ (Ba AA AA ?_))
   have:=ih (p+1) bs' tk AA h1 (by
    rw[List.take_add_one,hbp];simp only[Option.toList_some,Ow,CO,Co,YR,hall,HP,hg,List.all_nil,Fo])
   simpa using this
theorem Xy {t:Ty} (hv:valid t=true) (hc:CP 0 t=true) (hft:Fit t) {l:List Br} (dZ:DG (AU 32) (depth t) t=some l):∀b∈l,AJZ b/\(Dq b).bounds.length<2 ^ 30/\size (Dq b).body<2 ^ 30/\∀c∈(Dq b).bounds,WI t c:=by
 intro b QU;obtain⟨ps,B,_,_,AZR,_,hB⟩:=mg hv hc hft.bws dZ;have z:=Cz (A8:=AU 32) (depth t) t l dZ b QU;have zG:=Uv (depth t) t l hv hft.bws dZ b QU;have hbw:(bw t:Int)<1073741824:=hft.bws;have hsz:=zG.L5;have hwt:=hft.wZ;have hok:=AJX zG AA;obtain⟨r1,r2⟩:=Xx hok AA;refine⟨⟨AA,hok,AA,AZR b QU⟩,AA,AA,λc Kv=>?_⟩;have hcm':c∈(occs b.body []).map λi=>b.bounds.getD i.toNat aN:=Kv
 grind
theorem eD:∀(f:Nat) (t:Ty),depth t<=f->size t<2 ^ 60->ZC t->(verdict t=0->Fit t)->qt R t (xR f t):=by
 intro f
 induction f with
 | zero=>
  intro t hd;obtain⟨k,n,i,ts⟩:=t
  grind[depth]
 | succ f ih=>
  intro t hd hsz hok hfit x hx;obtain⟨xc,rfl⟩:=hx.agg;obtain⟨c1,c2,c3,c4⟩:=hx.cells
  suffices H:∀Post:AV->Prop,(∀r,(∃a,r=.tuple [a,AG (xR (f+1) t).2]/\A2 a ((xR (f+1) t).1.map Di))->Post r)->AEo R 0 0 0 (.agg xc) ⟨[],[]⟩ (QP Post) from e15 (u0:=.agg xc) (by grind[BR,Tel.close]) (H _ λr h=>h)
  intro Post hP;have g0:(AQ.mk ([]++[xc]) []).bs[0]?=some xc:=rfl;have fail:∀(n:Int) (s:AQ),xR (f+1) t=([],n)->(QP Post) (.tuple [.AE [],AG n]) s:=λn s h=>⟨.tuple [.AE [],AG n],AR,hP _ ⟨.AE [],by rw[h],by rw[h]; exact .AE _⟩⟩
  refine ARK (Bx (cs:=xc) rfl c2 (Ag g0 c1 (AL (UK (R:=R) AA hok hx) ?_)));rintro _ rfl;refine EM ?_;rw[xR] at fail hP;cases Sz:verdict t==0 with
  | false=>
   have:(verdict t != 0)=true:=AB;simp[*,Cr,pk,A9]
  | true=>
   have:(verdict t != 0)=false:=AB;rw[this];have hft:=hfit AB;obtain⟨hv,AD5,AP4⟩:=FX (by simpa using Sz);refine Ak (Ag g0 c1 (Ak (AL (Iw (R:=R) AA hx) ?_)));rintro _ rfl;refine Ak (nt (pk ?_));cases hc:CP 0 t with
   | false=>grind[A9]
   | true=>
    rw[Sz,hc] at fail hP;simp only[NP,KH,AK] at fail hP;refine Ay (ARL (Hg (cs:=[BB true,BB false]) rfl (Bx (cs:=[BB true,BB false]) rfl rfl (Ag (Ai g0 _) c1 ?_))))
    have hs2:BI ⟨[xc,[BB true,BB false]],[]⟩:=by
     intro d hdm;simp only[A5,Ep,Er] at hdm;rcases hdm with rfl|rfl
     .exact Bp (AN _) _ c3
     rfl
    obtain⟨v,s',hR,P8⟩:=(WO (R:=R) (e:=1) (depth t) t (AY _) hv hft.bws hft.wZ AA).c (.agg xc) hx.Fj false ⟨[xc,[BB true,BB false]],[]⟩ hs2 (Ce (env R) 15 0 0 0) rfl rfl AR rfl;simp only[oX,AK] at hR;obtain⟨b2,OZ⟩:=s';have hT:b2.take 2=[xc,[BB true,BB (DG (AU 32) (depth t) t).isNone]]:=hR.tk;have g1:b2[1]?=some [BB true,BB (DG (AU 32) (depth t) t).isNone]:=CD hT rfl;refine⟨_,_,P8,C1 (AX g1) (AO (AX g1) (AZ (off:=1) g1 rfl ?_))⟩;cases dZ:DG (AU 32) (depth t) t with
    | none=>
     grind[A9]
    | some l=>
     rw[dZ] at hR hP;simp only at hP;have hb:EB 2 b2 l v:=hR.Qx;have qY:=Ns (depth t) t l dZ
     have hG:∀b∈l,AJZ b/\(Dq b).bounds.length<2 ^ 30/\∀c∈(Dq b).bounds,qt R c (xR f c):=by
      intro b QU;obtain⟨q1,q2,_,q3⟩:=Xy hv hc hft dZ b QU;refine⟨q1,q2,λc Kv=>?_⟩;have hSub:=q3 c Kv;exact ih c (by have:=hSub.dep; omega) (by have:=hSub.L5; omega) (LR c hSub.val) (λ_=>hft.sub hSub)
     refine Ay (ARM ?_);have:=ABu (R:=R) (X:=xR f) qY hG (t5:=v) (Post:=Post) (λh=>hP _ ⟨.AE [],AB,by rw[h]; exact .AE _⟩) (λh a ha=>hP _ ⟨a,AB,AB⟩) l.length 0 b2 OZ AA AB rfl;omega
end
def BSl (bs:List (List AV)) (l:List Br) (a:AV):Prop:=(∃lo,EB lo bs l a)\/BE a (l.map Di)
theorem BSl.BA {s:AQ} {l:List Br} {a:AV} (h:BSl s.bs l a):BA s a=some l.length:=by
 rcases h with ⟨lo,h⟩|h
 .exact h.BA
 .rw[h.BA,Bm]
def BrS (b:Br):Prop:=size b.body<2 ^ 38/\b.bounds.length<2 ^ 60/\∀t∈b.bounds,size t<2 ^ 38
section
variable {R:RT}
theorem ABv {s:AQ} {l:List Br} {a:AV} {p:Nat} {c:Br} (h:BSl s.bs l a) (hc:l[p]?=some c) {K:AV->Prop} (hK:∀row,CG c (.agg row)->K (.agg row)):NC s 5 a (AG p) λx=>D5 (env R) s (some 5) x K:=by
 rcases h with ⟨lo,h⟩|h
 .exact Oh h hc hK
 .refine BS h (row:=Di c) AA AB (LU c) AA ?_
  simp only[D5,DF,JC];refine⟨by grind[LU],?_⟩;rw[CU (by grind[LU])];obtain⟨x,y,he,hx,hy⟩:=MX.Bi c;refine hK _ ⟨x,y,he,.inl hx,hy.Fj⟩
end
structure Lm where
 c:Nat
 b:Nat
 w:Nat
 n:Nat
 l:Nat
structure Lm.Of (q:Lm) (t:Ty):Prop where
 c:cv t<=q.c
 b:bw t<=q.b
 w:wt t<=q.w
 n:nb t<=q.n
 l:lv t<=q.l
def Lm.up (a s:Nat) (y x:Lm):Lm:=
 ⟨max 1 (max (a*x.c) (x.c*(y.c+1))),max (a*x.b) (x.b+1+(x.c+1)*y.b),max s (max (1+a*x.w) (x.w+max 1 x.c*y.w)),max (a*x.n) (1+x.n+(33*x.l+500)*y.n),max 1 (max x.l (a*x.l))⟩
theorem NG {α:Type} {f:α->Nat} {m:Nat}:∀{l:List α} {a:Nat},l.length<=a->(∀t∈l,f t<=m)->(l.map f).sum<=a*m
 | [],a,_,_=>AN _
 | t::l,a,h,hl=>by
  obtain⟨a,rfl⟩:∃b,a=b+1:=⟨a-1,AB⟩;have h1:=NG (l:=l) (a:=a) AB (λt ht=>hl t AB)
  grind
theorem max_le {α:Type} {f:α->Nat} {m:Nat}:∀{l:List α},(∀t∈l,f t<=m)->(l.map f).foldr max 0<=m
 | [],_=>AN _
 | t::l,hl=>by
  have h1:=max_le (l:=l) (λt ht=>hl t AB)
  grind
theorem Lm.mo {a s:Nat} {x y:Lm} {k i:Int} {n:List UInt8} {ts:List Ty} (hs:k≠3->k≠4->k≠6->Ac ts+1<=s) (h34:k=3\/k=4->ts.length<=a/\∀t∈ts,x.Of t) (h6:k=6->∀b body,ts=[b,body]->y.Of b/\x.Of body):(Lm.up a s y x).Of (.mk k n i ts):=by
 cases b6:k==6 with
 | true=>
  have:k=6:=AB;subst this
  match ts,h6 with
  | [],_=>exact⟨by simp[cv,MR,ex6],by grind[bw,MR,ex7],by grind[wt,MR,wx],by grind[nb,ex9],by simp[lv,lvl,ex2]⟩
  | [_],_=>exact⟨by simp[cv,MR,ex6],by grind[bw,MR,ex7],by grind[wt,MR,wx],by simp[*,nb,ex9],by simp[lv,lvl,ex2]⟩
  | _::_::_::_,_=>exact⟨by simp[cv,MR,ex6],by simp[*,bw,MR,ex7],by simp[*,wt,MR,wx],by simp[*,nb,ex9],by simp[lv,lvl,ex2]⟩
  | [b,body],h6=>
   obtain⟨hb,hy⟩:=h6 rfl b body rfl;have e1:cv (.mk 6 n i [b,body])=cv body*(cv b+1):=rfl;have e2:bw (.mk 6 n i [b,body])=bw body+1+(cv body+1)*bw b:=rfl;have e3:wt (.mk 6 n i [b,body])=wt body+max 1 (cv body)*wt b:=rfl;have e4:nb (.mk 6 n i [b,body])=1+nb body+nF body*nb b:=rfl;have e5:lv (.mk 6 n i [b,body])=lv body:=rfl;have f1:cv body*(cv b+1)<=x.c*(y.c+1):=O5 hy.c (by have:=hb.c; omega);have f2:(cv body+1)*bw b<=(x.c+1)*y.b:=O5 (by have:=hy.c; omega) hb.b;have f3:max 1 (cv body)*wt b<=max 1 x.c*y.w:=O5 (by have:=hy.c; omega) hb.w
   have f4:nF body*nb b<=(33*x.l+500)*y.n:=by
    refine O5 ?_ hb.n;have:=hy.l
    grind[nF]
   have g2:=hy.b;have g3:=hy.w;have g4:=hy.n;have g5:=hy.l;refine⟨?_,?_,?_,?_,?_⟩
   all_goals grind[Lm.up]
 | false=>
  cases b34:k==3||k==4 with
  | true=>
   have hk:k=3\/k=4:=AB;obtain⟨hl,ht⟩:=h34 hk;have s1:=NG (f:=cv) hl λt h=>(ht t h).c
   have s2:=NG (f:=bw) hl λt h=>(ht t h).b
   have s3:=NG (f:=wt) hl λt h=>(ht t h).w
   have s4:=NG (f:=nb) hl λt h=>(ht t h).n
   have s5:=NG (f:=lv) hl λt h=>(ht t h).l
   have s6:=max_le (f:=lv) λt h=>(ht t h).l
   refine⟨?_,?_,?_,?_,?_⟩
   .grind[cv,Q0,Lm.up]
   all_goals grind[bw,Fi,Lm.up,wt,I0,nb,RB,lv,Ze]
  | false=>
   have hsz:=hs AB AB AB;simp only[Gu] at b34;refine⟨?_,?_,?_,?_,?_⟩
   all_goals grind[cv,Lm.up,bw,wt,nb,lv]
mutual
def lev:Nat->Ty->Bool
 | d,.mk _ _ _ ts=>decide (ts.length<=8)&&ARN d ts
def ARN:Nat->List Ty->Bool
 | _,[]=>true
 | d,t::l=>decide (0<d)&&(lev (d-1) t&&ARN d l)
end
def nz (d:Nat) (t:Ty):Bool:=bif decide (d<=1) then decide (size t<=3)&&decide (depth t<=2) else bif d==2 then decide (size t<=7)&&decide (depth t<=3) else true
theorem QF {d:Nat} {t:Ty} (h:size t<=3) (h':depth t<=2):nz d t=true:=by
 unfold nz;cases decide (d<=1) with
 | true=>simp[h,h']
 | false=>
  cases d==2 with
  | true=>
   have h1:size t<=7:=AA;have h2:depth t<=3:=AA;simp[h1,h2]
  | false=>rfl
mutual
def gq:Nat->Ty->Bool
 | d,.mk k n i ts=>bif k==3||k==4 then decide (0<d)&&(decide (ts.length<=3)&&VI (d-1) ts) else bif k==6 then decide (0<d)&&gqX d ts else bif k==2 then nz d (.mk k n i ts) else ts.isEmpty
def VI:Nat->List Ty->Bool
 | _,[]=>true
 | d,t::l=>gq d t&&VI d l
def gqX:Nat->List Ty->Bool
 | d,b::l=>gq 1 b&&VI (d-1) l
 | _,[]=>true
end
theorem Hi {d:Nat}:∀{l:List Ty} {t:Ty},VI d l=true->t∈l->gq d t=true
 | a::l,t,h,ht=>by
  simp only[VI,AH] at h;rcases A5.1 ht with rfl|ht
  .grind
  .exact Hi h.2 ht
def gq0:Lm:=Lm.up 0 200 ⟨0,0,0,0,0⟩ ⟨0,0,0,0,0⟩
theorem yV {t:Ty} (h:gq 0 t=true) (hs:size t<=200):gq0.Of t:=by
 obtain⟨k,n,i,ts⟩:=t;rw[size] at hs;rw[gq] at h;refine Lm.mo (λ_ _ _=>hs) (λhk=>?_) (λhk=>?_)
 all_goals grind
def WS:Nat->Lm
 | 0=>gq0
 | m+1=>⟨max (WS m).c (max 3 ((WS m).c+1)),max (WS m).b (1+2*(WS m).b),max (WS m).w (max 601 (200+(WS m).w)),max (WS m).n (1+(WS m).n),3⟩
theorem yW:∀(m:Nat) (t:Ty),depth t<=m->gq 1 t=true->size t<=200->(WS m).Of t:=by
 intro m
 induction m with
 | zero=>
  intro t hd;obtain⟨k,n,i,ts⟩:=t
  grind[depth]
 | succ m ih=>
  intro t hd h hs;obtain⟨k,n,i,ts⟩:=t;have hs':=hs;rw[size] at hs;rw[gq] at h;have small:∀t∈ts,gq 0 t=true->gq0.Of t:=λt ht hg=>yV hg (by have:=F6 ht; omega)
  have le:∀q:Lm,q.c<=(WS (m+1)).c->q.b<=(WS (m+1)).b->q.w<=(WS (m+1)).w->q.n<=(WS (m+1)).n->q.l<=3->q.Of (.mk k n i ts)->(WS (m+1)).Of (.mk k n i ts):=
   λq h1 h2 h3 h4 h5 h=>⟨BK h.c h1,BK h.b h2,BK h.w h3,BK h.n h4,BK h.l h5⟩
  cases b34:k==3||k==4 with
  | true=>
   rw[b34] at h;simp only[AM,AH,Cy] at h;have hx:=Lm.mo (a:=3) (s:=200) (x:=gq0) (y:=⟨0,0,0,0,0⟩) (k:=k) (n:=n) (i:=i) (ts:=ts) (λ_ _ _=>hs) (λ_=>⟨h.2.1,λt ht=>small t ht (Hi h.2.2 ht)⟩) (λhk=>by grind);have e:Lm.up 3 200 ⟨0,0,0,0,0⟩ gq0=⟨3,3,601,3,3⟩:=AR;rw[e] at hx
   have hb0:bw (.mk k n i ts)=0/\nb (.mk k n i ts)=0:=by
    have b6:(k==6)=false:=AB
    have z1:=NG (f:=bw) (m:=0) h.2.1 λt ht=>by
     have:=(small t ht (Hi h.2.2 ht));obtain⟨k,n,i,ts⟩:=t
     grind[Hi,gq,bw]
    have z2:=NG (f:=nb) (m:=0) h.2.1 λt ht=>by
     obtain⟨k,n,i,ts⟩:=t
     grind[Hi,gq,nb]
    grind[bw,Fi,nb,RB]
   refine⟨?_,AA,?_,AA,hx.l⟩
   .have:=hx.c
    grind[WS]
   .have:=hx.w
    grind[WS]
  | false=>
   rw[b34] at h;simp only[AK] at h;cases b6:k==6 with
   | false=>
    have hx:=Lm.mo (a:=0) (s:=200) (x:=⟨0,0,0,0,0⟩) (y:=⟨0,0,0,0,0⟩) (k:=k) (n:=n) (i:=i) (ts:=ts) (λ_ _ _=>hs) (λhk=>by grind) (λhk=>by grind);simp only[Gu] at b34;have z1:bw (.mk k n i ts)=0:=by grind[bw]
    have z2:nb (.mk k n i ts)=0:=by grind[nb]
    have e:Lm.up 0 200 ⟨0,0,0,0,0⟩ ⟨0,0,0,0,0⟩=⟨1,1,200,1,1⟩:=AR;rw[e] at hx;refine⟨?_,AA,?_,AA,BK hx.l (show(1:Nat)<=3 by decide)⟩
    .have:=hx.c
     grind[WS]
    .have:=hx.w
     grind[WS]
   | true=>
    have:k=6:=AB;subst this;simp only[CW,AM,AH] at h
    match ts,h,hd,hs,small with
    | [],_,_,_,_=>exact⟨by simp[cv,MR,ex6],by grind[bw,MR,ex7],by grind[wt,MR,wx],by grind[nb,ex9],by simp[lv,lvl,ex2]⟩
    | [_],_,_,_,_=>exact⟨by simp[cv,MR,ex6],by grind[bw,MR,ex7],by grind[wt,MR,wx],by simp[*,nb,ex9],by simp[lv,lvl,ex2]⟩
    | _::_::_::_,_,_,_,_=>exact⟨by simp[cv,MR,ex6],by simp[*,bw,MR,ex7],by simp[*,wt,MR,wx],by simp[*,nb,ex9],by simp[lv,lvl,ex2]⟩
    | [b,body],h,hd,hs,small=>
     simp only[gqX,VI,AH] at h;simp only[depth,Cf] at hd;simp only[Ac] at hs;have hb:=ih b AA h.2.1 AA;have hg:gq 0 body=true:=h.2.2.1;have e1:cv (.mk 6 n i [b,body])=cv body*(cv b+1):=rfl;have e2:bw (.mk 6 n i [b,body])=bw body+1+(cv body+1)*bw b:=rfl;have e3:wt (.mk 6 n i [b,body])=wt body+max 1 (cv body)*wt b:=rfl;have e4:nb (.mk 6 n i [b,body])=1+nb body+nF body*nb b:=rfl;have e5:lv (.mk 6 n i [b,body])=lv body:=rfl;obtain⟨k,n',i',l'⟩:=body;rw[gq] at hg;cases c34:k==3||k==4 with
     | true=>grind
     | false=>
      cases c6:k==6 with
      | true=>grind
      | false=>
       rw[size] at hs;have c34':=c34;simp only[Gu] at c34;have d1:cv (.mk k n' i' l')=1:=by grind[cv]
       have d2:bw (.mk k n' i' l')=0:=by grind[bw]
       have d3:wt (.mk k n' i' l')<=200:=by grind[wt]
       have d4:nb (.mk k n' i' l')=0:=by grind[nb]
       have d5:lv (.mk k n' i' l')<=1:=by grind[lv]
       have d6:nF (.mk k n' i' l')=1:=by grind[nF,Ur]
       have g1:=hb.c;have g2:=hb.b;have g3:=hb.w;have g4:=hb.n;refine⟨?_,?_,?_,?_,?_⟩
       all_goals grind[WS]
def gqQ:Nat->Lm
 | 0=>gq0
 | 1=>WS 12
 | d+2=>Lm.up 3 200 (WS 12) (gqQ (d+1))
theorem yX:∀(d:Nat) (t:Ty),gq d t=true->size t<=200->depth t<=12->(gqQ d).Of t
 | 0,t,h,hs,_=>yV h hs
 | 1,t,h,hs,hd=>yW 12 t hd h hs
 | d+2,.mk k n i ts,h,hs,hd=>by
  rw[size] at hs;rw[depth] at hd;rw[gq] at h;have ih:∀t∈ts,gq (d+1) t=true->(gqQ (d+1)).Of t:=λt ht hg=>yX (d+1) t hg (by have:=F6 ht; omega) (by have:=HE ht; omega)
  refine Lm.mo (λ_ _ _=>hs) (λhk=>?_) (λhk b body he=>?_)
  all_goals grind[Hi,gqX,Ac,Cf,yW]
section
variable {R:Nat->Option (List PV)}
theorem ABw (a:Int) {b:Int} (hb:0<b):-b<a.tmod b:=by
 by_cases ha:0<=a
 .have:=Int.tmod_nonneg b ha
  omega
 .have h1:(-a).tmod b<b:=Int.tmod_lt_of_pos _ hb
  have h2:=Int.neg_tmod a b;omega
theorem VJ (a b:Int) (hb:0<b) (MU:b<2 ^ 62):Af (env R) 13 [AG a,AG b] λv=>∃r,v=AG r/\0<=r/\r<b:=by
 refine e13 rfl (ARQ ?_);have h1:=Int.tmod_lt_of_pos a hb;have h2:=ABw a hb;simp only[DX,ER];refine⟨⟨Ap,Ap⟩,AA,⟨Ap,Ap⟩,λh=>?_,λh=>?_⟩
 .simp at h
  refine⟨⟨Ap,Ap⟩,CS AA AA (AEp ?_)⟩;exact⟨_,Hu,_,rfl,AA,AA⟩
 .simp at h
  refine AEp ?_;exact⟨_,Hu,_,rfl,AA,AA⟩
theorem VK {bs:List (List AV)} {id:Nat} {l:Src} {k:Nat} {ts:List (Nat×Nat)} (h:id<bs.length) (m:List (List AV)):alive ⟨ST bs id l k++m,ts⟩ id=true:=by grind[alive,RM,VM]
theorem yY {bs:List (List AV)} {id:Nat} {l:Src} (hB:Oj bs id l) {m:List (List AV)} (hm:LV bs m) (k:Nat) {n:Nat} (hn:n=bs.length+m.length):(((ST bs id l k++m).take n).all (Ah n))=true:=by
 rw[CU (by grind[GC]),hn];exact hB.all hm k
theorem AEq {rr:Bool} {N:Nat} {bs:List (List AV)} {id:Nat} {l:Src} (hB:Oj bs id l) {m:List (List AV)} (hm:LV bs m) {k:Nat} {ts:List (Nat×Nat)} {Post:AV->AQ->Prop} {p:PV} (hN:N=bs.length+m.length)
  (h:Post (.pv p) ⟨ST bs id l k++m,ts⟩):QM rr N Post (.pv p) ⟨ST bs id l k++m,ts⟩:=by grind[ADF,yY,GC]
theorem Ol {bs:List (List AV)} {id:Nat} {l:Src} (hB:Oj bs id l) {m:List (List AV)} (hm:LV bs m) {k:Nat} (hk:k<=l.length) {n:Int} (hn:0<n) (hn2:n<2 ^ 62) (L:BL) (hro:L.ro<=id) (ts:List (Nat×Nat)) :
  ∃v s',(∃r k',v=AG r/\0<=r/\r<n/\k<=k'/\k'<=l.length/\(r≠0->k<k')/\s'=⟨ST bs id l k'++m,ts⟩)/\BW (env R) L 54 [.ptr id 0,AG n] ⟨ST bs id l k++m,ts⟩ v s':=by
 have hlen:=hB.len;have hlt:=hB.lt
 suffices H:∀(rr:Bool) (N:Nat) (Post:AV->AQ->Prop),N=bs.length+m.length->(∀r k',0<=r->r<n->k<=k'->k'<=l.length->(r≠0->k<k')->Post (AG r) ⟨ST bs id l k'++m,ts⟩)->AEr R 0 L.ro L.rt (.ptr id 0) (AG n) ⟨ST bs id l k++m,ts⟩ (QM rr N Post) from
  m54 AR (H _ _ _ (by simp[GC]) λr k' h1 h2 h3 h4 h5=>⟨r,k',rfl,h1,h2,h3,h4,h5,rfl⟩)
 intro rr N Post hN hP;refine ARR ?_
 by_cases h:k=l.length
 .have h1:((k:Int)>=l.length):=by omega
  simp[RM hlt,VM,l.ARS,l.fP,h]
  grind[AEq]
 .have h1:¬ ((l.length:Int)<=k):=by omega
  simp[RM hlt,VM,l.ARS,l.fP];refine⟨λh2=>absurd h2 AA,λ_=>?_⟩;refine ART ?_;obtain⟨a,ha⟩:∃a,l.ints[k]?=some a:=⟨_,Au Be⟩;simp only[JN,VK hlt,E2,D5,wO,RM hlt,DX];refine⟨Ap,Ap,?_⟩;simp only[VM,DF,wO,IJ,JB,CQ];refine⟨⟨Ap,Ap⟩,CS AA AA ?_⟩;simp only[JN,VK hlt,E2,IM,wO,RM hlt,Ce,kj];refine⟨Ap,Ap,⟨AD,by simp[VM],hro,AR,.inl AA,AA⟩,?_⟩
  have e:(ST bs id l k++m).set id (setCells (VM l k) (0+1) [AG (k+1)])=ST bs id l (k+1)++m:=by
   have:setCells (VM l k) (0+1) [AG (k+1)]=VM l (k+1):=AR
   grind[AJa]
  simp only[e,JN,VK hlt,E2,D5,wO,RM hlt];refine⟨Ap,Ap,?_⟩;simp only[VM,DF,wO,IJ,JB,CQ];refine⟨Ap,Ap,⟨Ap,Ap⟩,CS AA AA ?_⟩;refine BS l.rows (row:=[.sc (.int .i64 a)]) AA ?_ rfl AA ?_
  .simp[*,Ab]
  simp only[D5,DF,wO,CO,Co,JB];refine AL (VJ a n hn hn2) ?_
  grind[AEq]
theorem HF {bs:List (List AV)} {id:Nat} {l:Src} (hB:Oj bs id l) {m:List (List AV)} (hm:LV bs m) {k:Nat} (hk:k<=l.length) {n:Int} (hn:0<n) (hn2:n<2 ^ 62) (L:BL) (hro:L.ro<=id) (ts:List (Nat×Nat)) :
  ∃v s',(∃r k',v=AG r/\0<=r/\r<n/\k<=k'/\k'<=l.length/\s'=⟨ST bs id l k'++m,ts⟩)/\BW (env R) L 54 [.ptr id 0,AG n] ⟨ST bs id l k++m,ts⟩ v s':=by
 obtain⟨v,s',⟨r,k',h1,h2,h3,h4,h5,_,h6⟩,h7⟩:=Ol (R:=R) hB hm hk hn hn2 L hro ts;exact⟨v,s',⟨r,k',h1,h2,h3,h4,h5,h6⟩,h7⟩
theorem yZ (l:List Int) (L:BL) (s:AQ):∃v s',(v=.ptr s.bs.length 0/\s'=⟨s.bs++[VM (.of l) 0],s.ts⟩)/\BW (env R) L 11 [.pv (.list (Ab l))] s v s':=by
 refine m11 (ARU ?_);simp[VM,Src.of]
end
section
variable {bs:List (List AV)} {id:Nat} {l:Src}
theorem EP (k:Nat) (m r:List (List AV)) (j:Nat):(ST bs id l k++(m++r))[bs.length+m.length+j]?=r[j]?:=by grind[GC]
theorem J4 (k:Nat) (m r:List (List AV)):(ST bs id l k++(m++r))[bs.length+m.length]?=r[0]?:=EP k m r 0
theorem IW (k:Nat) (m r:List (List AV)) (j:Nat) (v:List AV):(ST bs id l k++(m++r)).set (bs.length+m.length+j) v=ST bs id l k++(m++r.set j v):=by grind[GC]
theorem J5 (k:Nat) (m r:List (List AV)) (v:List AV):(ST bs id l k++(m++r)).set (bs.length+m.length) v=ST bs id l k++(m++r.set 0 v):=IW k m r 0 v
theorem Jd {m:List (List AV)} (hm:LV bs m) {r:List (List AV)} (hr:∀b∈r,Ah (bs.length+m.length+r.length) b=true):LV bs (m++r):=by
 intro b hb;rcases B4.1 hb with h|h
 .exact Bp AD b (hm b h)
 grind
variable {R:Nat->Option (List PV)}
theorem jX {l:List (List UInt8)}:Ez l=[.list (Ew l)]:=rfl
theorem QG {g:Nat} {T:List (List UInt8)} (hG:(env R).G g=some (Ez T)) {s:AQ} {K:AV->Prop} (h:K (.pv (.list (Ew T)))):D5 (env R) s none (.Dt g 0) K:=by
 simp[D5,hG,wO,DF,jX];exact h
theorem VN:∀l:List (List UInt8),I1 (Ew l) (Ew l)=true
 | []=>by rfl
 | s::l=>by
  have:=VN l
  grind[Ew,I1,Mg,NZ,IP]
theorem yd {L:BL} {s:AQ} {k:Nat} {a x:AV} {K K':AQ->Prop} (hC:∀s,K s->K' s) (h:IM L s k a x K):IM L s k a x K':=by
 unfold IM at h ⊢
 grind
theorem Zt {L:BL} {s:AQ} {k:Nat} {a x:AV} {K:AQ->Prop} {C:Prop} (hC:C) (h:IM L s k a x K):IM L s k a x λs=>C/\K s:=yd (λ_ h=>⟨hC,h⟩) h
theorem jY {s:AQ} {w:List UInt8} {K:AV->Prop} (h:K (SS w)):D5 (env R) s none (.Cw [.sc (.string ⟨w.toArray⟩)] 0) K:=by simp[*]
theorem Zu {T:List (List UInt8)} {r:Int} {w:List UInt8} (h0:0<=r) (hw:T[r.toNat]?=some w) {s:AQ} {K:AV->Prop} (h:K (.Cw [.sc (.string ⟨w.toArray⟩)] 0)):NC s 1 (.pv (.list (Ew T))) (AG r) K:=
 BM (.list _) (row:=[.sc (.string ⟨w.toArray⟩)]) h0 (by grind[Ew]) rfl AA h
theorem SA (T:List (List UInt8)):Dg (.pv (.list (Ew T))) (.pv (.list (Ew T)))=true:=by simp[Dg,NZ,VN]
end
def Short (T:List (List UInt8)):Prop:=(∀s∈T,s.length<2 ^ 60)/\0<T.length/\T.length<2 ^ 60
def RN (B:Nat) (t:Ty):Prop:=ZC t/\size t<=B
theorem RN.mono {B C:Nat} {t:Ty} (h:RN B t) (hl:B<=C):RN C t:=⟨h.1,BK h.2 hl⟩
theorem RN.leaf {B:Nat} {k i:Int} {n:List UInt8} (hn:n.length<2 ^ 60) (hB:0<B):RN B (.mk k n i []):=by
 refine⟨?_,?_⟩
 .simp[*,ZC,SI]
 assumption
def JV (B:Nat) (l:List Ty):Prop:=SI l/\Ac l<=B
theorem JV.nil {B:Nat}:JV B []:=by simp[JV,SI,Ac]
theorem JV.cons {B C D:Nat} {t:Ty} {l:List Ty} (h:RN B t) (h':JV C l) (hl:B+C<=D):JV D (t::l):=by
 obtain⟨a1,a3⟩:=h;obtain⟨b1,b3⟩:=h';refine⟨⟨a1,b1⟩,?_⟩
 grind[Ac]
theorem JV.snoc:∀{l:List Ty} {B C D:Nat} {t:Ty},JV C l->RN B t->B+C<=D->JV D (l++[t])
 | [],B,C,D,t,_,h,hl=>JV.cons h JV.nil (C:=0) AA
 | u::l,B,C,D,t,h',h,hl=>by
  obtain⟨b1,b3⟩:=h';simp only[SI] at b1;simp only[Ac] at b3;have:=JV.snoc (C:=Ac l) (D:=B+Ac l) ⟨b1.2,AY _⟩ h (AY _);exact JV.cons (B:=size u) ⟨b1.1,AY _⟩ this AA
theorem RN.node {B:Nat} {k i:Int} {n:List UInt8} {l:List Ty} (hn:n.length<2 ^ 60) (h:JV B l):RN (B+1) (.mk k n i l):=by
 obtain⟨b1,b3⟩:=h;refine⟨?_,?_⟩
 all_goals simp[*,ZC,size]
theorem ABx.Dg {lo:Nat} {ts:List (Nat×Nat)} {k:Nat} {a:AV} {es:List Ty} (h:Dl lo ts k a (Ad es)):Tel.Dg a a=true:=by
 rcases h with rfl|⟨t,rfl,_⟩
 all_goals simp[*,Tel.Dg,DR]
theorem VO {l:List Ty}:∀r∈Ad l,r.length=4:=λ_ h=>HD h
abbrev T0 (k:Int) (n:List UInt8) (i:Int):AV:=.agg [AG k,SS n,AG i,.AE []]
section
variable {bs:List (List AV)} {id:Nat} {l:Src}
theorem ARV {rr:Bool} {N:Nat} (hB:Oj bs id l) {m r:List (List AV)} (hm:LV bs m) {k:Nat} {ts:List (Nat×Nat)} {Post:AV->AQ->Prop} (hN:N=bs.length+m.length) {c i:Int} {n:List UInt8} {es:List Ty} {a:AV} (ha:BE a (Ad es))
  (h:∀x,BP (.mk c n i es) x->Post x ⟨ST bs id l k++m,ts⟩):QM rr N Post (.agg [AG c,SS n,AG i,a]) ⟨ST bs id l k++(m++r),ts⟩:=by
 subst hN;have e:(ST bs id l k++(m++r)).take (bs.length+m.length)=ST bs id l k++m:=by grind[GC]
 obtain⟨a',h1,h2⟩:=ha.close (ST bs id l k++(m++r)) (bs.length+m.length) ts.length;refine ZY (ds:=[AG c,SS n,AG i,a']) ?_ (by simp[h1]) ?_
 .simp only[e]
  exact hB.all hm k
 .simp only[e]
  exact h _ ⟨a',rfl,h2⟩
variable {R:Nat->Option (List PV)}
theorem Zv (hB:Oj bs id l) {m r:List (List AV)} (hm:LV bs m) {k:Nat} {ts:List (Nat×Nat)} {Post:AV->AQ->Prop} {rr:Bool} {N:Nat} {L':BL} {Z:List AV} (hZ:Z.length=4) (hN:N=bs.length+m.length) (hro:L'.ro<=id) (hn0:L'.n0=0) {c i:Int} {n:List UInt8} {es:List Ty} {a:AV} (ha:BE a (Ad es))
  (h:∀x,BP (.mk c n i es) x->Post x ⟨ST bs id l k++m,ts⟩) :
  IM L' ⟨ST bs id l k++(m++Z::r),ts⟩ 4 (.ptr (bs.length+m.length) 0) (.agg [AG c,SS n,AG i,a]) λs1=>D5 (env R) s1 (some 4) (.ptr (bs.length+m.length) 0) λr=>QM rr N Post r s1:=by
 have hlt:=hB.lt
 obtain⟨z0,z1,z2,z3,rfl⟩:∃z0 z1 z2 z3,Z=[z0,z1,z2,z3]:=by
  rcases Z with _|⟨a,_|⟨b,_|⟨c,_|⟨d,_|⟨e,l⟩⟩⟩⟩⟩ <;> simp at hZ
  exact⟨_,_,_,_,rfl⟩
 simp[J4,J5,show L'.ro<=bs.length+m.length by omega,hn0,ha.ok,ha.Jf]
 grind[ARV]
theorem VQ (hB:Oj bs id l) {m r:List (List AV)} (hm:LV bs m) {k:Nat} {ts:List (Nat×Nat)} {Post:AV->AQ->Prop} {rr:Bool} {N:Nat} {L':BL} {Z:List AV} (hZ:Z.length=4) (hN:N=bs.length+m.length) (hro:L'.ro<=id) (hn0:L'.n0=0) {t:Ty} {v:AV} (hv:BP t v)
  (h:∀x,BP t x->Post x ⟨ST bs id l k++m,ts⟩) :
  IM L' ⟨ST bs id l k++(m++Z::r),ts⟩ 4 (.ptr (bs.length+m.length) 0) v λs1=>D5 (env R) s1 (some 4) (.ptr (bs.length+m.length) 0) λr=>QM rr N Post r s1:=by
 obtain⟨c,n,i,es⟩:=t;obtain⟨a,rfl,ha⟩:=hv;exact Zv hB hm hZ hN hro hn0 ha h
theorem Ka {n:List UInt8} {a:AV} {rows:List (List PV)} (ha:A2 a rows):Af (env R) 26 [SS n,a] λr=>r=.agg [AG 2,SS n,AG 0,a]:=by
 refine e26 (u0:=SS n) (u1:=a) (by simp[ha.close]) (ARW ?_);simp[QP,QI,ha.ok,ha.cells,ha.close]
theorem eE {a:AV} {rows:List (List PV)} (ha:A2 a rows):Af (env R) 20 [a] λr=>r=.agg [AG 4,SS [],AG 0,a]:=by
 refine e20 (u0:=a) (by simp[ha.close]) (ARX ?_);simp[QP,QI,ha.ok,ha.cells,ha.close]
end
def Zw (r:List PV):Prop:=∃(name:List UInt8) (n:Nat) (rest:List PV),r=.sc (.string ⟨name.toArray⟩)::.sc (.int .i64 n)::rest/\rest.length=6/\n<=2/\name.length<2 ^ 50/\(r.map AV.pv).all BD=true
structure Decls (v:AV) (rows:List (List PV)):Prop where
 rep:BE v rows
 row:∀r∈rows,Zw r
 len:rows.length<100
section
variable {bs:List (List AV)} {id:Nat} {l:Src} {R:Nat->Option (List PV)}
def VR (R:Nat->Option (List PV)) (bs:List (List AV)) (id:Nat) (l:Src) (dv:AV) (f:FuncId) (d:Int) (FG:Nat) (μ:Nat) (P:Nat->Ty->Prop):Prop:=∀{m:List (List AV)},LV bs m->∀{k:Nat},k<=l.length->∀(vars:Nat),(vars:Int)+d<=90->(l.length-k)*100+FG<μ->∀(L:BL),L.ro<=id->∀(ts:List (Nat×Nat)),L.rt<=ts.length ->
  ∃v s',(∃t k' x,BP t v/\P (8*(k'-k)+1) t/\k<=k'/\k'<=l.length/\s'=⟨ST bs id l k'++m,ts++x⟩)/\BW (env R) L f [.ptr id 0,dv,AG d,AG vars] ⟨ST bs id l k++m,ts⟩ v s'
def vl (t:Ty):Bool:=R3 t&&lsh t
def mq (l:List Ty):Bool:=Pt l&&WC l
theorem yg {k i:Int} {n:List UInt8} {ts:List Ty} (h5:(k==5)=false) (hl:ts.length<2 ^ 38) (h:mq ts=true):vl (.mk k n i ts)=true:=by
 simp only[mq,AH] at h;rw[vl,R3,lsh,h.1,h.2,h5,Ar hl];rfl
theorem mz {k i:Int} {n:List UInt8} (hv:-(2 ^ 60)<=i/\i<2 ^ 60):vl (.mk k n i [])=true:=by
 rw[vl,R3,Pt,lsh,WC,Ar hv.1,Ar hv.2];simp
theorem LW {t:Ty} {l:List Ty}:mq (t::l)=(vl t&&mq l):=by
 rw[mq,vl,mq,Pt,WC];cases R3 t <;> cases lsh t <;> cases Pt l <;> rfl
theorem yh:∀{l:List Ty},(∀t∈l,vl t=true)->mq l=true
 | [],_=>rfl
 | t::l,h=>by rw[LW,h t AD,yh λu hu=>h u (by simp[hu])]; rfl
theorem nA:∀l m:List Ty,mq (l++m)=(mq l&&mq m)
 | [],m=>by show mq m=(true&&mq m); rw[CZ]
 | t::l,m=>by rw[DH,LW,LW,nA l m,Le]
def MD (d B:Nat) (t:Ty):Prop:=RN B t/\gq d t=true/\vl t=true
def Zx (d B:Nat) (l:List Ty):Prop:=JV B l/\VI d l=true/\mq l=true
def nB (d B:Nat) (t:Ty):Prop:=RN B t/\(nz d t=true/\vl t=true)/\∃n i es,t=.mk 2 n i es
theorem nB.of {d B:Nat} {n:List UInt8} {i:Int} {es:List Ty} (h:RN B (.mk 2 n i es)) (h':nz d (.mk 2 n i es)=true) (hl:es.length<2 ^ 38) (hv:mq es=true):nB d B (.mk 2 n i es):=⟨h,⟨h',yg rfl hl hv⟩,_,_,_,rfl⟩
theorem nB.g {d B:Nat} {t:Ty} (h:nB d B t):MD d B t:=by
 obtain⟨h1,h2,n,i,es,rfl⟩:=h;exact⟨h1,h2⟩
def AOk (e:Int) (t:Ty):Prop:=(e<=0->size t<=1/\depth t<=1)/\(e<=1->size t<=3/\depth t<=2)
def sR (e:Int) (B:Nat) (t:Ty):Prop:=RN B t/\AOk e t/\vl t=true
theorem sR.leaf {e:Int} {B:Nat} {k i:Int} {n:List UInt8} (hn:n.length<2 ^ 60) (hB:0<B) (hv:-(2 ^ 60)<=i/\i<2 ^ 60):sR e B (.mk k n i []):=⟨RN.leaf hn hB,by simp[AOk,size,Ac,depth,Cf],mz hv⟩
theorem yj {t:Ty} (h:gq 0 t=true):size t<=3/\depth t<=2:=by
 obtain⟨k,n,i,ts⟩:=t;rw[gq] at h;cases h34:k==3||k==4 with
 | true=>rw[h34] at h; cases h
 | false=>
  rw[h34] at h;cases h6:k==6 with
  | true=>rw[h6] at h; cases h
  | false=>
   rw[h6] at h;cases h2:k==2 with
   | true=>
    rw[h2] at h;simp[nz] at h;exact h
   | false=>
    rw[h2] at h;simp only[AK,GM] at h;subst h;simp[size,Ac,depth,Cf]
theorem nB.a {d B C:Nat} {t:Ty} (h:nB d B t) (h0:¬ (d:Int)<=0) (hl:B<=C):sR d C t:=by
 refine⟨h.1.mono hl,⟨λh=>absurd h h0,λh1=>?_⟩,h.2.1.2⟩;have:d=1:=AA;subst this;have:=h.2.1.1;simpa[nz] using this
theorem MD.a {d B C:Nat} {t:Ty} (h:MD (d-1) B t) (h0:¬ (d:Int)<=0) (hl:B<=C):sR d C t:=by
 refine⟨h.1.mono hl,⟨λh=>absurd h h0,λh1=>?_⟩,h.2.2⟩;have:d=1:=AA;subst this;exact yj h.2.1
theorem ABy {d:Nat} {n:List UInt8} {i:Int} {es:List Ty} (hl:es.length<=2) (h:∀t∈es,AOk ((d:Int)-1) t):nz d (.mk 2 n i es)=true:=by
 have gen:∀(m q:Nat) (l:List Ty),(∀t∈l,size t<=m/\depth t<=q)->Ac l<=l.length*m/\Cf l<=q:=by
  intro m q l
  induction l with
  | nil=>simp[Ac,Cf]
  | cons a l ih=>
   intro h;have h1:=h a AD;have h2:=ih λt ht=>h t (by simp[ht])
   simp only[Ac,Cf,Bt,EN,Si];omega
 by_cases h1:d<=1
 .obtain⟨q1,q2⟩:=gen 1 1 es λt ht=>(h t ht).1 AA
  exact QF (by simp only[size]; omega) (by simp only[depth]; omega)
 .by_cases h2:d=2
  .obtain⟨q1,q2⟩:=gen 3 2 es λt ht=>(h t ht).2 AA
   have q3:es.length*3<=6:=AA;subst h2;simp only[nz,size,depth];have e1:1+Ac es<=7:=AA;have e2:Cf es+1<=3:=AA;simp;omega
  .have e1:(d==2)=false:=by simpa using h2
   simp[nz,h1,e1]
theorem MD.mono {d B C:Nat} {t:Ty} (h:MD d B t) (hl:B<=C):MD d C t:=⟨h.1.mono hl,h.2⟩
theorem MD.leaf {d B:Nat} {k i:Int} {n:List UInt8} (h3:(k==3||k==4)=false) (h6:(k==6)=false) (hn:n.length<2 ^ 60) (hB:0<B) (hv:-(2 ^ 60)<=i/\i<2 ^ 60):MD d B (.mk k n i []):=⟨RN.leaf hn hB,by
 rw[gq,h3,h6];cases k==2 with
 | true=>exact QF (by simp[size,Ac]) (by simp[depth,Cf])
 | false=>rfl,mz hv⟩
theorem Zx.nil {d B:Nat}:Zx d B []:=⟨JV.nil,by rw[VI],rfl⟩
theorem nC (d:Nat):∀l m:List Ty,VI d (l++m)=(VI d l&&VI d m)
 | [],m=>by rw[Cm,VI,CZ]
 | t::l,m=>by rw[DH,VI,VI,nC d l m,Le]
theorem Zx.snoc {l:List Ty} {d B C D:Nat} {t:Ty} (h:Zx d C l) (h':MD d B t) (hl:B+C<=D):Zx d D (l++[t]):=⟨h.1.snoc h'.1 hl,by rw[nC,h.2.1,VI,h'.2.1,VI]; rfl,by rw[nA,h.2.2,LW,h'.2.2]; rfl⟩
theorem RN.pair {B C D:Nat} {k:Int} {t u:Ty} (h:RN B t) (h':RN C u) (hl:B+C+1<=D):RN D (.mk k [] 0 [t,u]):=
 (RN.node (B:=B+C) AD (JV.cons h (JV.cons h' JV.nil (C:=0) (AY _)) (AY _))).mono hl
theorem nD {k:Int} {t u:Ty} (hk:(k==5)=false) (h:vl t=true) (h':vl u=true):vl (.mk k [] 0 [t,u])=true:=
 yg hk AD (by rw[LW,LW,h,h']; rfl)
theorem MD.ex {d B C D:Nat} {t u:Ty} (hd:0<d) (h:MD 1 B t) (h':MD (d-1) C u) (hl:B+C+1<=D):MD d D (.mk 6 [] 0 [t,u]):=by
 refine⟨RN.pair h.1 h'.1 hl,?_,nD rfl h.2.2 h'.2.2⟩;rw[gq,gqX,VI,VI,h.2.1,h'.2.1,Ar hd];rfl
theorem MD.un {d B C D:Nat} {t u:Ty} (hd:0<d) (h:MD (d-1) B t) (h':MD (d-1) C u) (hl:B+C+1<=D):MD d D (.mk 4 [] 0 [t,u]):=by
 refine⟨RN.pair h.1 h'.1 hl,?_,nD rfl h.2.2 h'.2.2⟩;rw[gq,VI,VI,VI,h.2.1,h'.2.1,Ar hd];rfl
theorem MD.tup {d B:Nat} {es:List Ty} (hd:0<d) (hl:es.length<=3) (h:Zx (d-1) B es):MD d (B+1) (.mk 3 [] 0 es):=by
 refine⟨RN.node AD h.1,?_,?_⟩
 .rw[gq,h.2.1,Ar hd,Ar hl]
  rfl
 .exact yg rfl AA h.2.2
theorem Zy {m:List (List AV)} (hm:LV bs m):LV bs (m++[Z4]):=Jd hm (by simp[Ah,Aw])
theorem yl {dv:AV} {rows:List (List PV)} (hd:Decls dv rows) {r:Int} (h0:0<=r) (h1:r<rows.length):∃row,rows[r.toNat]?=some row/\Zw row/\row.length=8:=by
 obtain⟨row,hr⟩:∃row,rows[r.toNat]?=some row:=⟨_,Au AA⟩;have h:=hd.row row (A3 hr);refine⟨row,hr,h,?_⟩;obtain⟨name,n,rest,rfl,h6,_⟩:=h
 grind
theorem RO {W:List (List UInt8)} (hW:(env R).G 1=some (Ez W)) (h4:W.length=4) (sW:Short W) {r:Int} (h0:0<=r) (h1:r<4):∃w,W[r.toNat]?=some w/\w.length<2 ^ 60:=by
 obtain⟨w,hw⟩:∃w,W[r.toNat]?=some w:=⟨_,Au AA⟩;exact⟨w,hw,sW.1 w (A3 hw)⟩
theorem jZ (hB:Oj bs id l) {W:List (List UInt8)} (hW:(env R).G 1=some (Ez W)) (h4:W.length=4) (sW:Short W) {dv:AV} {rows:List (List PV)} (hD:Decls dv rows) (μ:Nat)
  (jI:∀e:Int,-1<=e->e<=20->VR R bs id l dv 115 e (3*(e+1).toNat) μ (sR e)) (d:Nat) (hd:d<=20):VR R bs id l dv 83 d (3*d+1) (μ+1) (nB d):=by
 intro m hm k hk vars hvars hμ L hro ts Ee;have hlen:=hB.len;have hlt:=hB.lt
 suffices H:∀(rr:Bool) (N:Nat) (Post:AV->AQ->Prop),N=bs.length+m.length->(∀t v k' x,BP t v->nB d (8*(k'-k)+1) t->k<=k'->k'<=l.length->Post v ⟨ST bs id l k'++m,ts++x⟩)->AEs R 0 L.ro L.rt (.ptr id 0) dv (AG d) (AG vars) ⟨ST bs id l k++m,ts⟩ (QM rr N Post) from
  m83 AR (H _ _ _ (by simp[GC]) λt v k' x h1 h2 h3 h4=>⟨t,k',x,h1,h2,h3,h4,rfl⟩)
 intro rr N Post hN hP;have hrl:=hD.len;have g1:∀n,L.ro<=bs.length+m.length+n:=λn=>by omega
 refine ARY ?_;simp only[Ia,Du,Bd,GC]
 have ARZ:∀(s:AQ) (K:AV->Prop),K (AG rows.length)->HI s dv K:=by
  intro s K h;simp only[HI,hD.rep.BA,wO];exact h
 refine ARZ _ _ (Ba AA AA ?_);refine Cs (Ol (n:=(rows.length:Int)+4) hB (Zy hm) hk AA AA _ (by simp[*]) ts) ?_;rintro v s1 ⟨r,k1,rfl,Tk,Ng,TD,hk2,MW,rfl⟩;refine Ao ?_
 by_cases hr:r<4
 .have b4:decide (r<4)=true:=by grind
  rw[b4];obtain⟨w,hw,hwl⟩:=RO hW h4 sW Tk hr;refine A9 (QG hW (Zu Tk hw (jY ?_)));refine AL (Ka (.AE [])) ?_;rintro v rfl
  exact Zv (R:=R) (Post:=Post) (rr:=rr) (N:=N) (k:=k1) (ts:=ts) (Z:=Z4) (r:=[]) (es:=[]) (a:=.AE []) (c:=2) (i:=0) (n:=w) (L':=Ce (env R) 83 0 L.ro L.rt) hB hm rfl hN hro rfl (by simp[Ad]; exact .inl (.AE _)) (λx hx=>by
   have:=hP _ x k1 [] hx (nB.of (RN.leaf hwl AA) (QF (by simp[size,Ac]) (by simp[depth,Cf])) AD rfl) TD hk2
   grind)
 .have b4:decide (r<4)=false:=by grind
  rw[b4];have hkk:k<k1:=MW AA;obtain⟨row,hrow,⟨name,ar,rest,rfl,h6,har,Mi,hok⟩,h8⟩:=yl hD (r:=r-4) AA AA;refine Ay (ARa (Hf AA AA ?_));refine BS hD.rep (row:=.sc (.string ⟨name.toArray⟩)::.sc (.int .i64 ar)::rest) AA hrow h8 AA ?_
  have ARb:∀(s:AQ) (K:AV->Prop),K (.agg ((.sc (.string ⟨name.toArray⟩)::.sc (.int .i64 ar)::rest).map AV.pv))->D5 (env R) s (some 8) (.Cw (.sc (.string ⟨name.toArray⟩)::.sc (.int .i64 ar)::rest) 0) K:=by
   intro s K h;simp only[D5,DF,Bm,h8,JC];refine⟨AA,?_⟩;rw[CU (by simp[h6])];exact h
  refine ARb _ _ ?_;simp only[Ia];have eA:∀(k:Nat) (b:List AV) (t:List (Nat×Nat)),(⟨(ST bs id l k++(m++[Z4]))++[b],t⟩:AQ)=⟨ST bs id l k++(m++[Z4,b]),t⟩:=λk b t=>by simp
  have eL:(ST bs id l k1++(m++[Z4])).length=bs.length+m.length+1:=by simp[GC]; omega
  simp only[eL,eA]
  have ARc:∀K:AQ->Prop,K ⟨ST bs id l k1++(m++[Z4,(PV.sc (.string ⟨name.toArray⟩)::.sc (.int .i64 ar)::rest).map AV.pv]),ts⟩->IM (Ce (env R) 83 0 L.ro L.rt) ⟨ST bs id l k1++(m++[Z4,[(SS []),(AG 0),(AG 0),(SS []),(AG 0),(.AE []),(BB false),(.AE [])]]),ts⟩ 8 (.ptr (bs.length+m.length+1) 0) (.agg ((PV.sc (.string ⟨name.toArray⟩)::.sc (.int .i64 ar)::rest).map AV.pv)) K:=by
   intro K h;have hce:cellsOf (.agg ((PV.sc (.string ⟨name.toArray⟩)::.sc (.int .i64 ar)::rest).map AV.pv))=(PV.sc (.string ⟨name.toArray⟩)::.sc (.int .i64 ar)::rest).map AV.pv:=rfl;simp only[IM,EP,IJ,JB,wO,hce,Bm];refine⟨⟨h8,by rw[h8]; simp,by have:=g1 1; simp[Ce]; omega,hok,.inl (by simp[Ce]),AA⟩,?_⟩;rw[IW]
   obtain⟨x0,x1,x2,x3,x4,x5,rfl⟩:∃x0 x1 x2 x3 x4 x5,rest=[x0,x1,x2,x3,x4,x5]:=by
    rcases rest with _|⟨a,_|⟨b,_|⟨c,_|⟨d,_|⟨e,_|⟨f,_|⟨g,r⟩⟩⟩⟩⟩⟩⟩ <;> simp at h6
    simp
   simp_all
  refine ARc _ ?_;generalize hDB:(PV.sc (.string ⟨name.toArray⟩)::.sc (.int .i64 ar)::rest).map AV.pv=DB;have AZT:DB[0]?=some (SS name):=by rw[<-hDB]; rfl
  have AJb:DB[1]?=some (AG ar):=by rw[<-hDB]; rfl
  have hDBi:∀n,Ah n DB=true:=by
   intro n;rw[<-hDB];clear hDB ARb ARc hok h8 hrow AZT AJb;generalize (PV.sc (.string ⟨name.toArray⟩)::.sc (.int .i64 ar)::rest)=R0
   induction R0 with
   | nil=>rfl
   | cons p R0 ih=>assumption
  have hDBn:DB≠[]:=by intro e; simp_all
  have alD:∀(k:Nat) (b:List AV) (t:List (Nat×Nat)),alive ⟨ST bs id l k++(m++Z4::DB::[b]),t⟩ (bs.length+m.length+1)=true:=by
   intro k b t
   obtain⟨c,r,hc⟩:∃c r,DB=c::r:=by
    cases DB with
    | nil=>grind
    | cons c r=>simp
   simp[*,EP]
  have AZU:∀(K:AV->Prop),K (.ptr (bs.length+m.length+1) 0)->E2 ⟨ST bs id l k1++(m++[Z4,DB]),ts⟩ (.ptr (bs.length+m.length+1) 0) 0 K:=by simp_all[EP]
  have ld0:∀(K:AV->Prop),K (SS name)->D5 (env R) ⟨ST bs id l k1++(m++[Z4,DB]),ts⟩ none (.ptr (bs.length+m.length+1) 0) K:=by simp[*,EP]
  refine AZU _ (ld0 _ ?_);refine Hg (cs:=[AG 2,SS name,AG 0,.AE []]) AD ?_;have eA2:∀(k:Nat) (b:List AV) (t:List (Nat×Nat)),(⟨(ST bs id l k++(m++[Z4,DB]))++[b],t⟩:AQ)=⟨ST bs id l k++(m++[Z4,DB,b]),t⟩:=λk b t=>by simp
  have eL2:(ST bs id l k1++(m++[Z4,DB])).length=bs.length+m.length+2:=by simp[GC]; omega
  simp only[eL2,eA2];have AZV:∀K:AQ->Prop,K ⟨ST bs id l k1++(m++[Z4,DB,[AG 2,SS name,AG 0,.AE []]]),ts⟩->IM (Ce (env R) 83 0 L.ro L.rt) ⟨ST bs id l k1++(m++[Z4,DB,Z4]),ts⟩ 4 (.ptr (bs.length+m.length+2) 0) (.agg [AG 2,SS name,AG 0,.AE []]) K:=by simp[*,EP,IW]
  refine AZV _ ?_
  have loop:∀(j q k2:Nat) (x:List (Nat×Nat)) (a:AV) (es:List Ty),q+j=ar->k1<=k2->k2<=l.length->es.length=q->(∀t∈es,AOk ((d:Int)-1) t/\vl t=true)->JV (8*(k2-k1)+q) es->Dl ts.length (ts++x) 25 a (Ad es) ->
    AEt R 0 L.ro L.rt (.ptr id 0) dv (AG d) (AG vars) (.ptr (bs.length+m.length) 0) (.ptr (bs.length+m.length+1) 0) (.ptr (bs.length+m.length+2) 0) (AG q) ⟨ST bs id l k2++(m++[Z4,DB,[AG 2,SS name,AG 0,a]]),ts++x⟩ (QM rr N Post):=by
   intro j
   induction j with
   | zero=>
    intro q k2 x a es hq AJc ja hes hez hqs ha;have ho:=ha.A1;refine AEu ⟨alD _ _ _,?_⟩;simp only[D5,EP,IJ,JB,wO,DF,CQ,AJb];refine Ao ?_;have h1:¬ ((q:Int)<ar):=AA;simp only[h1,YW];refine Ay (ARd ?_);have:=Zv (R:=R) (Post:=Post) (rr:=rr) (N:=N) (k:=k2) (ts:=ts++x) (Z:=Z4) (r:=[DB,[AG 2,SS name,AG 0,a]]) (L':=Ce (env R) 83 0 L.ro L.rt) hB hm rfl hN hro rfl ho (c:=2) (i:=0) (n:=name) (λy hy=>hP _ y k2 x hy (nB.of ((RN.node AA hqs).mono AA) (ABy AA λt ht=>(hez t ht).1) AA (yh λt ht=>(hez t ht).2)) AA ja);simpa[D5,wO,DF,EP] using this
   | succ j D1=>
    intro q k2 x a es hq AJc ja hes hez hqs ha;have ho:=ha.A1;refine AEu ⟨alD _ _ _,?_⟩;simp only[D5,EP,IJ,JB,wO,DF,CQ,AJb];refine Ao ?_;have h1:((q:Int)<ar):=AA;simp only[h1,decide_true];refine A9 (ARe ?_)
    have hm2:LV bs (m++[Z4,DB,[AG 2,SS name,AG 0,a]]):=Jd hm (by
     intro b hb;simp only[A5,Ep,Er] at hb;rcases hb with rfl|rfl|rfl
     .rfl
     .simp[*]
     .simp[Ah,Aw,ho.Aw])
    simp[EP,J4,IW,J5];refine CS AA AA ?_;refine Cs (jI ((d:Int)-1) AA AA hm2 ja vars AA AA (Ce (env R) 83 0 L.ro L.rt) hro (ts++x) (by simp[Ce]; omega)) ?_;rintro v s1 ⟨t,k3,x2,hv,hqn,Mb,aP,rfl⟩;obtain⟨c1,n1,i1,qu⟩:=t;obtain⟨b,rfl,hb⟩:=hv;simp[HJ,Fu,hb.ok,hb.KB,EP,J4,IW,J5];have hrow:CI 4 1 [PV.sc (.int .i64 c1),.sc (.string ⟨n1.toArray⟩),.sc (.int .i64 i1),.list (Ad qu)]=[Aj (.mk c1 n1 i1 qu)]:=AR;rw[hrow]
    have SH:Dl ts.length (ts++(x++x2)) 25 a (Ad es):=by
     rw[<-Du];exact ha.grow
    refine M6 SH Ee (λr hr=>VO r hr) (Al _) AA (DE _) (by simp[Aa]; omega) (by simp[Aa]; omega) ?_;intro a' x' Nd;have ho':=Nd.A1;have:=g1 2;simp[EP,J4,IW,J5,ho'.ok,ho'.cells,ho'.Jf,this];refine⟨by simp[Dg],?_,?_⟩
    .simpa[ABx.Dg] using ABx.Dg ha
    refine ARf (Ba AA AA ?_);have z7:Dl ts.length (ts++x') 25 a' (Ad (es++[.mk c1 n1 i1 qu])):=by simp[*,FU,Ad]
    have:=D1 (q+1) k3 x' a' (es++[.mk c1 n1 i1 qu]) AA AA aP (by simp[*]) (λt ht=>by
     rcases B4.1 ht with ht|ht
     .exact hez t ht
     .rw[Df.1 ht]
      exact hqn.2) (JV.snoc hqs hqn.1 AA) z7
    grind
  have:=loop ar 0 k1 [] (.AE []) [] AA (AY _) hk2 rfl (λt ht=>by cases ht) JV.nil (.inl AR)
  grind
end
section
variable {bs:List (List AV)} {id:Nat} {l:Src} {R:Nat->Option (List PV)}
theorem ym (hB:Oj bs id l) {W:List (List UInt8)} (hW:(env R).G 1=some (Ez W)) (h4:W.length=4) (sW:Short W) {dv:AV} (μ:Nat)
  (ihn:∀d:Nat,d<=20->VR R bs id l dv 83 d (3*d+1) μ (nB d)) (iht:∀d:Nat,d<=20->VR R bs id l dv 41 d (3*d+2) μ (MD d)) (e:Int) (he:-1<=e) (he2:e<=20):VR R bs id l dv 115 e (3*(e+1).toNat) (μ+1) (sR e):=by
 intro m hm k hk vars hvars hμ L hro ts Ee;have hlen:=hB.len;have hlt:=hB.lt
 suffices H:∀(rr:Bool) (N:Nat) (Post:AV->AQ->Prop),N=bs.length+m.length->(∀t v k' x,BP t v->sR e (8*(k'-k)+1) t->k<=k'->k'<=l.length->Post v ⟨ST bs id l k'++m,ts++x⟩)->yp R 0 L.ro L.rt (.ptr id 0) dv (AG e) (AG vars) ⟨ST bs id l k++m,ts⟩ (QM rr N Post) from
  AZX AR (H _ _ _ (by simp[GC]) λt v k' x h1 h2 h3 h4=>⟨t,k',x,h1,h2,h3,h4,rfl⟩)
 intro rr N Post hN hP;have hm':=Zy hm
 have fin:∀(k1:Nat) (x:List (Nat×Nat)) (t:Ty) (v:AV),BP t v->sR e (8*(k1-k)+1) t->k<=k1->k1<=l.length->IM (Ce (env R) 115 0 L.ro L.rt) ⟨ST bs id l k1++(m++[Z4]),ts++x⟩ 4 (.ptr (bs.length+m.length) 0) v λs1=>D5 (env R) s1 (some 4) (.ptr (bs.length+m.length) 0) λr=>QM rr N Post r s1:=
  λk1 x t v hv hb h1 h2=>VQ (R:=R) (Post:=Post) (rr:=rr) (N:=N) (k:=k1) (ts:=ts++x) (Z:=Z4) (r:=[]) (L':=Ce (env R) 115 0 L.ro L.rt) hB hm rfl hN hro rfl hv (λy hy=>hP t y k1 x hy hb h1 h2)
 have eF:∀(k1:Nat) (t:Ty) (v:AV),BP t v->sR e (8*(k1-k)+1) t->k<=k1->k1<=l.length->IM (Ce (env R) 115 0 L.ro L.rt) ⟨ST bs id l k1++(m++[Z4]),ts⟩ 4 (.ptr (bs.length+m.length) 0) v λs1=>D5 (env R) s1 (some 4) (.ptr (bs.length+m.length) 0) λr=>QM rr N Post r s1:=by
  intro k1 t v hv hb h1 h2;have:=fin k1 [] t v hv hb h1 h2
  grind
 refine AJf ?_;simp only[Ia,Du,Bd,GC];refine Cs (HF (n:=6) hB hm' hk AA AA _ Be ts) ?_;rintro v s1 ⟨r,k1,rfl,Tk,Ng,TD,hk2,rfl⟩;have mu1:(l.length-k1)*100<=(l.length-k)*100:=B5 _ AA;have rest:DX .i64 .leq (AG e) (AG 0) λa25=>
 ER a25 (
 D5 (env R) ⟨ST bs id l k1++(m++[Z4]),ts⟩ none (.Dt 1 0) λa26=>
 He (env R) (Ce (env R) 115 0 L.ro L.rt) (.func (.func 54) [] []) [(.ptr id 0),(AG 4)] ⟨ST bs id l k1++(m++[Z4]),ts⟩ λa28 ABz=>
 NC ABz 1 a26 a28 λa29=>
 D5 (env R) ABz none a29 λa30=>
 He (env R) (Ce (env R) 115 0 L.ro L.rt) (.func (.func 26) [] []) [a30,(.AE [])] ABz λa31 iM=>
 IM (Ce (env R) 115 0 L.ro L.rt) iM 4 (.ptr (bs.length+m.length) 0) a31 λAEv=>
(D5 (env R) ABz none (.Dt 1 0) λv=>Dg v a26=true) /\
 D5 (env R) AEv (some 4) (.ptr (bs.length+m.length) 0) λAZY=>
 QM rr N Post AZY AEv) (
 DX .i64 .lss (AG r) (AG 4) λa34=>
 ER a34 (
 He (env R) (Ce (env R) 115 0 L.ro L.rt) (.func (.func 83) [] []) [(.ptr id 0),dv,(AG e),(AG vars)] ⟨ST bs id l k1++(m++[Z4]),ts⟩ λa39 ARg=>
 IM (Ce (env R) 115 0 L.ro L.rt) ARg 4 (.ptr (bs.length+m.length) 0) a39 λAEw=>
 D5 (env R) AEw (some 4) (.ptr (bs.length+m.length) 0) λAZZ=>
 QM rr N Post AZZ AEw) (
 yq R 0 L.ro L.rt (.ptr id 0) dv (AG e) (.ptr (bs.length+m.length) 0) ⟨ST bs id l k1++(m++[Z4]),ts⟩ (QM rr N Post))):=by
  refine ZM ?_
  by_cases h0:e<=0
  .have b0:decide (e<=0)=true:=by grind
   rw[b0];refine A9 (QG hW ?_);refine Cs (HF (n:=4) hB hm' hk2 AA AA _ Be ts) ?_;rintro v s1 ⟨r2,k2,rfl,sQ,hr4,MW,Mb,rfl⟩;obtain⟨w,hw,hwl⟩:=RO hW h4 sW sQ hr4;refine Zu sQ hw (jY ?_);refine AL (Ka (.AE [])) ?_;rintro v rfl;exact Zt (QG hW (SA W)) (eF k2 (.mk 2 w 0 []) _ ⟨_,rfl,by simp[Ad]; exact .inl (.AE _)⟩ (sR.leaf hwl AA AA) AA Mb)
  .have b0:decide (e<=0)=false:=by grind
   rw[b0];obtain⟨d,rfl⟩:=kF (show 0<=e by omega);refine Ay (Ao ?_);cases b4:decide (r<4) with
   | true=>
    refine A9 ?_;refine Cs (ihn d AA hm' hk2 vars AA AA (Ce (env R) 115 0 L.ro L.rt) hro ts Be) ?_;rintro v s1 ⟨t,k3,x,hv,hb,MW,Mb,rfl⟩;exact fin k3 x t v hv (hb.a h0 AA) AA Mb
   | false=>
    refine Ay (AJg (Hf AA AA ?_));have e3:((d:Nat):Int)-1=((d-1:Nat):Int):=AA;rw[e3];refine Cs (iht (d-1) AA hm' hk2 0 AA AA (Ce (env R) 115 0 L.ro L.rt) hro ts Be) ?_;rintro v s1 ⟨t,k3,x,hv,hb,MW,Mb,rfl⟩;exact fin k3 x t v hv (hb.a h0 AA) AA Mb
 refine Ao ?_;cases b2:decide (r<2) with
 | false=>exact Kn AD (Kn AD (pk (Ay rest)))
 | true=>
  refine Ak (Ak (F8 (pk ?_)))
  by_cases Sz:vars=0
  .have b0:decide ((vars:Int)>0)=false:=by grind
   grind[Ay]
  .have b0:decide ((vars:Int)>0)=true:=by grind
   rw[b0];refine A9 ?_;refine Cs (HF (n:=vars) hB hm' hk2 AA AA _ Be ts) ?_;rintro v s1 ⟨r2,k2,rfl,sQ,hr4,MW,Mb,rfl⟩;refine AL (J2 r2) ?_;rintro v rfl;exact eF k2 (.mk 5 [] r2 []) _ ⟨_,rfl,by simp[Ad]; exact .inl (.AE _)⟩ (sR.leaf AD AA AA) AA Mb
end
end Go.Proofs.YtpgfpakdnijngaaGreatDoor
