/-
  The reference: fill.
-/
import Derived.Test.YtpgfpakdnijngaaGreatDoorTF
import Derived.Test.YtpgfpakdnijngaaGreatDoorTE
set_option linter.all false
namespace Go.Proofs.YtpgfpakdnijngaaGreatDoor
open Go.Tel
mutual
theorem wK {p:Int->Bool} (h:∀i,p i=true->-(2 ^ 60)<=i/\i<2 ^ 60):∀t:Ty,vP p t=true->vOk t=true
 | .mk k n i ts,ht=>by
  rw[vP] at ht;rw[vOk];cases h5:k==5 with
  | true=>
   grind
  | false=>
   rw[h5] at ht;cases h2:k==2||k==3 with
   | true=>
    rw[h2] at ht;exact lu h ts ht
   | false=>rfl
theorem lu {p:Int->Bool} (h:∀i,p i=true->-(2 ^ 60)<=i/\i<2 ^ 60):∀l:List Ty,Q7 p l=true->o7 l=true
 | [],_=>rfl
 | t::l,hl=>by
  simp only[Q7,AD] at hl;rw[o7,wK h t hl.1,lu h l hl.2];rfl
end
theorem MO.keep {lo:Nat} {bs bs':List (List AV)} {l:List Br} {a:AV} {e:Nat} {c d:List AV} (h:MO lo bs l a) (he:bs[e]?=some c) (hc:c.length=2) (hT:bs'.take bs.length=bs.set e d):MO lo bs' l a:=by
 rcases h with h|⟨id,rows,h1,h2,h3,h4,h5⟩
 .exact .inl h
 .refine .inr ⟨id,rows,h1,h2,?_,h4,h5⟩
  have hne:e≠id:=by grind[Mv]
  exact D7 hT (by grind)
structure AZG (e:Nat) (x:Bool) (l:List Br) (s s':AM) (v:AV):Prop where
 YM:MO s.bs.length s'.bs l v
 tk:s'.bs.take s.bs.length=s.bs.set e [BB true,BB x]
 len:s.bs.length<=s'.bs.length
 ok:Bj s'
 WI:ES (.AB []) (.AB []) s.ts s'.ts
theorem wL (b:Br):(Yg b).length=5:=by simp[Yg,Ad]
theorem o8 {a b:List AV} {p q:List PV} (ha:Cm a=some p) (hb:Cm b=some q):Cm (a++b)=some (p++q):=by
 induction a generalizing p with
 | nil=>
  grind[Cm]
 | cons x a ih=>
  grind[Cm]
theorem D3.Cm {b:Br} {row:List AV} (h:D3 b (.agg row)):Cm row=some (Yg b):=by
 obtain⟨a,y,he,ha,ht⟩:=h;cases he;rcases hb:b.body with ⟨k,n,i,ts⟩
 rw[hb] at ht;obtain⟨a2,hy,S1⟩:=ht;cases hy
 have h1:Tel.Cm [a,AA k,SS n,AA i,a2]=some [.list (AP b.bounds),.sc (.int .i64 k),.sc (.string ⟨n.toArray⟩),.sc (.int .i64 i),.list (AP ts)]:=by
  simp only[Tel.Cm,ha.Ja,S1.Ja];rfl
 grind[Yg,Aa]
theorem iH {l:List Br} {rows:List (List AV)} (h:CG (λb row=>D3 b (.agg row)) l rows):Cm rows.flatten=some ((l.map Yg).flatten):=by
 induction l generalizing rows with
 | nil=>
  cases rows with
  | nil=>rfl
  | cons _ _=>exact h.elim
 | cons b l ih=>
  cases rows with
  | nil=>exact h.elim
  | cons row rows=>
   rw[MV,Bz,MV];exact o8 h.1.Cm (ih h.2)
theorem MO.ACm {lo N:Nat} {bs X:List (List AV)} {l:List Br} {a:AV} (h:MO lo X l a) (hT:bs.take N=X):MO lo bs l a:=
 h.mono (AN _) λ_ _ _ hj=>D7 hT hj
section
variable {R:RT}
structure TpG (S N:Nat) (b:Br):Prop where
 g:Q9 S b
 n:b.bounds.length<=N
 t:∃args,b.body=.mk 3 [] 0 args
end
attribute [local simp] Bw B6 KS KT AO C1 GC wO setCells CR EG DQ Cu BD alive Cb Fi Hs jo Ay DC BV GL DY D0 qY oO okB qZ qa qb qc qd fK qe qf qg qh qi qj qm qo qp qt qu okF qv qw qx qy rC U2 rD RJ RK RL RM rE rF rG rH rI rJ rK rL rM rN Gu rO oP rP rQ rR rS rT rU rV rW rX rY Cm g0 g1 xI xL xM xF xG xC lf Y4 Y5
section
variable {R:RT}
theorem ACn:∀(f:Nat) (t:Ty) (l:List Br),HQ (Ac 32) f t=some l->l.length<=32:=by
 intro f t l h
 have cat:∀{α:Type} (g:α->Option (List Br)) (l:List α) (out r:List Br),out.length<=32->Oh (Ac 32) g l out=some r->r.length<=32:=by
  intro α g l
  induction l with
  | nil=>
   grind[Oh]
  | cons a l ih=>
   grind[Oh]
 have tup:∀(ls:List (List Br)) (out r:List Br),out.length<=32->Ln (Ac 32) ls out=some r->r.length<=32:=by
  intro ls
  induction ls with
  | nil=>
   grind[Ln]
  | cons a l ih=>
   grind[Ln]
 cases f with
 | zero=>grind[HQ]
 | succ f=>
  obtain⟨k,n,i,ts⟩:=t;rw[HQ] at h;cases h0:k==0 with
  | true=>grind
  | false=>
   rw[h0] at h;simp only[AE] at h;cases h2:k==2||k==5 with
   | true=>grind
   | false=>
    rw[h2] at h;simp only[AE] at h;cases h3:k==3 with
    | true=>
     grind
    | false=>
     rw[h3] at h;simp only[AE] at h;cases h4:k==4 with
     | true=>
      grind
     | false=>
      rw[h4] at h;simp only[AE] at h;cases h6:k==6 with
      | false=>grind
      | true=>
       rw[h6] at h;simp only[AH] at h;rcases ts with _|⟨b,_|⟨body,_|⟨z,r⟩⟩⟩
       all_goals grind[eE]
end
mutual
theorem cX:∀(t:Ty) (l:List Int),(occs t l).length<=l.length+size t
 | .mk k _ i ts,l=>by
  have:=Wl ts l
  grind[occs,size]
theorem Wl:∀(ts:List Ty) (l:List Int),(GO ts l).length<=l.length+AQ ts
 | [],l=>by grind[GO]
 | t::ts,l=>by
  have h1:=cX t l;have h2:=Wl ts (occs t l)
  grind[GO,AQ]
end
/- QP, QI -/
def wI (i:Int):Bool:=decide (-(2 ^ 50)<=i)&&decide (i<2 ^ 50)
theorem wM {t:Ty} (h:vP wI t=true):vOk t=true:=wK (λi hi=>by simp only[wI,AD,CZ] at hi; omega) t h
theorem lz {n m:Int} (hm:wI m=true) {t:Ty} (h:vP wI t=true):vP wI (LC n m t)=true/\size (LC n m t)=size t:=by
 rw[J6];refine Nu (λi hi=>?_) t h
 grind
theorem l5 {t:Ty} (hv:valid t=true) (hc:BW 0 t=true) (hs:Cc (bw t)) {l:List Br} (hl:HQ (Ac 32) (depth t) t=some l) :
  ∃ps B,Ao (Ac 32) (depth t) t []=(some ps,B)/\l.map IA=ps.map (IY B)/\(∀b∈l,∀i∈occs b.body [],0<=i/\i<(b.bounds.length:Int))/\(∀b∈B,VE t b)/\∀b∈l,∀c∈b.bounds,VE t c:=by
 have h:=gJ (Au:=Ac 32) rfl rfl (depth t) t [] hv hc GY hs [] (λx hx=>by grind);rw[DT hv hc] at h;have hb:=Nt (f:=depth t) hv hc;have hsz:=DS (Au:=Ac 32) (depth t) t l hl;rw[hl] at h;generalize Ao (Ac 32) (depth t) t []=o2 at h hb;rcases o2 with ⟨_|ps,B⟩
 .exact h.elim
 .obtain⟨_,h2⟩:=h
  simp only at hb ⊢
  have h3:∀(l':List Br) (ps':List Ty),(∀b∈l',b∈l)->CG (λb p=>∃φ,Rl false 0 B ([]:List Ty).length B.length [] b p φ) l' ps'->CG (λb p=>b∈l/\∃φ,Rl false 0 B ([]:List Ty).length B.length [] b p φ) l' ps':=by
   intro l'
   induction l' with
   | nil=>intro ps' _ h; cases ps' with
    | nil=>trivial
    | cons _ _=>exact h.elim
   | cons a l' ihl=>
    intro ps' hm h;cases ps' with
    | nil=>exact h.elim
    | cons p ps'=>exact⟨⟨hm a (by simp),h.1⟩,ihl ps' (λb hb=>hm b (by grind)) h.2⟩
  have h4:∀(l':List Br) (ps':List Ty),CG (λb p=>∃φ,Rl false 0 B ([]:List Ty).length B.length [] b p φ) l' ps'->∀b∈l',∃p φ,Rl false 0 B ([]:List Ty).length B.length [] b p φ:=by
   intro l'
   induction l' with
   | nil=>simp
   | cons a l' ihl=>
    intro ps' h b hb;cases ps' with
    | nil=>exact h.elim
    | cons p ps'=>
     rcases Az.1 hb with rfl|hb
     .exact⟨p,h.1⟩
     .exact ihl ps' h.2 b hb
  have e:l.map IA=ps.map (IY B):=by
   refine(h3 l ps (λb hb=>hb) h2).map_eq λb p ⟨Oa,φ,H⟩=>(ua H (AN _) (DJ hs ?_)).symm
   have:=H.lM;have:=H.len
   grind
  refine⟨ps,B,rfl,e,λb Oa i hi=>?_,hb,λb Oa c hc=>?_⟩
  rotate_left
  .obtain⟨p,φ,H⟩:=h4 l ps h2 b Oa
   obtain⟨i,hi,hic⟩:=N5.1 hc;obtain⟨x,hx⟩:∃x,φ[i]?=some x:=⟨_,Ap (by have:=H.len; omega)⟩;have h5:=H.KX i x hx
   grind
  obtain⟨p,φ,H⟩:=h4 l ps h2 b Oa;rcases KY b.body [] i hi with h|h
  .cases h
  .have:=H.len
   rcases H.vis i h with h|h|h
   all_goals grind
theorem l7 {L:List Int}:∀(f j:Nat) (t:Ty),j+f<2 ^ 40->vP wI t=true->vP wI (aU L f j t)=true/\size (aU L f j t)=size t
 | 0,_,_,_,h=>⟨h,rfl⟩
 | f+1,j,t,hj,h=>by
  have hw:wI (hole+1+(j:Int))=true:=by
   have:(hole:Int)=1073741824:=rfl;simp only[wI,AD,CZ];omega
  obtain⟨h1,h2⟩:=lz (n:=L.getD j 0) hw h;obtain⟨h3,h4⟩:=l7 (L:=L) f (j+1) _ (by omega) h1;exact⟨h3,h4.trans h2⟩
theorem l8:∀(f j:Nat) (t:Ty),j+f<2 ^ 40->vP wI t=true->vP wI (M3 f j t)=true/\size (M3 f j t)=size t
 | 0,_,_,_,h=>⟨h,rfl⟩
 | f+1,j,t,hj,h=>by
  have hw:wI (j:Int)=true:=by
   simp only[wI,AD,CZ];omega
  obtain⟨h1,h2⟩:=lz (n:=hole+1+(j:Int)) hw h;obtain⟨h3,h4⟩:=l8 f (j+1) _ (by omega) h1;exact⟨h3,h4.trans h2⟩
theorem o9 {b:Br} (hv:vP wI b.body=true) (hs:size b.body<2 ^ 36):size (IA b).body=size b.body/\(IA b).bounds.length<=size b.body:=by
 have hl:=cX b.body [];simp only[Ce,Cg] at hl;obtain⟨h1,h2⟩:=l7 (L:=occs b.body []) (occs b.body []).length 0 b.body (by omega) hv;obtain⟨_,h4⟩:=l8 (occs b.body []).length 0 _ (by omega) h1;refine⟨h4.trans h2,?_⟩
 show((occs b.body []).map _).length<=_
 grind
theorem AKW {W:Nat} {b:Br} (h:Q9 W b) (hb:b.bounds.length<2 ^ 40):vP wI b.body=true:=
 R9 (λi hi=>by
  have:(hole:Int)=1073741824:=rfl;rw[lO] at hi;simp only[wI,AD,CZ];omega) _ h.ok
end Go.Proofs.YtpgfpakdnijngaaGreatDoor
