/-
  Told calls of another environment: what a call answers there; with its arguments closed first, if its answer is a scalar.
-/
import Derived.Test.YtpgfpakdnijngaaGreatDoorTenK
import Derived.Test.YtpgfpakdnijngaaGreatDoorWvC
set_option linter.all false
namespace Go.Tel
theorem BG.uniq {E:Env} {L:BI} {f:FuncId} {args:List AV} {s s' t':AQ} {v u:AV} (h:BG E L f args s v s') (k:BG E L f args s u t'):(v,s')=(u,t'):=by
 obtain⟨n,h⟩:=h;obtain⟨m,k⟩:=k;exact Ex ((h (n+m) AA).symm.trans (k (n+m) AA))
open Classical in
noncomputable def sY (E0:Env) (f:FuncId) (L:BI) (args:List AV) (s:AQ):Option (AV×AQ):=
 if h:∃r:AV×AQ,BG E0 L f args s r.1 r.2 then some (Classical.choose h) else none
theorem AC7 {E0:Env} {f:FuncId} {L:BI} {args:List AV} {s s':AQ} {v:AV} (h:BG E0 L f args s v s'):sY E0 f L args s=some (v,s'):=by
 have hx:∃r:AV×AQ,BG E0 L f args s r.1 r.2:=⟨(v,s'),h⟩;unfold sY;rw[dif_pos hx];exact Bi some ((O8 hx).uniq h)
theorem AC8 {E E0:Env} (hG0:Good E0) (hG:E.G=E0.G) (hP:E.P=E0.P) {f:FuncId}:Mr E f (sY E0 f):=by
 intro L args s s' v g w vs h hI hargs;unfold sY at h;split at h
 .rename_i hx
  have hc:=O8 hx;rw[Ex h] at hc;obtain⟨n,hn⟩:=hc;obtain⟨q1,q2⟩:=Kg hG0 n L f args _ _ _ _ _ vs (hn n (AY n)) (hI.env hG hP) hargs;rw[<-hP] at q1 q2;refine⟨q1,q2.mono ?_⟩;rintro e w' ⟨v',g',rfl,hv,hx',hi⟩;exact⟨v',g',rfl,hv,hx',hi.env hG.symm hP.symm⟩
 .grind
open Classical in
noncomputable def drT (E0:Env) (f:FuncId) (_:BI) (args:List AV) (s:AQ):Option (AV×AQ):=
 match BK s.bs 0 0 args with
 | some ys=>if h:∃u:Value,∃s1,BG E0 L0 f ys ⟨[],[]⟩ (.pv (.sc u)) s1 then some (.pv (.sc (Classical.choose h)),s) else none
 | none=>none
theorem AK2 {E0:Env} {f:FuncId} {L:BI} {args ys:List AV} {s s1:AQ} {u:Value} (hc:BK s.bs 0 0 args=some ys) (h:BG E0 L0 f ys ⟨[],[]⟩ (.pv (.sc u)) s1):drT E0 f L args s=some (.pv (.sc u),s):=by
 have hx:∃u:Value,∃s1,BG E0 L0 f ys ⟨[],[]⟩ (.pv (.sc u)) s1:=⟨u,s1,h⟩;unfold drT;simp only[hc];rw[dif_pos hx];obtain⟨t,ht⟩:=O8 hx;have:=ht.uniq h;simp only[BT] at this;rw[this.1]
theorem Inv.AT1 {E:Env} {g:AP} {w:World} {s:AQ} (h:Inv E g w s):Inv E (AP.bare (g.H6 0)) w ⟨[],[]⟩:=
 have hm:∀b o,g.I b o->g.H6 0 b o:=λ_ _ h=>.inl h
 {h.bare with
  blk:=λ_ _ h=>by grind[AP.bare]
  F3:=λ_ _ _ h=>by grind[AP.bare]
  tok:=λ_ _ h=>by grind[AP.bare]
  G6:=λ_ _ _ h=>by grind[AP.bare]
  Jq:=λb o hb=>by
   rcases hb with hb|⟨_,_,hb⟩
   .exact h.Jq b o hb
   .exact h.E5 hb
  FL:=Pb h hm
  DG:=Nr h hm }
theorem AK3 {E E0:Env} (hG0:Good E0) (hG:E.G=E0.G) (hP:E.P=E0.P) {f:FuncId}:Mr E f (drT E0 f):=by
 intro L args s s' v g w vs h hI hargs;unfold drT at h;split at h
 .rename_i ys has
  split at h
  .rename_i hx
   obtain⟨s1,n,hn⟩:=O8 hx;simp only[BN,BT] at h;obtain⟨rfl,rfl⟩:=h;have hI0:Inv E0 g w s:=hI.env hG hP;have hm:∀b o,g.I b o->g.H6 0 b o:=λ_ _ h=>.inl h
   have ha:=FZ (g'':=AP.bare (g.H6 0)) (Ib hI hm λid b o hid hb=>.inr ⟨id,hid,hb⟩)
    ⟨λ_ _ h=>absurd h (Ez _),λ_ h=>absurd h (Ez _),λ_ _ h=>absurd h (Ez _),λ_ _ h=>absurd h (Ez _),hm⟩ _ _ vs has hargs
   obtain⟨q1,q2⟩:=Kg hG0 n L0 f ys _ _ _ _ _ vs (hn n (AY n)) hI0.AT1 ha;rw[<-hP] at q1 q2;refine⟨q1,q2.mono ?_⟩;rintro e w' ⟨v',g',rfl,hv,hx',hi⟩;have keep:∀b,b<w.heap.size->w'.heap[b]?=w.heap[b]?:=λb hb=>(hx'.out b hb (λ_ e=>by grind[AP.bare]) (λ_ _ e=>by grind[AP.bare]) (λ_ e=>by grind[AP.bare])).1
   have cell:∀b o,g.I b o->w'.cell? ⟨b,o,none⟩=w.cell? ⟨b,o,none⟩:=λb o hb=>Cb (keep b (hI.Jq b o hb)) o
   obtain⟨r1,r2⟩:=UB (L:=L) (I:=g.I) hI hx'.os hx'.tape hx'.output hx'.size (λ_ _ h=>h) (λb hb=>⟨keep b hb,λ_ h=>h⟩) (λb o h=>Fo (hI.Jq b o h) hx'.size)
    (λgl row hr j c hj=>by
     obtain⟨u,k1,k2,k3⟩:=hI.FL gl row hr j c hj;exact⟨u,k1,(cell _ _ k1).trans k2,k3.mono (λ_ _ h=>h) cell⟩)
    (λgl row hr=>⟨(hI.DG gl row hr).1,(cell _ _ (hI.DG gl row hr).1).trans (hI.DG gl row hr).2⟩)
   refine⟨v',_,rfl,?_,r1,r2⟩;rw[hv.C6];exact .pv (.sc _)
  .grind
 .grind
noncomputable def KF (E0:Env) (own rd:FuncId->Bool) (mu:FuncId->TypeId->Bool):Env:=
 {E0 with
  clone:=λf=>bif own f then false else true
  told:=λf=>bif own f then none else bif rd f then some (drT E0 f) else some (sY E0 f)
  mu:=mu
  back:=λ_=>none }
section
variable {E0:Env} {own rd:FuncId->Bool} {mu:FuncId->TypeId->Bool}
theorem kg (h:Good E0):Good (KF E0 own rd mu) where
 mix:=h.mix
 plans:=h.plans
 names:=h.names
 cT:=λf T ht=>by
  simp only[KF] at ht;cases ho:own f with
  | true=>grind
  | false=>
   cases hr:rd f with
   | true=>simp[ho,hr] at ht; subst ht; exact AK3 (E:=KF E0 own rd mu) h rfl rfl
   | false=>simp[ho,hr] at ht; subst ht; exact AC8 (E:=KF E0 own rd mu) h rfl rfl
 R1:=λ_ _ h=>by grind[KF]
 UE:=λf hc ht=>by
  simp only[KF] at hc ht;cases ho:own f <;> simp_all;cases hr:rd f <;> simp_all
theorem BG.has {E:Env} {L:BI} {f:FuncId} {args:List AV} {s s':AQ} {v:AV} (h:BG E L f args s v s'):∃fn,E.P.funcs[f]?=some fn:=by
 obtain⟨n,h⟩:=h;have:=h (n+1) AA;simp only[Dw] at this;split at this
 .exact⟨_,Ba⟩
 .grind
theorem WC {E:Env} {T:BI->List AV->AQ->Option (AV×AQ)} {L:BI} {f:FuncId} {fn:Func} {args:List AV} {s s':AQ} {v:AV} (hf:E.P.funcs[f]?=some fn) (hc:E.clone f=true) (ht:E.told f=some T) (h:T L args s=some (v,s')):BG E L f args s v s':=
 ⟨1,λm hm=>by
  obtain⟨m,rfl⟩:∃m',m=m'+1:=⟨m-1,AA⟩;simp only[Dw,hf,hc,AN,N9,ht,h]⟩
theorem WA {L:BI} {f:FuncId} {args:List AV} {s s':AQ} {v:AV} (ho:own f=false) (hr:rd f=false) (h:BG E0 L f args s v s'):BG (KF E0 own rd mu) L f args s v s':=by
 obtain⟨fn,hf⟩:=h.has;exact WC (T:=sY E0 f) (fn:=fn) hf (by simp[KF,ho]) (by simp[KF,ho,hr]) (AC7 h)
theorem gL {L:BI} {f:FuncId} {args ys:List AV} {s s1:AQ} {u:Value} (ho:own f=false) (hr:rd f=true) (hc:BK s.bs 0 0 args=some ys) (h:BG E0 L0 f ys ⟨[],[]⟩ (.pv (.sc u)) s1):BG (KF E0 own rd mu) L f args s (.pv (.sc u)) s:=by
 obtain⟨fn,hf⟩:=h.has;exact WC (T:=drT E0 f) (fn:=fn) hf (by simp[KF,ho]) (by simp[KF,ho,hr]) (AK2 hc h)
theorem Ae.over {f:FuncId} {args:List AV} {Post:AV->Prop} (ho:own f=false) (hr:rd f=false) (h:Ae E0 f args Post):Ae (KF E0 own rd mu) f args Post:=by
 obtain⟨v,h1,h2⟩:=h;exact⟨v,h1,λL s=>WA ho hr (h2 L s)⟩
theorem O1 {L:BI} {f:FuncId} {args ys:List AV} {s:AQ} {Post:AV->Prop} (ho:own f=false) (hr:rd f=true) (hc:BK s.bs 0 0 args=some ys) (hp:∀v,Post v->∃u,v=.pv (.sc u)) (h:Ae E0 f ys Post) :
  ∃v s',(Post v/\s'=s)/\BG (KF E0 own rd mu) L f args s v s':=by
 obtain⟨v,h1,h2⟩:=h;obtain⟨u,rfl⟩:=hp v h1;exact⟨_,s,⟨h1,rfl⟩,gL ho hr hc (h2 _ _)⟩
end
end Go.Tel
