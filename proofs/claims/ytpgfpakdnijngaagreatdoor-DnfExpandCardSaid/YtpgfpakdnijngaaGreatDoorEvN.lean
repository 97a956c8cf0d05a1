/-
  Single operations, part 12: the theorem.
-/
import Derived.Test.YtpgfpakdnijngaaGreatDoorEvL
import Derived.Laws.Strings
set_option linter.all false
namespace Go.Tel
theorem eN {g:AH} {w:World} {x:AV} {v u:Value} (h:V g w x v) (hc:HJ x=some u):v=u:=by
 unfold HJ at hc;split at hc
 .simp at hc; subst hc; exact h.C2
 grind
theorem Uh {E:Env} {g:AH} {w:World} {ρ:Nat->AV} {a:Act} (hρ:∀t,V g w (ρ t) (a.tmps.getD t undef)) {o:Oper} {v:AV} (hs:∀cs b,o.op≠.select cs b)
  (h:Cw E ρ o=some v):∃v',(execOp a.eval o).run E.P w=.ok (.value v') w/\V g w v v':=by
 unfold Cw at h;split at h
 .rename_i hall
  split at h
  .rename_i u hq
   simp at h; subst h;refine⟨u,?_,V.Ms u⟩;rw[execOp_congr o hs (ρ:=a.eval) (ρ':=λx=>(HJ (Ag ρ x)).getD undef) (λx hx=>?_)]
   .grind[VC]
   .have:=Cz.1 hall x (by grind)
    cases hc:HJ (Ag ρ x) with
    | none=>grind
    | some u=>exact eN (Aj hρ x) hc
  grind
 grind
theorem wrap_small {n:Nat} (h:n<9223372036854775808):IntKind.wrap .i64 (Int.ofNat n)=Int.ofNat n:=by grind[IntKind.wrap,IntKind.bits]
theorem Lp {k k':IntKind} (h:Nat.beq (GJ k) (GJ k')=true):k=k':=by
 cases k <;> cases k' <;> simp_all[GJ]
theorem Ui {P:Program} {w:World} {k:IntKind} {op:BinOp} {t:TypeId} {a b:Nat} {v:Value} (h:XM k op a b=some v) :
  (binOp op t (.int k (.ofNat a)) (.int k (.ofNat b))).run P w=.ok v w:=by
 have hb:∀c d:Nat,Nat.beq c d=decide (Int.ofNat c=Int.ofNat d):=λc d=>by grind[Nat.beq_eq]
 have hl:∀c d:Nat,Nat.blt c d=decide (Int.ofNat c<Int.ofNat d):=λc d=>by grind[Nat.blt_eq]
 have hle:∀c d:Nat,Nat.ble c d=decide (Int.ofNat c<=Int.ofNat d):=λc d=>by
  rw[N1,Nat.ble_eq]; simp
 cases op <;> simp only[XM,reduceCtorEq] at h
 case add=>
  grind[GJ,Lp,wrap_small,binOp,Op.intArith,Sem.run_pure]
 case sub=>
  grind[GJ,Lp,wrap_small,binOp,Op.intArith,Sem.run_pure]
 all_goals
  grind[binOp,Op.intCmp,Sem.run_pure]
theorem Uj {P:Program} {w:World} {op:BinOp} {t:TypeId} {a b:ByteArray} {v:Value} (h:XN op a.data.toList b.data.toList=some v):(binOp op t (.string a) (.string b)).run P w=.ok v w:=by
 cases op <;> simp only[XN,reduceCtorEq,BG] at h
 all_goals
  grind[binOp,Op.stringOp,Sem.run_pure,Go.ByteArray.toList_eq,Qb,SQ]
theorem M0 {P:Program} {g:AH} {w:World} {op:BinOp} {t:TypeId} {x y:AV} {xv yv v:Value} (hx:V g w x xv) (hy:V g w y yv) (h:Ik op x y=some v) :
  (binOp op t xv yv).run P w=.ok v w/\∀a b,(eqGuard op t a b xv yv).run P w=.ok () w:=by
 unfold Ik at h;split at h
 .rename_i k a k' b
  rw[hx.C2,hy.C2];cases hk:Nat.beq (GJ k) (GJ k') with
  | false=>grind
  | true=>
   rw[hk] at h;have:=Lp hk;subst this;refine⟨Ui h,λa b=>?_⟩;simp[*,eqGuard]
 .rw[hx.C2,hy.C2]
  simp[*,Uj,eqGuard]
 grind
theorem Xm {P:Program} {g:AH} {w:World} {op:UnOp} {x:AV} {xv v:Value} (hx:V g w x xv) (h:XO op x=some v):(Op.unary op xv).run P w=.ok v w:=by
 unfold XO at h;split at h
 .rw[hx.C2]
  split at h
  all_goals simp_all[Op.unary]
 grind
theorem Q0 {P:Program} {g:AH} {w:World} {t:TypeId} {x i:AV} {xv iv v:Value} (hx:V g w x xv) (hi:V g w i iv) (h:MR P t x i=some v):(Instr.index t xv iv).run P w=.ok v w:=by
 unfold MR at h;split at h
 .rename_i b k n
  rw[hx.C2,hi.C2];split at h
  .rename_i c hu hc
   simp at h; subst h
   have hs:b[n]?=some c:=by
    have hlt:=(BL.1 hc).1;have he:=(BL.1 hc).2;have hlt':n<b.size:=by simp_all
    rw[getElem?_pos b n hlt'];rw[<-he];rfl
   simp[*,Instr.index,asIntOf,run_underlying]
  grind
 grind
theorem Uk {P:Program} {g:AH} {w:World} {t ty:TypeId} {x:AV} {xv v:Value} (hx:V g w x xv) (h:MS P t x=some v):(Builtin.len_ #[t] ty #[xv]).run P w=.ok v w:=by
 unfold MS at h;split at h
 .rename_i b
  rw[hx.C2];split at h
  all_goals simp_all[Builtin.len_,run_underlying,goInt]
 grind
theorem PM {g:AH} {w:World} {ρ:Nat->AV} {a:Act} (hρ:∀t,V g w (ρ t) (a.tmps.getD t undef)) (xs:List Operand):VL g w (xs.map (Ag ρ)) (xs.map a.eval):=by
 induction xs with
 | nil=>exact .nil
 | cons x xs ih=>exact .cons (Aj hρ x) ih
theorem eO {E:Env} {g:AH} {w:World} {s:AM} (hI:Inv E g w s) {x:AV} {v:Value} {n:Nat} (hx:V g w x v) (h:A7 s x=some n):∃a c,v=.slice a n c:=by
 unfold A7 at h;split at h
 .rename_i id off len sz
  cases hal:Tel.alive s id with
  | false=>grind
  | true=>
   simp[hal] at h; subst h;cases hx with
   | Im hd=>exact absurd hd (hI.alive hal)
   | ref=>simp
 grind[EK]
theorem Li {E:Env} {g:AH} {w:World} {s:AM} {ρ:Nat->AV} {a:Act} {x:Operand} {v:AV} (o:Oper) (ho:o.op=.nilCheck x) (hI:Inv E g w s) (hρ:∀t,V g w (ρ t) (a.tmps.getD t undef))
  (h:KE s (Ag ρ x)=some v):∃v',(∀w2:World,(execOp a.eval o).run E.P w2=.ok (.value v') w2)/\V g w v v':=by
 obtain⟨dst,op,type,pos,after,guard⟩:=o;simp only at ho;subst ho;have hx:=Aj hρ x;unfold KE at h;split at h
 .rename_i id off e
  rw[e] at hx;cases hal:Tel.alive s id with
  | false=>grind
  | true=>
   simp[hal] at h; subst h;generalize ZE:a.eval x=v0 at hx;cases hx with
   | Ky hd=>exact absurd hd (hI.alive hal)
   | ptr hb=>exact⟨_,λw2=>by simp[*,execOp],.ptr hb⟩
 .rename_i e
  rw[e] at hx;simp at h; subst h;generalize ZE:a.eval x=v0 at hx;cases hx with|DS=>exact⟨_,λw2=>by simp[*,execOp],.DS _ _⟩
 .rename_i e
  rw[e] at hx;simp at h; subst h;generalize ZE:a.eval x=v0 at hx;cases hx with|Cq _ f hr=>exact⟨_,λw2=>by grind[execOp,Sem.run_pure],.Cq _ f hr⟩
 .rename_i e
  rw[e] at hx;simp at h; subst h;generalize ZE:a.eval x=v0 at hx;cases hx with|func h1 h2 h3 h4=>exact⟨_,λw2=>by simp[*,execOp],.func h1 h2 h3 h4⟩
 grind
theorem nU {E:Env} {L:A8} {g:AH} {w:World} {s s':AM} {ρ:Nat->AV} {a:Act} {o:Oper} {v:AV} (hI:Inv E g w s) (hρ:∀t,V g w (ρ t) (a.tmps.getD t undef))
  (h:Cc E L ρ s o=some (v,s')):∃v' w' g',sJ E o a w v' w'/\V g' w' v v'/\Ext L g w g' w'/\Inv E g' w' s':=by
 obtain⟨dst,op,type,pos,after,guard⟩:=o
 have same:∀(r:Option AV),(match r with|some v=>some (v,s)|none=>none)=some (v,s')->r=some v/\s'=s:=by
  intro r hr;cases r with
  | none=>grind
  | some u=>grind
 have still:∀(v':Value),(execOp a.eval ⟨dst,op,type,pos,after,guard⟩).run E.P w=.ok (.value v') w->V g w v v'->s'=s ->
   ∃v' w' g',sJ E ⟨dst,op,type,pos,after,guard⟩ a w v' w'/\V g' w' v v'/\Ext L g w g' w'/\Inv E g' w' s':=by
  intro v' hr hv hs;subst hs;exact⟨v',w,g,.inl hr,hv,Ext.refl _ _ _,hI⟩
 have qk:(∀cs b,op≠.select cs b)->Cw E ρ ⟨dst,op,type,pos,after,guard⟩=some v->s'=s ->
   ∃v' w' g',sJ E ⟨dst,op,type,pos,after,guard⟩ a w v' w'/\V g' w' v v'/\Ext L g w g' w'/\Inv E g' w' s':=by
  intro hs hq hss;obtain⟨v',hr,hv⟩:=Uh hρ (by exact hs) hq;exact still v' hr hv hss
 cases op with
 | move x=>
  simp only[Cc,BG,BK] at h;obtain⟨rfl,rfl⟩:=h;exact still _ (by rfl) (Aj hρ x) rfl
 | assign x=>
  simp only[Cc,BG,BK] at h;obtain⟨rfl,rfl⟩:=h;exact still _ (by rfl) (Aj hρ x) rfl
 | pick c x y=>
  simp only[Cc] at h;split at h
  .rename_i t hc
   simp only[BG,BK] at h;obtain⟨rfl,rfl⟩:=h;have hcv:=Aj hρ c;rw[hc] at hcv;have hcv:=hcv.C2;cases t
   .exact still _ (by simp[*,execOp,asBool]) (Aj hρ y) rfl
   .simp_all[execOp,asBool,Aj]
  .grind
 | alloc t=>
  simp only[Cc] at h;split at h
  .rename_i z hz
   simp only[G9,BG,BK] at h;obtain⟨rfl,rfl⟩:=h;obtain⟨i,zv,hi,nR,hrun,hvl⟩:=Dv (g:=g) (w:=w) hz;obtain⟨e1,e2⟩:=hI.Rz (L:=L) t hvl.full.1 hvl.full.2;have hb:(g.Fg s.bs.length w.heap.size hI.fresh).blk s.bs.length=some w.heap.size:=by simp[AH.Fg]
   have hsh:(CW w zv.cells.toList t).shape? w.heap.size=some (t,z.length):=by
    simp[World.shape?,CD,hvl.len]
   refine⟨.pointer (some ⟨w.heap.size,0,none⟩),_,_,.inl ?_,V.ptr (b:=w.heap.size) hb,e1,e2.Mt hb hsh⟩;simp[execOp,Instr.alloc,hrun,newVar,newRow,CW]
  .grind
 | box t x=>
  simp only[Cc] at h;split at h
  .rename_i hok
   simp only[G9,BG,BK] at h;obtain⟨rfl,rfl⟩:=h;have hvl:=ES (Aj hρ x) hok;obtain⟨e1,e2⟩:=hI.Rz (L:=L) t hvl.full.1 hvl.full.2;have hb:(g.Fg s.bs.length w.heap.size hI.fresh).blk s.bs.length=some w.heap.size:=by simp[AH.Fg]
   have hsh:(CW w (a.eval x).cells.toList t).shape? w.heap.size=some (t,(cellsOf (Ag ρ x)).length):=by
    simp[World.shape?,CD,hvl.len]
   refine⟨.pointer (some ⟨w.heap.size,0,none⟩),_,_,.inl ?_,V.ptr (b:=w.heap.size) hb,e1,e2.Mt hb hsh⟩;simp[execOp,Instr.box,newVar,newRow,CW]
  .grind
 | build t parts=>
  simp only[Cc] at h;obtain⟨h,hs⟩:=same _ h;obtain⟨hk,hv⟩:=VE hρ parts;obtain⟨v',hr,PX⟩:=XX hk hv h;rw[G2] at hr;exact still v' (by grind[execOp,Sem.run_bind,Result.andThen_ok,Sem.run_pure]) PX hs
 | buildSlice t len parts=>
  simp only[Cc] at h;obtain⟨hk,hv⟩:=VE hρ parts;obtain⟨v',w',g',hr,PX,he,hi'⟩:=OG (L:=L) hI hk hv h;rw[G2] at hr;exact⟨v',w',g',.inl (by simp only[execOp,Sem.run_bind,hr,Result.andThen_ok,Sem.run_pure]),PX,he,hi'⟩
 | load t x=>
  simp only[Cc] at h;obtain⟨h,hs⟩:=same _ h;obtain⟨v',hr,hv⟩:=QS hI (Aj hρ x) h;exact still v' (by simp[*,execOp]) hv hs
 | store t x y=>
  simp only[Cc] at h;split at h
  .rename_i s1 hst
   simp only[BG,BK] at h;obtain⟨rfl,rfl⟩:=h;obtain⟨w',hr,he,hi'⟩:=XT hI (Aj hρ x) (Aj hρ y) hst;exact⟨undef,w',g,.inr ⟨by simp[execOp,hr],rfl⟩,V.undef,he,hi'⟩
  .grind
 | nilCheck x=>
  simp only[Cc] at h;obtain⟨h,hs⟩:=same _ h;obtain⟨v',hr,hv⟩:=Li ⟨dst,.nilCheck x,type,pos,after,guard⟩ rfl hI hρ h;exact still v' (hr w) hv hs
 | fieldAddr t x f=>
  simp only[Cc] at h;obtain⟨h,hs⟩:=same _ h;obtain⟨v',hr,hv⟩:=KN hI (Aj hρ x) h;exact still v' (by simp[*,execOp]) hv hs
 | field t x f=>
  simp only[Cc] at h;obtain⟨h,hs⟩:=same _ h;obtain⟨v',hr,hv⟩:=XW (Aj hρ x) h;exact still v' (by simp[*,execOp]) hv hs
 | indexAddr t x i=>
  simp only[Cc] at h;obtain⟨h,hs⟩:=same _ h;obtain⟨v',hr,hv⟩:=PI hI (Aj hρ x) (Aj hρ i) h;exact still v' (by simp[*,execOp]) hv hs
 | extract x i=>
  simp only[Cc] at h;obtain⟨h,hs⟩:=same _ h;have hx:=Aj hρ x;cases hev:Ag ρ x with
  | tuple vs=>
   rw[hev] at hx;rw[hev] at h;simp only[Ld] at h;obtain⟨us,hu,hvl⟩:=hx.PG;obtain⟨u,h1,h2⟩:=hvl.get h;exact still u (by simp[*,execOp,Instr.extract]) h2 hs
  | _=>rw[hev] at h; simp[Ld] at h
 | makeFunc fn first captured=>
  simp only[Cc,BG,BK] at h;obtain⟨rfl,rfl⟩:=h;have h1:=PM hρ first.toList;have h2:=PM hρ captured.toList;refine still (.func fn (first.map a.eval) (captured.map a.eval)) (by simp[execOp,Instr.makeFunc]) ?_ rfl;have:=V.func (g:=g) (w:=w) (fn:=fn) h1.len h2.len h1.at_ h2.at_;have e1:(List.map a.eval first.toList).toArray=first.map a.eval:=by apply MJ; simp
  have e2:(List.map a.eval captured.toList).toArray=captured.map a.eval:=by apply MJ; simp
  rw[e1,e2] at this;exact this
 | makeInterface t x=>
  simp only[Cc] at h;split at h
  .simp at h
  .rename_i d hne hu
   simp only[BG,BK] at h;obtain⟨rfl,rfl⟩:=h;refine still (.iface t (a.eval x)) ?_ (.iface (Aj hρ x)) rfl;simp only[execOp,Instr.makeInterface,Sem.run_bind,run_underlying hu,Result.andThen_ok];cases d <;> first|rfl|exact absurd rfl (hne _)
  .simp at h
 | slice t x lo hi mx=>
  simp only[Cc] at h;split at h
  .rename_i u hsl
   simp only[BG,BK] at h;obtain⟨rfl,rfl⟩:=h
   have opt:∀(q:Option Operand),(∀b,q.map (Ag ρ)=some b->∃c,q.map a.eval=some c/\V g w b c)/\(q.map (Ag ρ)=none->q.map a.eval=none):=by
    intro q;cases q with
    | none=>exact⟨by simp,λ_=>rfl⟩
    | some z=>exact⟨λb hb=>by simp at hb; subst hb; exact⟨_,rfl,Aj hρ z⟩,by simp⟩
   obtain⟨v',hr,hv⟩:=Xl hI (Aj hρ x) (opt lo).1 (opt lo).2 (opt hi).1 (opt hi).2 (opt mx).1 (opt mx).2 hsl;exact still v' (by simp[execOp,hr]) hv rfl
  .obtain⟨h,hs⟩:=same _ h
   exact qk (by simp) h hs
 | binOp op t x y yt=>
  simp only[Cc] at h;split at h
  .rename_i u hf
   simp only[BG,BK] at h;obtain⟨rfl,rfl⟩:=h;obtain⟨h1,h2⟩:=M0 (P:=E.P) (t:=t) (Aj hρ x) (Aj hρ y) hf;exact still u (by simp only[execOp,Sem.run_bind,h2,Result.andThen_ok,h1,Sem.run_pure]) (V.J1 _) rfl
  split at h
  .rename_i u hn
   simp only[BG,BK] at h;obtain⟨rfl,rfl⟩:=h;unfold II at hn;cases hb:(sameKind (C5 E.P t) (D4 s (Ag ρ x)) (FT ρ y)||sameKind (C5 E.P t) (FT ρ x) (D4 s (Ag ρ y))) with
   | false=>simp[hb] at hn
   | true=>
    simp only[hb,AN] at hn
    have heq:(Op.equal t (a.eval x) (a.eval y)).run E.P w=.ok false w/\(∀q,(eqGuard q t x y (a.eval x) (a.eval y)).run E.P w=.ok () w) /\
      binOp .eql t (a.eval x) (a.eval y)=(do pure (.bool (<-Op.equal t (a.eval x) (a.eval y))))/\binOp .neq t (a.eval x) (a.eval y)=(do pure (.bool (!(<-Op.equal t (a.eval x) (a.eval y))))):=by
     rw[Dk] at hb;rcases hb with hb|hb
     .obtain⟨k,h1,h2,h3⟩:=Eo hb
      have a1:=Lo hI (Aj hρ x) h2;have a2:=Mz hρ h3;refine⟨(VM h1 a1 a2).1,λq=>?_,(VN a1 a2).1⟩;rcases a1 with ⟨_,_,e⟩|⟨_,_,_,_,e⟩|⟨_,_,_,_,e⟩|⟨_,_,_,e⟩ <;> rw[e] <;> (unfold eqGuard; split <;> simp)
     .obtain⟨k,h1,h2,h3⟩:=Eo hb
      have a1:=Lo hI (Aj hρ y) h3;have a2:=Mz hρ h2;refine⟨(VM h1 a1 a2).2,λq=>?_,(VN a1 a2).2⟩;rcases a1 with ⟨_,_,e⟩|⟨_,_,_,_,e⟩|⟨_,_,_,_,e⟩|⟨_,_,_,e⟩ <;> rw[e] <;> simp[*,eqGuard]
    obtain⟨he,hg,b1,b2⟩:=heq;split at hn
    .simp at hn; subst hn
     refine still (.bool false) ?_ (V.J1 _) rfl;simp only[execOp,Sem.run_bind,hg,Result.andThen_ok,b1,he,Sem.run_pure]
    .simp at hn; subst hn
     refine still (.bool true) ?_ (V.J1 _) rfl;simp only[execOp,Sem.run_bind,hg,Result.andThen_ok,b2,he,Sem.run_pure,W6]
    .grind
  .obtain⟨h,hs⟩:=same _ h
   exact qk (by simp) h hs
 | unOp op t x=>
  simp only[Cc] at h;split at h
  .rename_i u hf
   simp only[BG,BK] at h;obtain⟨rfl,rfl⟩:=h;exact still u (by simp only[execOp,Sem.run_bind,Xm (Aj hρ x) hf,Result.andThen_ok,Sem.run_pure]) (V.J1 _) rfl
  .obtain⟨h,hs⟩:=same _ h
   exact qk (by simp) h hs
 | index t x i=>
  simp only[Cc] at h;split at h
  .rename_i u hf
   simp only[BG,BK] at h;obtain⟨rfl,rfl⟩:=h;exact still u (by simp only[execOp,Sem.run_bind,Q0 (Aj hρ x) (Aj hρ i) hf,Result.andThen_ok,Sem.run_pure]) (V.J1 _) rfl
  .obtain⟨h,hs⟩:=same _ h
   exact qk (by simp) h hs
 | convert sa sb x=>
  simp only[Cc] at h;obtain⟨h,hs⟩:=same _ h;exact qk (by simp) h hs
 | call c=>
  obtain⟨callee,args,argTypes⟩:=c;cases callee with
  | value f=>simp[Cc] at h
  | invoke r n=>simp[Cc] at h
  | builtin b=>
   cases b with
   | len=>
    simp only[Cc] at h;split at h
    .rename_i x t ha ht
     split at h
     .rename_i u hf
      simp only[BG,BK] at h;obtain⟨rfl,rfl⟩:=h;have Ir:args=#[x]:=by rw[<-G2 (xs:=args),ha]
      have ht':argTypes=#[t]:=by rw[<-G2 (xs:=argTypes),ht]
      subst Ir ht';refine still u ?_ (V.J1 _) rfl;have:=Uk (P:=E.P) (ty:=type) (Aj hρ x) hf;simp[execOp,resolve,invoke,builtin,this]
     split at h
     .rename_i e n hu hl
      simp only[BG,BK] at h;obtain⟨rfl,rfl⟩:=h;obtain⟨c1,c2,hq⟩:=eO hI (Aj hρ x) hl;have Ir:args=#[x]:=by rw[<-G2 (xs:=args),ha]
      have ht':argTypes=#[t]:=by rw[<-G2 (xs:=argTypes),ht]
      subst Ir ht';refine still (.int .i64 n) ?_ (V.J1 _) rfl;simp[execOp,resolve,invoke,builtin,Builtin.len_,run_underlying hu,hq,goInt]
     .obtain⟨h,hs⟩:=same _ h
      exact qk (by simp) h hs
    .grind
   | append=>
    simp only[Cc] at h;split at h
    .rename_i x y t u ts ha ht
     split at h
     .simp at h
     .rename_i d hd hu
      obtain⟨v',w',g',hr,hv,hex,hi'⟩:=Mv (T:=type) (ts:=ts) hI (Aj hρ x) (Aj hρ y) hu (λk e=>hd k e) h;have Ir:args=#[x,y]:=by rw[<-G2 (xs:=args),ha]
      have ht':argTypes=(t::u::ts).toArray:=by rw[<-G2 (xs:=argTypes),ht]
      subst Ir ht';refine⟨v',w',g',.inl ?_,hv,hex,hi'⟩;simp[execOp,resolve,invoke,builtin,hr]
     .grind
    .grind
   | delete=>
    simp[Cc] at h
   | _=>
    simp only[Cc] at h;obtain⟨h,hs⟩:=same _ h;exact qk (by simp) h hs
 | _=>simp[Cc] at h
end Go.Tel
