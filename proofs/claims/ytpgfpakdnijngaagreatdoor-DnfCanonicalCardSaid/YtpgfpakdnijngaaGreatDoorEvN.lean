/-
  Single operations, part 12: the theorem.
-/
import Derived.Test.YtpgfpakdnijngaaGreatDoorEvL
import Derived.Laws.Strings
set_option linter.all false
namespace Go.Tel
theorem fE {g:AI} {w:World} {x:AV} {v u:Value} (h:V g w x v) (hc:HJ x=some u):v=u:=by
 unfold HJ at hc;split at hc
 .simp at hc; subst hc; exact h.Cx
 grind
theorem Uw {E:Env} {g:AI} {w:World} {ρ:Nat->AV} {a:Act} (hρ:∀t,V g w (ρ t) (a.tmps.getD t undef)) {o:Oper} {v:AV} (hs:∀cs b,o.op≠.select cs b)
  (h:Cs E ρ o=some v):∃v',(execOp a.eval o).run E.P w=.ok (.value v') w/\V g w v v':=by
 unfold Cs at h;split at h
 .rename_i hall
  split at h
  .rename_i u hq
   simp at h; subst h;refine⟨u,?_,V.M5 u⟩;rw[execOp_congr o hs (ρ:=a.eval) (ρ':=λx=>(HJ (AX ρ x)).getD undef) (λx hx=>?_)]
   .grind[VV]
   .have:=De.1 hall x (by grind)
    cases hc:HJ (AX ρ x) with
    | none=>grind
    | some u=>exact fE (Ae hρ x) hc
  grind
 grind
theorem wrap_small {n:Nat} (h:n<9223372036854775808):IntKind.wrap .i64 (Int.ofNat n)=Int.ofNat n:=by grind[IntKind.wrap,IntKind.bits]
theorem L2 {k k':IntKind} (h:Nat.beq (GF k) (GF k')=true):k=k':=by
 cases k <;> cases k' <;> simp_all[GF]
theorem Ux {P:Program} {w:World} {k:IntKind} {op:BinOp} {t:TypeId} {a b:Nat} {v:Value} (h:Xf k op a b=some v) :
  (binOp op t (.int k (.ofNat a)) (.int k (.ofNat b))).run P w=.ok v w:=by
 have hb:∀c d:Nat,Nat.beq c d=decide (Int.ofNat c=Int.ofNat d):=λc d=>by grind[Nat.beq_eq]
 have hl:∀c d:Nat,Nat.blt c d=decide (Int.ofNat c<Int.ofNat d):=λc d=>by grind[Nat.blt_eq]
 have hle:∀c d:Nat,Nat.ble c d=decide (Int.ofNat c<=Int.ofNat d):=λc d=>by
  rw[OB,Nat.ble_eq]; simp
 cases op <;> simp only[Xf,reduceCtorEq] at h
 case add=>
  grind[GF,L2,wrap_small,binOp,Op.intArith,Sem.run_pure]
 case sub=>
  grind[GF,L2,wrap_small,binOp,Op.intArith,Sem.run_pure]
 all_goals
  grind[binOp,Op.intCmp,Sem.run_pure]
theorem Uy {P:Program} {w:World} {op:BinOp} {t:TypeId} {a b:ByteArray} {v:Value} (h:Xg op a.data.toList b.data.toList=some v):(binOp op t (.string a) (.string b)).run P w=.ok v w:=by
 cases op <;> simp only[Xg,reduceCtorEq,Aw] at h
 all_goals
  grind[binOp,Op.stringOp,Sem.run_pure,Go.ByteArray.toList_eq,Qp,Sr]
theorem NF {P:Program} {g:AI} {w:World} {op:BinOp} {t:TypeId} {x y:AV} {xv yv v:Value} (hx:V g w x xv) (hy:V g w y yv) (h:Ii op x y=some v) :
  (binOp op t xv yv).run P w=.ok v w/\∀a b,(eqGuard op t a b xv yv).run P w=.ok () w:=by
 unfold Ii at h;split at h
 .rename_i k a k' b
  rw[hx.Cx,hy.Cx];cases hk:Nat.beq (GF k) (GF k') with
  | false=>grind
  | true=>
   rw[hk] at h;have:=L2 hk;subst this;refine⟨Ux h,λa b=>?_⟩;simp[*,eqGuard]
 .rw[hx.Cx,hy.Cx]
  simp[*,Uy,eqGuard]
 grind
theorem X5 {P:Program} {g:AI} {w:World} {op:UnOp} {x:AV} {xv v:Value} (hx:V g w x xv) (h:Xh op x=some v):(Op.unary op xv).run P w=.ok v w:=by
 unfold Xh at h;split at h
 .rw[hx.Cx]
  split at h
  all_goals simp_all[Op.unary]
 grind
theorem RI {P:Program} {g:AI} {w:World} {t:TypeId} {x i:AV} {xv iv v:Value} (hx:V g w x xv) (hi:V g w i iv) (h:Mf P t x i=some v):(Instr.index t xv iv).run P w=.ok v w:=by
 unfold Mf at h;split at h
 .rename_i b k n
  rw[hx.Cx,hi.Cx];split at h
  .rename_i c hu hc
   simp at h; subst h
   have hs:b[n]?=some c:=by
    have hlt:=(BL.1 hc).1;have he:=(BL.1 hc).2;have hlt':n<b.size:=by simp_all
    rw[getElem?_pos b n hlt'];rw[<-he];rfl
   simp[*,Instr.index,asIntOf,run_underlying]
  grind
 grind
theorem Uz {P:Program} {g:AI} {w:World} {t ty:TypeId} {x:AV} {xv v:Value} (hx:V g w x xv) (h:Mg P t x=some v):(Builtin.len_ #[t] ty #[xv]).run P w=.ok v w:=by
 unfold Mg at h;split at h
 .rename_i b
  rw[hx.Cx];split at h
  all_goals simp_all[Builtin.len_,run_underlying,goInt]
 grind
theorem Pg {g:AI} {w:World} {ρ:Nat->AV} {a:Act} (hρ:∀t,V g w (ρ t) (a.tmps.getD t undef)) (xs:List Operand):VL g w (xs.map (AX ρ)) (xs.map a.eval):=by
 induction xs with
 | nil=>exact .nil
 | cons x xs ih=>exact .cons (Ae hρ x) ih
theorem fF {E:Env} {g:AI} {w:World} {s:AM} (hI:Inv E g w s) {x:AV} {v:Value} {n:Nat} (hx:V g w x v) (h:BN s x=some n):∃a c,v=.slice a n c:=by
 unfold BN at h;split at h
 .rename_i id off len sz
  cases hal:Tel.alive s id with
  | false=>grind
  | true=>
   simp[hal] at h; subst h;cases hx with
   | Il hd=>exact absurd hd (hI.alive hal)
   | ref=>simp
 grind[Dp]
theorem Lv {E:Env} {g:AI} {w:World} {s:AM} {ρ:Nat->AV} {a:Act} {x:Operand} {v:AV} (o:Oper) (ho:o.op=.nilCheck x) (hI:Inv E g w s) (hρ:∀t,V g w (ρ t) (a.tmps.getD t undef))
  (h:KF s (AX ρ x)=some v):∃v',(∀w2:World,(execOp a.eval o).run E.P w2=.ok (.value v') w2)/\V g w v v':=by
 obtain⟨dst,op,type,pos,after,guard⟩:=o;simp only at ho;subst ho;have hx:=Ae hρ x;unfold KF at h;split at h
 .rename_i id off e
  rw[e] at hx;cases hal:Tel.alive s id with
  | false=>grind
  | true=>
   simp[hal] at h; subst h;generalize Su:a.eval x=v0 at hx;cases hx with
   | KM hd=>exact absurd hd (hI.alive hal)
   | ptr hb=>exact⟨_,λw2=>by simp[*,execOp],.ptr hb⟩
 .rename_i e
  rw[e] at hx;simp at h; subst h;generalize Su:a.eval x=v0 at hx;cases hx with|DM=>exact⟨_,λw2=>by simp[*,execOp],.DM _ _⟩
 .rename_i e
  rw[e] at hx;simp at h; subst h;generalize Su:a.eval x=v0 at hx;cases hx with|C8 _ f hr=>exact⟨_,λw2=>by grind[execOp,Sem.run_pure],.C8 _ f hr⟩
 .rename_i e
  rw[e] at hx;simp at h; subst h;generalize Su:a.eval x=v0 at hx;cases hx with|func h1 h2 h3 h4=>exact⟨_,λw2=>by simp[*,execOp],.func h1 h2 h3 h4⟩
 grind
theorem nx {E:Env} {L:A3} {g:AI} {w:World} {s s':AM} {ρ:Nat->AV} {a:Act} {o:Oper} {v:AV} (hI:Inv E g w s) (hρ:∀t,V g w (ρ t) (a.tmps.getD t undef))
  (h:Ca E L ρ s o=some (v,s')):∃v' w' g',tK E o a w v' w'/\V g' w' v v'/\Ext L g w g' w'/\Inv E g' w' s':=by
 obtain⟨dst,op,type,pos,after,guard⟩:=o
 have same:∀(r:Option AV),(match r with|some v=>some (v,s)|none=>none)=some (v,s')->r=some v/\s'=s:=by
  intro r hr;cases r with
  | none=>grind
  | some u=>grind
 have still:∀(v':Value),(execOp a.eval ⟨dst,op,type,pos,after,guard⟩).run E.P w=.ok (.value v') w->V g w v v'->s'=s ->
   ∃v' w' g',tK E ⟨dst,op,type,pos,after,guard⟩ a w v' w'/\V g' w' v v'/\Ext L g w g' w'/\Inv E g' w' s':=by
  intro v' hr hv hs;subst hs;exact⟨v',w,g,.inl hr,hv,Ext.refl _ _ _,hI⟩
 have qk:(∀cs b,op≠.select cs b)->Cs E ρ ⟨dst,op,type,pos,after,guard⟩=some v->s'=s ->
   ∃v' w' g',tK E ⟨dst,op,type,pos,after,guard⟩ a w v' w'/\V g' w' v v'/\Ext L g w g' w'/\Inv E g' w' s':=by
  intro hs hq hss;obtain⟨v',hr,hv⟩:=Uw hρ (by exact hs) hq;exact still v' hr hv hss
 cases op with
 | move x=>
  simp only[Ca,Aw,A4] at h;obtain⟨rfl,rfl⟩:=h;exact still _ (by rfl) (Ae hρ x) rfl
 | assign x=>
  simp only[Ca,Aw,A4] at h;obtain⟨rfl,rfl⟩:=h;exact still _ (by rfl) (Ae hρ x) rfl
 | pick c x y=>
  simp only[Ca] at h;split at h
  .rename_i t hc
   simp only[Aw,A4] at h;obtain⟨rfl,rfl⟩:=h;have hcv:=Ae hρ c;rw[hc] at hcv;have hcv:=hcv.Cx;cases t
   .exact still _ (by simp[*,execOp,asBool]) (Ae hρ y) rfl
   .simp_all[execOp,asBool,Ae]
  .grind
 | alloc t=>
  simp only[Ca] at h;split at h
  .rename_i z hz
   simp only[G0,Aw,A4] at h;obtain⟨rfl,rfl⟩:=h;obtain⟨i,zv,hi,nu,hrun,hvl⟩:=Dn (g:=g) (w:=w) hz;obtain⟨e1,e2⟩:=hI.SL (L:=L) t hvl.full.1 hvl.full.2;have hb:(g.Ff s.bs.length w.heap.size hI.fresh).blk s.bs.length=some w.heap.size:=by simp[AI.Ff]
   have hsh:(CV w zv.cells.toList t).shape? w.heap.size=some (t,z.length):=by
    simp[World.shape?,B5,hvl.len]
   refine⟨.pointer (some ⟨w.heap.size,0,none⟩),_,_,.inl ?_,V.ptr (b:=w.heap.size) hb,e1,e2.M6 hb hsh⟩;simp[execOp,Instr.alloc,hrun,newVar,newRow,CV]
  .grind
 | box t x=>
  simp only[Ca] at h;split at h
  .rename_i hok
   simp only[G0,Aw,A4] at h;obtain⟨rfl,rfl⟩:=h;have hvl:=EO (Ae hρ x) hok;obtain⟨e1,e2⟩:=hI.SL (L:=L) t hvl.full.1 hvl.full.2;have hb:(g.Ff s.bs.length w.heap.size hI.fresh).blk s.bs.length=some w.heap.size:=by simp[AI.Ff]
   have hsh:(CV w (a.eval x).cells.toList t).shape? w.heap.size=some (t,(cellsOf (AX ρ x)).length):=by
    simp[World.shape?,B5,hvl.len]
   refine⟨.pointer (some ⟨w.heap.size,0,none⟩),_,_,.inl ?_,V.ptr (b:=w.heap.size) hb,e1,e2.M6 hb hsh⟩;simp[execOp,Instr.box,newVar,newRow,CV]
  .grind
 | build t parts=>
  simp only[Ca] at h;obtain⟨h,hs⟩:=same _ h;obtain⟨hk,hv⟩:=VX hρ parts;obtain⟨v',hr,Lj⟩:=Xq hk hv h;rw[G6] at hr;exact still v' (by grind[execOp,Sem.run_bind,Result.andThen_ok,Sem.run_pure]) Lj hs
 | buildSlice t len parts=>
  simp only[Ca] at h;obtain⟨hk,hv⟩:=VX hρ parts;obtain⟨v',w',g',hr,Lj,he,hi'⟩:=OO (L:=L) hI hk hv h;rw[G6] at hr;exact⟨v',w',g',.inl (by simp only[execOp,Sem.run_bind,hr,Result.andThen_ok,Sem.run_pure]),Lj,he,hi'⟩
 | load t x=>
  simp only[Ca] at h;obtain⟨h,hs⟩:=same _ h;obtain⟨v',hr,hv⟩:=Ls hI (Ae hρ x) h;exact still v' (by simp[*,execOp]) hv hs
 | store t x y=>
  simp only[Ca] at h;split at h
  .rename_i s1 hst
   simp only[Aw,A4] at h;obtain⟨rfl,rfl⟩:=h;obtain⟨w',hr,he,hi'⟩:=Xm hI (Ae hρ x) (Ae hρ y) hst;exact⟨undef,w',g,.inr ⟨by simp[execOp,hr],rfl⟩,V.undef,he,hi'⟩
  .grind
 | nilCheck x=>
  simp only[Ca] at h;obtain⟨h,hs⟩:=same _ h;obtain⟨v',hr,hv⟩:=Lv ⟨dst,.nilCheck x,type,pos,after,guard⟩ rfl hI hρ h;exact still v' (hr w) hv hs
 | fieldAddr t x f=>
  simp only[Ca] at h;obtain⟨h,hs⟩:=same _ h;obtain⟨v',hr,hv⟩:=KN hI (Ae hρ x) h;exact still v' (by simp[*,execOp]) hv hs
 | field t x f=>
  simp only[Ca] at h;obtain⟨h,hs⟩:=same _ h;obtain⟨v',hr,hv⟩:=Xp (Ae hρ x) h;exact still v' (by simp[*,execOp]) hv hs
 | indexAddr t x i=>
  simp only[Ca] at h;obtain⟨h,hs⟩:=same _ h;obtain⟨v',hr,hv⟩:=Pb hI (Ae hρ x) (Ae hρ i) h;exact still v' (by simp[*,execOp]) hv hs
 | extract x i=>
  simp only[Ca] at h;obtain⟨h,hs⟩:=same _ h;have hx:=Ae hρ x;cases hev:AX ρ x with
  | tuple vs=>
   rw[hev] at hx;rw[hev] at h;simp only[Lr] at h;obtain⟨us,hu,hvl⟩:=hx.Pa;obtain⟨u,h1,h2⟩:=hvl.get h;exact still u (by simp[*,execOp,Instr.extract]) h2 hs
  | _=>rw[hev] at h; simp[Lr] at h
 | makeFunc fn first captured=>
  simp only[Ca,Aw,A4] at h;obtain⟨rfl,rfl⟩:=h;have h1:=Pg hρ first.toList;have h2:=Pg hρ captured.toList;refine still (.func fn (first.map a.eval) (captured.map a.eval)) (by simp[execOp,Instr.makeFunc]) ?_ rfl;have:=V.func (g:=g) (w:=w) (fn:=fn) h1.len h2.len h1.at_ h2.at_;have e1:(List.map a.eval first.toList).toArray=first.map a.eval:=by apply MU; simp
  have e2:(List.map a.eval captured.toList).toArray=captured.map a.eval:=by apply MU; simp
  rw[e1,e2] at this;exact this
 | makeInterface t x=>
  simp only[Ca] at h;split at h
  .simp at h
  .rename_i d hne hu
   simp only[Aw,A4] at h;obtain⟨rfl,rfl⟩:=h;refine still (.iface t (a.eval x)) ?_ (.iface (Ae hρ x)) rfl;simp only[execOp,Instr.makeInterface,Sem.run_bind,run_underlying hu,Result.andThen_ok];cases d <;> first|rfl|exact absurd rfl (hne _)
  .simp at h
 | slice t x lo hi mx=>
  simp only[Ca] at h;split at h
  .rename_i u hsl
   simp only[Aw,A4] at h;obtain⟨rfl,rfl⟩:=h
   have opt:∀(q:Option Operand),(∀b,q.map (AX ρ)=some b->∃c,q.map a.eval=some c/\V g w b c)/\(q.map (AX ρ)=none->q.map a.eval=none):=by
    intro q;cases q with
    | none=>exact⟨by simp,λ_=>rfl⟩
    | some z=>exact⟨λb hb=>by simp at hb; subst hb; exact⟨_,rfl,Ae hρ z⟩,by simp⟩
   obtain⟨v',hr,hv⟩:=X4 hI (Ae hρ x) (opt lo).1 (opt lo).2 (opt hi).1 (opt hi).2 (opt mx).1 (opt mx).2 hsl;exact still v' (by simp[execOp,hr]) hv rfl
  .obtain⟨h,hs⟩:=same _ h
   exact qk (by simp) h hs
 | binOp op t x y yt=>
  simp only[Ca] at h;split at h
  .rename_i u hf
   simp only[Aw,A4] at h;obtain⟨rfl,rfl⟩:=h;obtain⟨h1,h2⟩:=NF (P:=E.P) (t:=t) (Ae hρ x) (Ae hρ y) hf;exact still u (by simp only[execOp,Sem.run_bind,h2,Result.andThen_ok,h1,Sem.run_pure]) (V.Iz _) rfl
  split at h
  .rename_i u hn
   simp only[Aw,A4] at h;obtain⟨rfl,rfl⟩:=h;unfold IP at hn;cases hb:(sameKind (C4 E.P t) (Dv s (AX ρ x)) (FM ρ y)||sameKind (C4 E.P t) (FM ρ x) (Dv s (AX ρ y))) with
   | false=>simp[hb] at hn
   | true=>
    simp only[hb,AH] at hn
    have heq:(Op.equal t (a.eval x) (a.eval y)).run E.P w=.ok false w/\(∀q,(eqGuard q t x y (a.eval x) (a.eval y)).run E.P w=.ok () w) /\
      binOp .eql t (a.eval x) (a.eval y)=(do pure (.bool (<-Op.equal t (a.eval x) (a.eval y))))/\binOp .neq t (a.eval x) (a.eval y)=(do pure (.bool (!(<-Op.equal t (a.eval x) (a.eval y))))):=by
     rw[DX] at hb;rcases hb with hb|hb
     .obtain⟨k,h1,h2,h3⟩:=Eg hb
      have a1:=L1 hI (Ae hρ x) h2;have a2:=ND hρ h3;refine⟨(Ve h1 a1 a2).1,λq=>?_,(Vf a1 a2).1⟩;rcases a1 with ⟨_,_,e⟩|⟨_,_,_,_,e⟩|⟨_,_,_,_,e⟩|⟨_,_,_,e⟩ <;> rw[e] <;> (unfold eqGuard; split <;> simp)
     .obtain⟨k,h1,h2,h3⟩:=Eg hb
      have a1:=L1 hI (Ae hρ y) h3;have a2:=ND hρ h2;refine⟨(Ve h1 a1 a2).2,λq=>?_,(Vf a1 a2).2⟩;rcases a1 with ⟨_,_,e⟩|⟨_,_,_,_,e⟩|⟨_,_,_,_,e⟩|⟨_,_,_,e⟩ <;> rw[e] <;> simp[*,eqGuard]
    obtain⟨he,hg,b1,b2⟩:=heq;split at hn
    .simp at hn; subst hn
     refine still (.bool false) ?_ (V.Iz _) rfl;simp only[execOp,Sem.run_bind,hg,Result.andThen_ok,b1,he,Sem.run_pure]
    .simp at hn; subst hn
     refine still (.bool true) ?_ (V.Iz _) rfl;simp only[execOp,Sem.run_bind,hg,Result.andThen_ok,b2,he,Sem.run_pure,OC]
    .grind
  .obtain⟨h,hs⟩:=same _ h
   exact qk (by simp) h hs
 | unOp op t x=>
  simp only[Ca] at h;split at h
  .rename_i u hf
   simp only[Aw,A4] at h;obtain⟨rfl,rfl⟩:=h;exact still u (by simp only[execOp,Sem.run_bind,X5 (Ae hρ x) hf,Result.andThen_ok,Sem.run_pure]) (V.Iz _) rfl
  .obtain⟨h,hs⟩:=same _ h
   exact qk (by simp) h hs
 | index t x i=>
  simp only[Ca] at h;split at h
  .rename_i u hf
   simp only[Aw,A4] at h;obtain⟨rfl,rfl⟩:=h;exact still u (by simp only[execOp,Sem.run_bind,RI (Ae hρ x) (Ae hρ i) hf,Result.andThen_ok,Sem.run_pure]) (V.Iz _) rfl
  .obtain⟨h,hs⟩:=same _ h
   exact qk (by simp) h hs
 | convert sa sb x=>
  simp only[Ca] at h;obtain⟨h,hs⟩:=same _ h;exact qk (by simp) h hs
 | call c=>
  obtain⟨callee,args,argTypes⟩:=c;cases callee with
  | value f=>simp[Ca] at h
  | invoke r n=>simp[Ca] at h
  | builtin b=>
   cases b with
   | len=>
    simp only[Ca] at h;split at h
    .rename_i x t ha ht
     split at h
     .rename_i u hf
      simp only[Aw,A4] at h;obtain⟨rfl,rfl⟩:=h;have Jb:args=#[x]:=by rw[<-G6 (xs:=args),ha]
      have ht':argTypes=#[t]:=by rw[<-G6 (xs:=argTypes),ht]
      subst Jb ht';refine still u ?_ (V.Iz _) rfl;have:=Uz (P:=E.P) (ty:=type) (Ae hρ x) hf;simp[execOp,resolve,invoke,builtin,this]
     split at h
     .rename_i e n hu hl
      simp only[Aw,A4] at h;obtain⟨rfl,rfl⟩:=h;obtain⟨c1,c2,hq⟩:=fF hI (Ae hρ x) hl;have Jb:args=#[x]:=by rw[<-G6 (xs:=args),ha]
      have ht':argTypes=#[t]:=by rw[<-G6 (xs:=argTypes),ht]
      subst Jb ht';refine still (.int .i64 n) ?_ (V.Iz _) rfl;simp[execOp,resolve,invoke,builtin,Builtin.len_,run_underlying hu,hq,goInt]
     .obtain⟨h,hs⟩:=same _ h
      exact qk (by simp) h hs
    .grind
   | append=>
    simp only[Ca] at h;split at h
    .rename_i x y t u ts ha ht
     split at h
     .simp at h
     .rename_i d hd hu
      obtain⟨v',w',g',hr,hv,hex,hi'⟩:=NA (T:=type) (ts:=ts) hI (Ae hρ x) (Ae hρ y) hu (λk e=>hd k e) h;have Jb:args=#[x,y]:=by rw[<-G6 (xs:=args),ha]
      have ht':argTypes=(t::u::ts).toArray:=by rw[<-G6 (xs:=argTypes),ht]
      subst Jb ht';refine⟨v',w',g',.inl ?_,hv,hex,hi'⟩;simp[execOp,resolve,invoke,builtin,hr]
     .grind
    .grind
   | delete=>
    simp[Ca] at h
   | _=>
    simp only[Ca] at h;obtain⟨h,hs⟩:=same _ h;exact qk (by simp) h hs
 | _=>simp[Ca] at h
end Go.Tel
