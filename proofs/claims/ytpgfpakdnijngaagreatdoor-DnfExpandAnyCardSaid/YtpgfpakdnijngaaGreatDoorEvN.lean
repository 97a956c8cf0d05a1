/-
  Single operations, part 12: the theorem.
-/
import Derived.Test.YtpgfpakdnijngaaGreatDoorEvL
import Derived.Laws.Strings
set_option linter.all false
namespace Go.Tel
theorem fD {g:AE} {w:World} {x:AV} {v u:Value} (h:V g w x v) (hc:GN x=some u):v=u:=by
 unfold GN at hc;split at hc
 .simp at hc; subst hc; exact h.CQ
 grind
theorem VA {E:Env} {g:AE} {w:World} {ρ:Nat->AV} {a:Act} (hρ:∀t,V g w (ρ t) (a.tmps.getD t undef)) {o:Oper} {v:AV} (hs:∀cs b,o.op≠.select cs b)
  (h:Cy E ρ o=some v):∃v',(execOp a.eval o).run E.P w=.ok (.value v') w/\V g w v v':=by
 unfold Cy at h;split at h
 .rename_i hall
  split at h
  .rename_i u hq
   simp at h; subst h;refine⟨u,?_,V.Lr u⟩;rw[execOp_congr o hs (ρ:=a.eval) (ρ':=λx=>(GN (Ad ρ x)).getD undef) (λx hx=>?_)]
   .grind[Vd]
   .have:=C2.1 hall x (by grind)
    cases hc:GN (Ad ρ x) with
    | none=>grind
    | some u=>exact fD (Aa hρ x) hc
  grind
 grind
theorem wrap_small {n:Nat} (h:n<9223372036854775808):IntKind.wrap .i64 (Int.ofNat n)=Int.ofNat n:=by grind[IntKind.wrap,IntKind.bits]
theorem L6 {k k':IntKind} (h:Nat.beq (GQ k) (GQ k')=true):k=k':=by
 cases k <;> cases k' <;> simp_all[GQ]
theorem VB {P:Program} {w:World} {k:IntKind} {op:BinOp} {t:TypeId} {a b:Nat} {v:Value} (h:Xi k op a b=some v) :
  (binOp op t (.int k (.ofNat a)) (.int k (.ofNat b))).run P w=.ok v w:=by
 have hb:∀c d:Nat,Nat.beq c d=decide (Int.ofNat c=Int.ofNat d):=λc d=>by grind[Nat.beq_eq]
 have hl:∀c d:Nat,Nat.blt c d=decide (Int.ofNat c<Int.ofNat d):=λc d=>by grind[Nat.blt_eq]
 have hle:∀c d:Nat,Nat.ble c d=decide (Int.ofNat c<=Int.ofNat d):=λc d=>by
  rw[OJ,Nat.ble_eq]; simp
 cases op <;> simp only[Xi,reduceCtorEq] at h
 case add=>
  grind[GQ,L6,wrap_small,binOp,Op.intArith,Sem.run_pure]
 case sub=>
  grind[GQ,L6,wrap_small,binOp,Op.intArith,Sem.run_pure]
 all_goals
  grind[binOp,Op.intCmp,Sem.run_pure]
theorem VC {P:Program} {w:World} {op:BinOp} {t:TypeId} {a b:ByteArray} {v:Value} (h:Xj op a.data.toList b.data.toList=some v):(binOp op t (.string a) (.string b)).run P w=.ok v w:=by
 cases op <;> simp only[Xj,reduceCtorEq,Au] at h
 all_goals
  grind[binOp,Op.stringOp,Sem.run_pure,Go.ByteArray.toList_eq,L5,Sx]
theorem NI {P:Program} {g:AE} {w:World} {op:BinOp} {t:TypeId} {x y:AV} {xv yv v:Value} (hx:V g w x xv) (hy:V g w y yv) (h:Ij op x y=some v) :
  (binOp op t xv yv).run P w=.ok v w/\∀a b,(eqGuard op t a b xv yv).run P w=.ok () w:=by
 unfold Ij at h;split at h
 .rename_i k a k' b
  rw[hx.CQ,hy.CQ];cases hk:Nat.beq (GQ k) (GQ k') with
  | false=>grind
  | true=>
   rw[hk] at h;have:=L6 hk;subst this;refine⟨VB h,λa b=>?_⟩;simp[*,eqGuard]
 .rw[hx.CQ,hy.CQ]
  simp[*,VC,eqGuard]
 grind
theorem X8 {P:Program} {g:AE} {w:World} {op:UnOp} {x:AV} {xv v:Value} (hx:V g w x xv) (h:Xk op x=some v):(Op.unary op xv).run P w=.ok v w:=by
 unfold Xk at h;split at h
 .rw[hx.CQ]
  split at h
  all_goals simp_all[Op.unary]
 grind
theorem RN {P:Program} {g:AE} {w:World} {t:TypeId} {x i:AV} {xv iv v:Value} (hx:V g w x xv) (hi:V g w i iv) (h:Me P t x i=some v):(Instr.index t xv iv).run P w=.ok v w:=by
 unfold Me at h;split at h
 .rename_i b k n
  rw[hx.CQ,hi.CQ];split at h
  .rename_i c hu hc
   simp at h; subst h
   have hs:b[n]?=some c:=by
    have hlt:=(BL.1 hc).1;have he:=(BL.1 hc).2;have hlt':n<b.size:=by simp_all
    rw[getElem?_pos b n hlt'];rw[<-he];rfl
   simp[*,Instr.index,asIntOf,run_underlying]
  grind
 grind
theorem VD {P:Program} {g:AE} {w:World} {t ty:TypeId} {x:AV} {xv v:Value} (hx:V g w x xv) (h:Mf P t x=some v):(Builtin.len_ #[t] ty #[xv]).run P w=.ok v w:=by
 unfold Mf at h;split at h
 .rename_i b
  rw[hx.CQ];split at h
  all_goals simp_all[Builtin.len_,run_underlying,goInt]
 grind
theorem Pj {g:AE} {w:World} {ρ:Nat->AV} {a:Act} (hρ:∀t,V g w (ρ t) (a.tmps.getD t undef)) (xs:List Operand):VL g w (xs.map (Ad ρ)) (xs.map a.eval):=by
 induction xs with
 | nil=>exact .nil
 | cons x xs ih=>exact .cons (Aa hρ x) ih
theorem fE {E:Env} {g:AE} {w:World} {s:AL} (hI:Inv E g w s) {x:AV} {v:Value} {n:Nat} (hx:V g w x v) (h:A9 s x=some n):∃a c,v=.slice a n c:=by
 unfold A9 at h;split at h
 .rename_i id off len sz
  cases hal:Tel.alive s id with
  | false=>grind
  | true=>
   simp[hal] at h; subst h;cases hx with
   | Ik hd=>exact absurd hd (hI.alive hal)
   | ref=>simp
 grind[Dy]
theorem Lz {E:Env} {g:AE} {w:World} {s:AL} {ρ:Nat->AV} {a:Act} {x:Operand} {v:AV} (o:Oper) (ho:o.op=.nilCheck x) (hI:Inv E g w s) (hρ:∀t,V g w (ρ t) (a.tmps.getD t undef))
  (h:KM s (Ad ρ x)=some v):∃v',(∀w2:World,(execOp a.eval o).run E.P w2=.ok (.value v') w2)/\V g w v v':=by
 obtain⟨dst,op,type,pos,after,guard⟩:=o;simp only at ho;subst ho;have hx:=Aa hρ x;unfold KM at h;split at h
 .rename_i id off e
  rw[e] at hx;cases hal:Tel.alive s id with
  | false=>grind
  | true=>
   simp[hal] at h; subst h;generalize rF:a.eval x=v0 at hx;cases hx with
   | KU hd=>exact absurd hd (hI.alive hal)
   | ptr hb=>exact⟨_,λw2=>by simp[*,execOp],.ptr hb⟩
 .rename_i e
  rw[e] at hx;simp at h; subst h;generalize rF:a.eval x=v0 at hx;cases hx with|DX=>exact⟨_,λw2=>by simp[*,execOp],.DX _ _⟩
 .rename_i e
  rw[e] at hx;simp at h; subst h;generalize rF:a.eval x=v0 at hx;cases hx with|Cn _ f hr=>exact⟨_,λw2=>by grind[execOp,Sem.run_pure],.Cn _ f hr⟩
 .rename_i e
  rw[e] at hx;simp at h; subst h;generalize rF:a.eval x=v0 at hx;cases hx with|func h1 h2 h3 h4=>exact⟨_,λw2=>by simp[*,execOp],.func h1 h2 h3 h4⟩
 grind
theorem n9 {E:Env} {L:A3} {g:AE} {w:World} {s s':AL} {ρ:Nat->AV} {a:Act} {o:Oper} {v:AV} (hI:Inv E g w s) (hρ:∀t,V g w (ρ t) (a.tmps.getD t undef))
  (h:CS E L ρ s o=some (v,s')):∃v' w' g',sx E o a w v' w'/\V g' w' v v'/\Ext L g w g' w'/\Inv E g' w' s':=by
 obtain⟨dst,op,type,pos,after,guard⟩:=o
 have same:∀(r:Option AV),(match r with|some v=>some (v,s)|none=>none)=some (v,s')->r=some v/\s'=s:=by
  intro r hr;cases r with
  | none=>grind
  | some u=>grind
 have still:∀(v':Value),(execOp a.eval ⟨dst,op,type,pos,after,guard⟩).run E.P w=.ok (.value v') w->V g w v v'->s'=s ->
   ∃v' w' g',sx E ⟨dst,op,type,pos,after,guard⟩ a w v' w'/\V g' w' v v'/\Ext L g w g' w'/\Inv E g' w' s':=by
  intro v' hr hv hs;subst hs;exact⟨v',w,g,.inl hr,hv,Ext.refl _ _ _,hI⟩
 have qk:(∀cs b,op≠.select cs b)->Cy E ρ ⟨dst,op,type,pos,after,guard⟩=some v->s'=s ->
   ∃v' w' g',sx E ⟨dst,op,type,pos,after,guard⟩ a w v' w'/\V g' w' v v'/\Ext L g w g' w'/\Inv E g' w' s':=by
  intro hs hq hss;obtain⟨v',hr,hv⟩:=VA hρ (by exact hs) hq;exact still v' hr hv hss
 cases op with
 | move x=>
  simp only[CS,Au,A0] at h;obtain⟨rfl,rfl⟩:=h;exact still _ (by rfl) (Aa hρ x) rfl
 | assign x=>
  simp only[CS,Au,A0] at h;obtain⟨rfl,rfl⟩:=h;exact still _ (by rfl) (Aa hρ x) rfl
 | pick c x y=>
  simp only[CS] at h;split at h
  .rename_i t hc
   simp only[Au,A0] at h;obtain⟨rfl,rfl⟩:=h;have hcv:=Aa hρ c;rw[hc] at hcv;have hcv:=hcv.CQ;cases t
   .exact still _ (by simp[*,execOp,asBool]) (Aa hρ y) rfl
   .simp_all[execOp,asBool,Aa]
  .grind
 | alloc t=>
  simp only[CS] at h;split at h
  .rename_i z hz
   simp only[GV,Au,A0] at h;obtain⟨rfl,rfl⟩:=h;obtain⟨i,zv,hi,je,hrun,hvl⟩:=Dd (g:=g) (w:=w) hz;obtain⟨e1,e2⟩:=hI.Qp (L:=L) t hvl.full.1 hvl.full.2;have hb:(g.Fi s.bs.length w.heap.size hI.fresh).blk s.bs.length=some w.heap.size:=by simp[AE.Fi]
   have hsh:(CW w zv.cells.toList t).shape? w.heap.size=some (t,z.length):=by
    simp[World.shape?,Bv,hvl.len]
   refine⟨.pointer (some ⟨w.heap.size,0,none⟩),_,_,.inl ?_,V.ptr (b:=w.heap.size) hb,e1,e2.M8 hb hsh⟩;simp[execOp,Instr.alloc,hrun,newVar,newRow,CW]
  .grind
 | box t x=>
  simp only[CS] at h;split at h
  .rename_i hok
   simp only[GV,Au,A0] at h;obtain⟨rfl,rfl⟩:=h;have hvl:=EU (Aa hρ x) hok;obtain⟨e1,e2⟩:=hI.Qp (L:=L) t hvl.full.1 hvl.full.2;have hb:(g.Fi s.bs.length w.heap.size hI.fresh).blk s.bs.length=some w.heap.size:=by simp[AE.Fi]
   have hsh:(CW w (a.eval x).cells.toList t).shape? w.heap.size=some (t,(cellsOf (Ad ρ x)).length):=by
    simp[World.shape?,Bv,hvl.len]
   refine⟨.pointer (some ⟨w.heap.size,0,none⟩),_,_,.inl ?_,V.ptr (b:=w.heap.size) hb,e1,e2.M8 hb hsh⟩;simp[execOp,Instr.box,newVar,newRow,CW]
  .grind
 | build t parts=>
  simp only[CS] at h;obtain⟨h,hs⟩:=same _ h;obtain⟨hk,hv⟩:=Vf hρ parts;obtain⟨v',hr,Pz⟩:=Xs hk hv h;rw[F1] at hr;exact still v' (by grind[execOp,Sem.run_bind,Result.andThen_ok,Sem.run_pure]) Pz hs
 | buildSlice t len parts=>
  simp only[CS] at h;obtain⟨hk,hv⟩:=Vf hρ parts;obtain⟨v',w',g',hr,Pz,he,hi'⟩:=OW (L:=L) hI hk hv h;rw[F1] at hr;exact⟨v',w',g',.inl (by simp only[execOp,Sem.run_bind,hr,Result.andThen_ok,Sem.run_pure]),Pz,he,hi'⟩
 | makeSlice t l c=>
  simp only[CS] at h;obtain⟨v',w',g',hr,Pz,he,hi'⟩:=Pv (L:=L) hI (Aa hρ l) (Aa hρ c) h;exact⟨v',w',g',.inl (by simp[execOp,hr]),Pz,he,hi'⟩
 | load t x=>
  simp only[CS] at h;obtain⟨h,hs⟩:=same _ h;obtain⟨v',hr,hv⟩:=Lv hI (Aa hρ x) h;exact still v' (by simp[*,execOp]) hv hs
 | store t x y=>
  simp only[CS] at h;split at h
  .rename_i s1 hst
   simp only[Au,A0] at h;obtain⟨rfl,rfl⟩:=h;obtain⟨w',hr,he,hi'⟩:=Xo hI (Aa hρ x) (Aa hρ y) hst;exact⟨undef,w',g,.inr ⟨by simp[execOp,hr],rfl⟩,V.undef,he,hi'⟩
  .grind
 | nilCheck x=>
  simp only[CS] at h;obtain⟨h,hs⟩:=same _ h;obtain⟨v',hr,hv⟩:=Lz ⟨dst,.nilCheck x,type,pos,after,guard⟩ rfl hI hρ h;exact still v' (hr w) hv hs
 | fieldAddr t x f=>
  simp only[CS] at h;obtain⟨h,hs⟩:=same _ h;obtain⟨v',hr,hv⟩:=KW hI (Aa hρ x) h;exact still v' (by simp[*,execOp]) hv hs
 | field t x f=>
  simp only[CS] at h;obtain⟨h,hs⟩:=same _ h;obtain⟨v',hr,hv⟩:=Xr (Aa hρ x) h;exact still v' (by simp[*,execOp]) hv hs
 | indexAddr t x i=>
  simp only[CS] at h;obtain⟨h,hs⟩:=same _ h;obtain⟨v',hr,hv⟩:=Pd hI (Aa hρ x) (Aa hρ i) h;exact still v' (by simp[*,execOp]) hv hs
 | extract x i=>
  simp only[CS] at h;obtain⟨h,hs⟩:=same _ h;have hx:=Aa hρ x;cases hev:Ad ρ x with
  | tuple vs=>
   rw[hev] at hx;rw[hev] at h;simp only[Lt] at h;obtain⟨us,hu,hvl⟩:=hx.Pc;obtain⟨u,h1,h2⟩:=hvl.get h;exact still u (by simp[*,execOp,Instr.extract]) h2 hs
  | _=>rw[hev] at h; simp[Lt] at h
 | makeFunc fn first captured=>
  simp only[CS,Au,A0] at h;obtain⟨rfl,rfl⟩:=h;have h1:=Pj hρ first.toList;have h2:=Pj hρ captured.toList;refine still (.func fn (first.map a.eval) (captured.map a.eval)) (by simp[execOp,Instr.makeFunc]) ?_ rfl;have:=V.func (g:=g) (w:=w) (fn:=fn) h1.len h2.len h1.at_ h2.at_;have e1:(List.map a.eval first.toList).toArray=first.map a.eval:=by apply MW; simp
  have e2:(List.map a.eval captured.toList).toArray=captured.map a.eval:=by apply MW; simp
  rw[e1,e2] at this;exact this
 | makeInterface t x=>
  simp only[CS] at h;split at h
  .simp at h
  .rename_i d hne hu
   simp only[Au,A0] at h;obtain⟨rfl,rfl⟩:=h;refine still (.iface t (a.eval x)) ?_ (.iface (Aa hρ x)) rfl;simp only[execOp,Instr.makeInterface,Sem.run_bind,run_underlying hu,Result.andThen_ok];cases d <;> first|rfl|exact absurd rfl (hne _)
  .simp at h
 | slice t x lo hi mx=>
  simp only[CS] at h;split at h
  .rename_i u hsl
   simp only[Au,A0] at h;obtain⟨rfl,rfl⟩:=h
   have opt:∀(q:Option Operand),(∀b,q.map (Ad ρ)=some b->∃c,q.map a.eval=some c/\V g w b c)/\(q.map (Ad ρ)=none->q.map a.eval=none):=by
    intro q;cases q with
    | none=>exact⟨by simp,λ_=>rfl⟩
    | some z=>exact⟨λb hb=>by simp at hb; subst hb; exact⟨_,rfl,Aa hρ z⟩,by simp⟩
   obtain⟨v',hr,hv⟩:=X6 hI (Aa hρ x) (opt lo).1 (opt lo).2 (opt hi).1 (opt hi).2 (opt mx).1 (opt mx).2 hsl;exact still v' (by simp[execOp,hr]) hv rfl
  .obtain⟨h,hs⟩:=same _ h
   exact qk (by simp) h hs
 | binOp op t x y yt=>
  simp only[CS] at h;split at h
  .rename_i u hf
   simp only[Au,A0] at h;obtain⟨rfl,rfl⟩:=h;obtain⟨h1,h2⟩:=NI (P:=E.P) (t:=t) (Aa hρ x) (Aa hρ y) hf;exact still u (by simp only[execOp,Sem.run_bind,h2,Result.andThen_ok,h1,Sem.run_pure]) (V.IE _) rfl
  split at h
  .rename_i u hn
   simp only[Au,A0] at h;obtain⟨rfl,rfl⟩:=h;unfold IJ at hn;cases hb:(sameKind (C7 E.P t) (D4 s (Ad ρ x)) (Fc ρ y)||sameKind (C7 E.P t) (Fc ρ x) (D4 s (Ad ρ y))) with
   | false=>simp[hb] at hn
   | true=>
    simp only[hb,AN] at hn
    have heq:(Op.equal t (a.eval x) (a.eval y)).run E.P w=.ok false w/\(∀q,(eqGuard q t x y (a.eval x) (a.eval y)).run E.P w=.ok () w) /\
      binOp .eql t (a.eval x) (a.eval y)=(do pure (.bool (<-Op.equal t (a.eval x) (a.eval y))))/\binOp .neq t (a.eval x) (a.eval y)=(do pure (.bool (!(<-Op.equal t (a.eval x) (a.eval y))))):=by
     rw[Di] at hb;rcases hb with hb|hb
     .obtain⟨k,h1,h2,h3⟩:=Ep hb
      have a1:=L4 hI (Aa hρ x) h2;have a2:=NH hρ h3;refine⟨(Vm h1 a1 a2).1,λq=>?_,(Vn a1 a2).1⟩;rcases a1 with ⟨_,_,e⟩|⟨_,_,_,_,e⟩|⟨_,_,_,_,e⟩|⟨_,_,_,e⟩ <;> rw[e] <;> (unfold eqGuard; split <;> simp)
     .obtain⟨k,h1,h2,h3⟩:=Ep hb
      have a1:=L4 hI (Aa hρ y) h3;have a2:=NH hρ h2;refine⟨(Vm h1 a1 a2).2,λq=>?_,(Vn a1 a2).2⟩;rcases a1 with ⟨_,_,e⟩|⟨_,_,_,_,e⟩|⟨_,_,_,_,e⟩|⟨_,_,_,e⟩ <;> rw[e] <;> simp[*,eqGuard]
    obtain⟨he,hg,b1,b2⟩:=heq;split at hn
    .simp at hn; subst hn
     refine still (.bool false) ?_ (V.IE _) rfl;simp only[execOp,Sem.run_bind,hg,Result.andThen_ok,b1,he,Sem.run_pure]
    .simp at hn; subst hn
     refine still (.bool true) ?_ (V.IE _) rfl;simp only[execOp,Sem.run_bind,hg,Result.andThen_ok,b2,he,Sem.run_pure,XX]
    .grind
  .obtain⟨h,hs⟩:=same _ h
   exact qk (by simp) h hs
 | unOp op t x=>
  simp only[CS] at h;split at h
  .rename_i u hf
   simp only[Au,A0] at h;obtain⟨rfl,rfl⟩:=h;exact still u (by simp only[execOp,Sem.run_bind,X8 (Aa hρ x) hf,Result.andThen_ok,Sem.run_pure]) (V.IE _) rfl
  .obtain⟨h,hs⟩:=same _ h
   exact qk (by simp) h hs
 | index t x i=>
  simp only[CS] at h;split at h
  .rename_i u hf
   simp only[Au,A0] at h;obtain⟨rfl,rfl⟩:=h;exact still u (by simp only[execOp,Sem.run_bind,RN (Aa hρ x) (Aa hρ i) hf,Result.andThen_ok,Sem.run_pure]) (V.IE _) rfl
  .obtain⟨h,hs⟩:=same _ h
   exact qk (by simp) h hs
 | convert sa sb x=>
  simp only[CS] at h;have hx:=Aa hρ x;split at h
  .rename_i e b hsa Zz hev
   split at h
   .rename_i he
    simp only[Au,A0] at h;obtain⟨rfl,rfl⟩:=h;rw[hev] at hx;have hx:=hx.CQ;obtain⟨v',w',g',hr,hv,hex,hi'⟩:=M3 (L:=L) hI e b;refine⟨v',w',g',.inl ?_,hv,hex,hi'⟩;simp only[execOp,convert,hx,Sem.run_bind,run_underlying hsa,run_underlying Zz,run_underlying he,Result.andThen_ok,hr,Sem.run_pure]
   .grind
  .rename_i e hsa Zz
   split at h
   .rename_i l he hl
    simp only[Au,A0] at h;obtain⟨rfl,rfl⟩:=h;obtain⟨⟨q,n,c,hq⟩,hr⟩:=Px hI hx hl;refine still (.string ⟨l.toArray⟩) ?_ (V.IE _) rfl;rw[hq] at hr;simp only[execOp,hq,Sem.run_bind,run_convert_bytes_string w sa sb e q n c hsa he Zz,hr,Result.andThen_ok,Sem.run_pure]
   .grind
  .obtain⟨h,hs⟩:=same _ h
   exact qk (by simp) h hs
 | call c=>
  obtain⟨callee,args,argTypes⟩:=c;cases callee with
  | value f=>simp[CS] at h
  | invoke r n=>simp[CS] at h
  | builtin b=>
   cases b with
   | len=>
    simp only[CS] at h;split at h
    .rename_i x t ha ht
     split at h
     .rename_i u hf
      simp only[Au,A0] at h;obtain⟨rfl,rfl⟩:=h;have J8:args=#[x]:=by rw[<-F1 (xs:=args),ha]
      have ht':argTypes=#[t]:=by rw[<-F1 (xs:=argTypes),ht]
      subst J8 ht';refine still u ?_ (V.IE _) rfl;have:=VD (P:=E.P) (ty:=type) (Aa hρ x) hf;simp[execOp,resolve,invoke,builtin,this]
     split at h
     .rename_i e n hu hl
      simp only[Au,A0] at h;obtain⟨rfl,rfl⟩:=h;obtain⟨c1,c2,hq⟩:=fE hI (Aa hρ x) hl;have J8:args=#[x]:=by rw[<-F1 (xs:=args),ha]
      have ht':argTypes=#[t]:=by rw[<-F1 (xs:=argTypes),ht]
      subst J8 ht';refine still (.int .i64 n) ?_ (V.IE _) rfl;simp[execOp,resolve,invoke,builtin,Builtin.len_,run_underlying hu,hq,goInt]
     .obtain⟨h,hs⟩:=same _ h
      exact qk (by simp) h hs
    .grind
   | append=>
    simp only[CS] at h;split at h
    .rename_i x y t u ts ha ht
     split at h
     .simp at h
     .rename_i d hd hu
      obtain⟨v',w',g',hr,hv,hex,hi'⟩:=NB (T:=type) (ts:=ts) hI (Aa hρ x) (Aa hρ y) hu (λk e=>hd k e) h;have J8:args=#[x,y]:=by rw[<-F1 (xs:=args),ha]
      have ht':argTypes=(t::u::ts).toArray:=by rw[<-F1 (xs:=argTypes),ht]
      subst J8 ht';refine⟨v',w',g',.inl ?_,hv,hex,hi'⟩;simp[execOp,resolve,invoke,builtin,hr]
     .grind
    .grind
   | delete=>
    simp only[CS] at h;split at h
    .rename_i m k t ts ha ht
     split at h
     .rename_i s1 hd
      simp only[Au,A0] at h;obtain⟨rfl,rfl⟩:=h;have J8:args=#[m,k]:=by rw[<-F1 (xs:=args),ha]
      have ht':argTypes=(t::ts).toArray:=by rw[<-F1 (xs:=argTypes),ht]
      subst J8 ht';obtain⟨w',hr,he,hi'⟩:=U9 (ty:=type) (ts:=ts) hI (Aa hρ m) (Aa hρ k) hd;refine⟨undef,w',g,.inl ?_,V.undef,he,hi'⟩;simp[execOp,resolve,invoke,builtin,hr]
     .grind
    .grind
   | _=>
    simp only[CS] at h;obtain⟨h,hs⟩:=same _ h;exact qk (by simp) h hs
 | makeMap t r=>
  cases r with
  | some r=>simp[CS] at h
  | none=>
   simp only[CS,Au,A0] at h;obtain⟨rfl,rfl⟩:=h;obtain⟨he,hi'⟩:=hI.AI5 (L:=L);refine⟨.map (some w.heap.size),_,_,.inl ?_,.FL (if_pos rfl),he,hi'⟩;simp[execOp,Instr.makeMap,G1]
 | lookup t m k ok=>
  simp only[CS] at h;obtain⟨h,hs⟩:=same _ h;obtain⟨v',hr,hv⟩:=U8 hI (Aa hρ m) (Aa hρ k) h;exact still v' (by simp[*,execOp]) hv hs
 | mapUpdate t m k x=>
  simp only[CS] at h;split at h
  .rename_i s1 hst
   simp only[Au,A0] at h;obtain⟨rfl,rfl⟩:=h;obtain⟨w',hr,he,hi'⟩:=Ke hI (Aa hρ m) (Aa hρ k) (Aa hρ x) hst;exact⟨undef,w',g,.inr ⟨by simp[execOp,hr],rfl⟩,V.undef,he,hi'⟩
  .grind
 | insert t m k x=>
  simp only[CS] at h;split at h
  .rename_i s1 hst
   simp only[Au,A0] at h;obtain⟨rfl,rfl⟩:=h;obtain⟨w',hr,he,hi'⟩:=Ke hI (Aa hρ m) (Aa hρ k) (Aa hρ x) hst;exact⟨undef,w',g,.inr ⟨by simp[execOp,hr],rfl⟩,V.undef,he,hi'⟩
  .grind
 | _=>simp[CS] at h
end Go.Tel
