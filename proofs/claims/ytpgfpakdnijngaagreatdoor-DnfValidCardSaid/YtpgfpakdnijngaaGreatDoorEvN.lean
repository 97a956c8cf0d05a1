/-
  Single operations, part 12: the theorem.
-/
import Derived.Test.YtpgfpakdnijngaaGreatDoorEvL
import Derived.Laws.Strings
set_option linter.all false
namespace Go.Tel
theorem iz {g:AP} {w:World} {x:AV} {v u:Value} (h:V g w x v) (hc:Ht x=some u):v=u:=by
 unfold Ht at hc;split at hc
 .simp at hc; subst hc; exact h.C6
 grind
theorem Wj {E:Env} {g:AP} {w:World} {U:Nat->AV} {a:Act} (hU:∀t,V g w (U t) (a.tmps.getD t undef)) {o:Oper} {v:AV} (hs:∀cs b,o.op≠.select cs b)
  (h:C5 E U o=some v):∃v',(execOp a.eval o).run E.P w=.ok (.value v') w/\V g w v v':=by
 unfold C5 at h;split at h
 .rename_i hall
  split at h
  .rename_i u hq
   simp at h; subst h;refine⟨u,?_,V.N6 u⟩;rw[execOp_congr o hs (ρ:=a.eval) (ρ':=λx=>(Ht (Am U x)).getD undef) (λx hx=>?_)]
   .grind[XM]
   .have:=DE.1 hall x AB
    cases hc:Ht (Am U x) with
    | none=>grind
    | some u=>exact iz (Aw hU x) hc
  grind
 grind
theorem wrap_small {n:Nat} (h:n<9223372036854775808):IntKind.wrap .i64 (Int.ofNat n)=Int.ofNat n:=by grind[IntKind.wrap,IntKind.bits]
theorem Mu {k k':IntKind} (h:Nat.beq (Gh k) (Gh k')=true):k=k':=by
 cases k <;> cases k' <;> simp_all[Gh]
theorem Wk {P:Program} {w:World} {k:IntKind} {op:BinOp} {t:TypeId} {a b:Nat} {v:Value} (h:ZN k op a b=some v) :
  (binOp op t (.int k (.ofNat a)) (.int k (.ofNat b))).run P w=.ok v w:=by
 have hb:∀c d:Nat,Nat.beq c d=decide (Int.ofNat c=Int.ofNat d):=λc d=>by grind[Nat.beq_eq]
 have hl:∀c d:Nat,Nat.blt c d=decide (Int.ofNat c<Int.ofNat d):=λc d=>by grind[Nat.blt_eq]
 have hle:∀c d:Nat,Nat.ble c d=decide (Int.ofNat c<=Int.ofNat d):=λc d=>by
  rw[PE,Nat.ble_eq]; simp
 cases op <;> simp only[ZN,reduceCtorEq] at h
 case add=>
  grind[Gh,Mu,wrap_small,binOp,Op.intArith,Sem.run_pure]
 case sub=>
  grind[Gh,Mu,wrap_small,binOp,Op.intArith,Sem.run_pure]
 all_goals
  grind[binOp,Op.intCmp,Sem.run_pure]
theorem Wl {P:Program} {w:World} {op:BinOp} {t:TypeId} {a b:ByteArray} {v:Value} (h:ZO op a.data.toList b.data.toList=some v):(binOp op t (.string a) (.string b)).run P w=.ok v w:=by
 cases op <;> simp only[ZO,reduceCtorEq,BN] at h
 all_goals
  grind[binOp,Op.stringOp,Sem.run_pure,Go.ByteArray.toList_eq,R2,UH]
theorem OG {P:Program} {g:AP} {w:World} {op:BinOp} {t:TypeId} {x y:AV} {xv yv v:Value} (hx:V g w x xv) (hy:V g w y yv) (h:JN op x y=some v) :
  (binOp op t xv yv).run P w=.ok v w/\∀a b,(eqGuard op t a b xv yv).run P w=.ok () w:=by
 unfold JN at h;split at h
 .rename_i k a k' b
  rw[hx.C6,hy.C6];cases hk:Nat.beq (Gh k) (Gh k') with
  | false=>grind
  | true=>
   rw[hk] at h;have:=Mu hk;subst this;refine⟨Wk h,λa b=>?_⟩;simp[*,eqGuard]
 .rw[hx.C6,hy.C6]
  simp[*,Wl,eqGuard]
 grind
theorem Zo {P:Program} {g:AP} {w:World} {op:UnOp} {x:AV} {xv v:Value} (hx:V g w x xv) (h:ZP op x=some v):(Op.unary op xv).run P w=.ok v w:=by
 unfold ZP at h;split at h
 .rw[hx.C6]
  split at h
  all_goals simp_all[Op.unary]
 grind
theorem Si {P:Program} {g:AP} {w:World} {t:TypeId} {x i:AV} {xv iv v:Value} (hx:V g w x xv) (hi:V g w i iv) (h:Ng P t x i=some v):(Instr.index t xv iv).run P w=.ok v w:=by
 unfold Ng at h;split at h
 .rename_i b k n
  rw[hx.C6,hi.C6];split at h
  .rename_i c hu hc
   simp at h; subst h
   have hs:b[n]?=some c:=by
    have hlt:=(BA.1 hc).1;have he:=(BA.1 hc).2;have hlt':n<b.size:=H8;rw[getElem?_pos b n hlt'];rw[<-he];rfl
   simp[*,Instr.index,asIntOf,run_underlying]
  grind
 grind
theorem Wm {P:Program} {g:AP} {w:World} {t ty:TypeId} {x:AV} {xv v:Value} (hx:V g w x xv) (h:Nh P t x=some v):(Builtin.len_ #[t] ty #[xv]).run P w=.ok v w:=by
 unfold Nh at h;split at h
 .rename_i b
  rw[hx.C6];split at h
  all_goals simp_all[Builtin.len_,run_underlying,goInt]
 grind
theorem Qu {g:AP} {w:World} {U:Nat->AV} {a:Act} (hU:∀t,V g w (U t) (a.tmps.getD t undef)) (xs:List Operand):VL g w (xs.map (Am U)) (xs.map a.eval):=by
 induction xs with
 | nil=>exact .nil
 | cons x xs ih=>exact .cons (Aw hU x) ih
theorem jA {E:Env} {g:AP} {w:World} {s:AQ} (hI:Inv E g w s) {x:AV} {v:Value} {n:Nat} (hx:V g w x v) (h:BD s x=some n):∃a c,v=.slice a n c:=by
 unfold BD at h;split at h
 .rename_i id off len sz
  cases hal:Tel.alive s id with
  | false=>grind
  | true=>
   simp[hal] at h; subst h;cases hx with
   | JQ hd=>exact absurd hd (hI.alive hal)
   | ref=>simp
 grind[Ef]
theorem Mn {E:Env} {g:AP} {w:World} {s:AQ} {U:Nat->AV} {a:Act} {x:Operand} {v:AV} (o:Oper) (ho:o.op=.nilCheck x) (hI:Inv E g w s) (hU:∀t,V g w (U t) (a.tmps.getD t undef))
  (h:K6 s (Am U x)=some v):∃v',(∀w2:World,(execOp a.eval o).run E.P w2=.ok (.value v') w2)/\V g w v v':=by
 obtain⟨dst,op,type,pos,after,guard⟩:=o;simp only at ho;subst ho;have hx:=Aw hU x;unfold K6 at h;split at h
 .rename_i id off e
  rw[e] at hx;cases hal:Tel.alive s id with
  | false=>grind
  | true=>
   simp[hal] at h; subst h;generalize TP:a.eval x=v0 at hx;cases hx with
   | Ls hd=>exact absurd hd (hI.alive hal)
   | ptr hb=>exact⟨_,λw2=>by simp[*,execOp],.ptr hb⟩
 .rename_i e
  rw[e] at hx;simp at h; subst h;generalize TP:a.eval x=v0 at hx;cases hx with|Dt=>exact⟨_,λw2=>by simp[*,execOp],.Dt _ _⟩
 .rename_i e
  rw[e] at hx;simp at h; subst h;generalize TP:a.eval x=v0 at hx;cases hx with|Ct _ f hr=>exact⟨_,λw2=>by grind[execOp,Sem.run_pure],.Ct _ f hr⟩
 .rename_i e
  rw[e] at hx;simp at h; subst h;generalize TP:a.eval x=v0 at hx;cases hx with|func h1 h2 h3 h4=>exact⟨_,λw2=>by simp[*,execOp],.func h1 h2 h3 h4⟩
 grind
theorem pW {E:Env} {L:BI} {g:AP} {w:World} {s s':AQ} {U:Nat->AV} {a:Act} {o:Oper} {v:AV} (hI:Inv E g w s) (hU:∀t,V g w (U t) (a.tmps.getD t undef))
  (h:Cl E L U s o=some (v,s')):∃v' w' g',uz E o a w v' w'/\V g' w' v v'/\Ext L g w g' w'/\Inv E g' w' s':=by
 obtain⟨dst,op,type,pos,after,guard⟩:=o
 have same:∀(r:Option AV),(match r with|some v=>some (v,s)|none=>none)=some (v,s')->r=some v/\s'=s:=by
  intro r hr;cases r with
  | none=>grind
  | some u=>grind
 have still:∀(v':Value),(execOp a.eval ⟨dst,op,type,pos,after,guard⟩).run E.P w=.ok (.value v') w->V g w v v'->s'=s ->
   ∃v' w' g',uz E ⟨dst,op,type,pos,after,guard⟩ a w v' w'/\V g' w' v v'/\Ext L g w g' w'/\Inv E g' w' s':=by
  intro v' hr hv hs;subst hs;exact⟨v',w,g,.inl hr,hv,Ext.refl _ _ _,hI⟩
 have qk:(∀cs b,op≠.select cs b)->C5 E U ⟨dst,op,type,pos,after,guard⟩=some v->s'=s ->
   ∃v' w' g',uz E ⟨dst,op,type,pos,after,guard⟩ a w v' w'/\V g' w' v v'/\Ext L g w g' w'/\Inv E g' w' s':=by
  intro hs hq hss;obtain⟨v',hr,hv⟩:=Wj hU (by exact hs) hq;exact still v' hr hv hss
 cases op with
 | move x=>
  simp only[Cl,BN,BT] at h;obtain⟨rfl,rfl⟩:=h;exact still _ AR (Aw hU x) rfl
 | assign x=>
  simp only[Cl,BN,BT] at h;obtain⟨rfl,rfl⟩:=h;exact still _ AR (Aw hU x) rfl
 | pick c x y=>
  simp only[Cl] at h;split at h
  .rename_i t hc
   simp only[BN,BT] at h;obtain⟨rfl,rfl⟩:=h;have hcv:=Aw hU c;rw[hc] at hcv;have hcv:=hcv.C6;cases t
   .exact still _ (by simp[*,execOp,asBool]) (Aw hU y) rfl
   .simp_all[execOp,asBool,Aw]
  .grind
 | alloc t=>
  simp only[Cl] at h;split at h
  .rename_i z hz
   simp only[HZ,BN,BT] at h;obtain⟨rfl,rfl⟩:=h;obtain⟨i,zv,hi,pT,hrun,hvl⟩:=D7 (g:=g) (w:=w) hz;obtain⟨e1,e2⟩:=hI.Tl (L:=L) t hvl.full.1 hvl.full.2;have hb:(g.F5 s.bs.length w.heap.size hI.fresh).blk s.bs.length=some w.heap.size:=by simp[AP.F5]
   have hsh:(Cf w zv.cells.toList t).shape? w.heap.size=some (t,z.length):=by
    simp[World.shape?,CM,hvl.len]
   refine⟨.pointer (some ⟨w.heap.size,0,none⟩),_,_,.inl ?_,V.ptr (b:=w.heap.size) hb,e1,e2.N7 hb hsh⟩;simp[execOp,Instr.alloc,hrun,newVar,newRow,Cf]
  .grind
 | box t x=>
  simp only[Cl] at h;split at h
  .rename_i hok
   simp only[HZ,BN,BT] at h;obtain⟨rfl,rfl⟩:=h;have hvl:=Eo (Aw hU x) hok;obtain⟨e1,e2⟩:=hI.Tl (L:=L) t hvl.full.1 hvl.full.2;have hb:(g.F5 s.bs.length w.heap.size hI.fresh).blk s.bs.length=some w.heap.size:=by simp[AP.F5]
   have hsh:(Cf w (a.eval x).cells.toList t).shape? w.heap.size=some (t,(cellsOf (Am U x)).length):=by
    simp[World.shape?,CM,hvl.len]
   refine⟨.pointer (some ⟨w.heap.size,0,none⟩),_,_,.inl ?_,V.ptr (b:=w.heap.size) hb,e1,e2.N7 hb hsh⟩;simp[execOp,Instr.box,newVar,newRow,Cf]
  .grind
 | build t parts=>
  simp only[Cl] at h;obtain⟨h,hs⟩:=same _ h;obtain⟨hk,hv⟩:=XO hU parts;obtain⟨v',hr,Lh⟩:=ZZ hk hv h;rw[HX] at hr;exact still v' (by grind[execOp,Sem.run_bind,Result.andThen_ok,Sem.run_pure]) Lh hs
 | buildSlice t len parts=>
  simp only[Cl] at h;obtain⟨hk,hv⟩:=XO hU parts;obtain⟨v',w',g',hr,Lh,he,hi'⟩:=PU (L:=L) hI hk hv h;rw[HX] at hr;exact⟨v',w',g',.inl (by simp only[execOp,Sem.run_bind,hr,Result.andThen_ok,Sem.run_pure]),Lh,he,hi'⟩
 | load t x=>
  simp only[Cl] at h;obtain⟨h,hs⟩:=same _ h;obtain⟨v',hr,hv⟩:=Rs hI (Aw hU x) h;exact still v' (by simp[*,execOp]) hv hs
 | store t x y=>
  simp only[Cl] at h;split at h
  .rename_i s1 hst
   simp only[BN,BT] at h;obtain⟨rfl,rfl⟩:=h;obtain⟨w',hr,he,hi'⟩:=ZV hI (Aw hU x) (Aw hU y) hst;exact⟨undef,w',g,.inr ⟨by simp[execOp,hr],rfl⟩,V.undef,he,hi'⟩
  .grind
 | nilCheck x=>
  simp only[Cl] at h;obtain⟨h,hs⟩:=same _ h;obtain⟨v',hr,hv⟩:=Mn ⟨dst,.nilCheck x,type,pos,after,guard⟩ rfl hI hU h;exact still v' (hr w) hv hs
 | fieldAddr t x f=>
  simp only[Cl] at h;obtain⟨h,hs⟩:=same _ h;obtain⟨v',hr,hv⟩:=LD hI (Aw hU x) h;exact still v' (by simp[*,execOp]) hv hs
 | field t x f=>
  simp only[Cl] at h;obtain⟨h,hs⟩:=same _ h;obtain⟨v',hr,hv⟩:=ZY (Aw hU x) h;exact still v' (by simp[*,execOp]) hv hs
 | indexAddr t x i=>
  simp only[Cl] at h;obtain⟨h,hs⟩:=same _ h;obtain⟨v',hr,hv⟩:=Qp hI (Aw hU x) (Aw hU i) h;exact still v' (by simp[*,execOp]) hv hs
 | extract x i=>
  simp only[Cl] at h;obtain⟨h,hs⟩:=same _ h;have hx:=Aw hU x;cases hev:Am U x with
  | tuple vs=>
   rw[hev] at hx;rw[hev] at h;simp only[Mh] at h;obtain⟨us,hu,hvl⟩:=hx.Qo;obtain⟨u,h1,h2⟩:=hvl.get h;exact still u (by simp[*,execOp,Instr.extract]) h2 hs
  | _=>rw[hev] at h; simp[Mh] at h
 | makeFunc fn first captured=>
  simp only[Cl,BN,BT] at h;obtain⟨rfl,rfl⟩:=h;have h1:=Qu hU first.toList;have h2:=Qu hU captured.toList;refine still (.func fn (first.map a.eval) (captured.map a.eval)) (by simp[execOp,Instr.makeFunc]) ?_ rfl;have:=V.func (g:=g) (w:=w) (fn:=fn) h1.len h2.len h1.at_ h2.at_;have e1:(List.map a.eval first.toList).toArray=first.map a.eval:=by apply NU; simp
  have e2:(List.map a.eval captured.toList).toArray=captured.map a.eval:=by apply NU; simp
  rw[e1,e2] at this;exact this
 | makeInterface t x=>
  simp only[Cl] at h;split at h
  .simp at h
  .rename_i d hne hu
   simp only[BN,BT] at h;obtain⟨rfl,rfl⟩:=h;refine still (.iface t (a.eval x)) ?_ (.iface (Aw hU x)) rfl;simp only[execOp,Instr.makeInterface,Sem.run_bind,run_underlying hu,Result.andThen_ok];cases d <;> first|rfl|exact absurd rfl (hne _)
  .simp at h
 | slice t x lo hi mx=>
  simp only[Cl] at h;split at h
  .rename_i u hsl
   simp only[BN,BT] at h;obtain⟨rfl,rfl⟩:=h
   have opt:∀(q:Option Operand),(∀b,q.map (Am U)=some b->∃c,q.map a.eval=some c/\V g w b c)/\(q.map (Am U)=none->q.map a.eval=none):=by
    intro q;cases q with
    | none=>exact⟨AD,λ_=>rfl⟩
    | some z=>exact⟨λb hb=>by simp at hb; subst hb; exact⟨_,rfl,Aw hU z⟩,AD⟩
   obtain⟨v',hr,hv⟩:=Zn hI (Aw hU x) (opt lo).1 (opt lo).2 (opt hi).1 (opt hi).2 (opt mx).1 (opt mx).2 hsl;exact still v' (by simp[execOp,hr]) hv rfl
  .obtain⟨h,hs⟩:=same _ h
   exact qk AD h hs
 | binOp op t x y yt=>
  simp only[Cl] at h;split at h
  .rename_i u hf
   simp only[BN,BT] at h;obtain⟨rfl,rfl⟩:=h;obtain⟨h1,h2⟩:=OG (P:=E.P) (t:=t) (Aw hU x) (Aw hU y) hf;exact still u (by simp only[execOp,Sem.run_bind,h2,Result.andThen_ok,h1,Sem.run_pure]) (V.Kr _) rfl
  split at h
  .rename_i u hn
   simp only[BN,BT] at h;obtain⟨rfl,rfl⟩:=h;unfold I3 at hn;cases hb:(sameKind (C8 E.P t) (EI s (Am U x)) (Fu U y)||sameKind (C8 E.P t) (Fu U x) (EI s (Am U y))) with
   | false=>simp[hb] at hn
   | true=>
    simp only[hb,AN] at hn
    have heq:(Op.equal t (a.eval x) (a.eval y)).run E.P w=.ok false w/\(∀q,(eqGuard q t x y (a.eval x) (a.eval y)).run E.P w=.ok () w) /\
      binOp .eql t (a.eval x) (a.eval y)=(do pure (.bool (<-Op.equal t (a.eval x) (a.eval y))))/\binOp .neq t (a.eval x) (a.eval y)=(do pure (.bool (!(<-Op.equal t (a.eval x) (a.eval y))))):=by
     rw[Dk] at hb;rcases hb with hb|hb
     .obtain⟨k,h1,h2,h3⟩:=E8 hb
      have a1:=Mt hI (Aw hU x) h2;have a2:=OE hU h3;refine⟨(XW h1 a1 a2).1,λq=>?_,(XX a1 a2).1⟩;rcases a1 with ⟨_,_,e⟩|⟨_,_,_,_,e⟩|⟨_,_,_,_,e⟩|⟨_,_,_,e⟩ <;> rw[e] <;> (unfold eqGuard; split <;> simp)
     .obtain⟨k,h1,h2,h3⟩:=E8 hb
      have a1:=Mt hI (Aw hU y) h3;have a2:=OE hU h2;refine⟨(XW h1 a1 a2).2,λq=>?_,(XX a1 a2).2⟩;rcases a1 with ⟨_,_,e⟩|⟨_,_,_,_,e⟩|⟨_,_,_,_,e⟩|⟨_,_,_,e⟩ <;> rw[e] <;> simp[*,eqGuard]
    obtain⟨he,hg,b1,b2⟩:=heq;split at hn
    .simp at hn; subst hn
     refine still (.bool false) ?_ (V.Kr _) rfl;simp only[execOp,Sem.run_bind,hg,Result.andThen_ok,b1,he,Sem.run_pure]
    .simp at hn; subst hn
     refine still (.bool true) ?_ (V.Kr _) rfl;simp only[execOp,Sem.run_bind,hg,Result.andThen_ok,b2,he,Sem.run_pure,PG]
    .grind
  .obtain⟨h,hs⟩:=same _ h
   exact qk AD h hs
 | unOp op t x=>
  simp only[Cl] at h;split at h
  .rename_i u hf
   simp only[BN,BT] at h;obtain⟨rfl,rfl⟩:=h;exact still u (by simp only[execOp,Sem.run_bind,Zo (Aw hU x) hf,Result.andThen_ok,Sem.run_pure]) (V.Kr _) rfl
  .obtain⟨h,hs⟩:=same _ h
   exact qk AD h hs
 | index t x i=>
  simp only[Cl] at h;split at h
  .rename_i u hf
   simp only[BN,BT] at h;obtain⟨rfl,rfl⟩:=h;exact still u (by simp only[execOp,Sem.run_bind,Si (Aw hU x) (Aw hU i) hf,Result.andThen_ok,Sem.run_pure]) (V.Kr _) rfl
  .obtain⟨h,hs⟩:=same _ h
   exact qk AD h hs
 | convert sa sb x=>
  simp only[Cl] at h;obtain⟨h,hs⟩:=same _ h;exact qk AD h hs
 | call c=>
  obtain⟨callee,args,argTypes⟩:=c;cases callee with
  | value f=>simp[Cl] at h
  | invoke r n=>simp[Cl] at h
  | builtin b=>
   cases b with
   | len=>
    simp only[Cl] at h;split at h
    .rename_i x t ha ht
     split at h
     .rename_i u hf
      simp only[BN,BT] at h;obtain⟨rfl,rfl⟩:=h;have Np:args=#[x]:=by rw[<-HX (xs:=args),ha]
      have ht':argTypes=#[t]:=by rw[<-HX (xs:=argTypes),ht]
      subst Np ht';refine still u ?_ (V.Kr _) rfl;have:=Wm (P:=E.P) (ty:=type) (Aw hU x) hf;simp[execOp,resolve,invoke,builtin,this]
     split at h
     .rename_i e n hu hl
      simp only[BN,BT] at h;obtain⟨rfl,rfl⟩:=h;obtain⟨c1,c2,hq⟩:=jA hI (Aw hU x) hl;have Np:args=#[x]:=by rw[<-HX (xs:=args),ha]
      have ht':argTypes=#[t]:=by rw[<-HX (xs:=argTypes),ht]
      subst Np ht';refine still (.int .i64 n) ?_ (V.Kr _) rfl;simp[execOp,resolve,invoke,builtin,Builtin.len_,run_underlying hu,hq,goInt]
     .obtain⟨h,hs⟩:=same _ h
      exact qk AD h hs
    .grind
   | append=>
    simp only[Cl] at h;split at h
    .rename_i x y t u ts ha ht
     split at h
     .simp at h
     .rename_i d hd hu
      obtain⟨v',w',g',hr,hv,hex,hi'⟩:=OA (T:=type) (ts:=ts) hI (Aw hU x) (Aw hU y) hu (λk e=>hd k e) h;have Np:args=#[x,y]:=by rw[<-HX (xs:=args),ha]
      have ht':argTypes=(t::u::ts).toArray:=by rw[<-HX (xs:=argTypes),ht]
      subst Np ht';refine⟨v',w',g',.inl ?_,hv,hex,hi'⟩;simp[execOp,resolve,invoke,builtin,hr]
     .grind
    .grind
   | delete=>
    simp[Cl] at h
   | _=>
    simp only[Cl] at h;obtain⟨h,hs⟩:=same _ h;exact qk AD h hs
 | _=>simp[Cl] at h
end Go.Tel
