/-
  Single operations, part 12: the theorem.
-/
import Derived.Test.YtpgfpakdnijngaaGreatDoorEvL
import Derived.Laws.Strings
set_option linter.all false
namespace Go.Tel
theorem gO {g:AP} {w:World} {x:AV} {v u:Value} (h:V g w x v) (hc:Hl x=some u):v=u:=by
 unfold Hl at hc;split at hc
 .simp at hc; subst hc; exact h.DC
 grind
theorem Vz {E:Env} {g:AP} {w:World} {U:Nat->AV} {a:Act} (hU:∀t,V g w (U t) (a.tmps.getD t undef)) {o:Oper} {v:AV} (hs:∀cs b,o.op≠.select cs b)
  (h:C4 E U o=some v):∃v',(execOp a.eval o).run E.P w=.ok (.value v') w/\V g w v v':=by
 unfold C4 at h;split at h
 .rename_i hall
  split at h
  .rename_i u hq
   simp at h; subst h;refine⟨u,?_,V.Nz u⟩;rw[execOp_congr o hs (ρ:=a.eval) (ρ':=λx=>(Hl (Am U x)).getD undef) (λx hx=>?_)]
   .grind[Wi]
   .have:=C3.1 hall x AB
    cases hc:Hl (Am U x) with
    | none=>grind
    | some u=>exact gO (Av hU x) hc
  grind
 grind
theorem wrap_small {n:Nat} (h:n<9223372036854775808):IntKind.wrap .i64 (Int.ofNat n)=Int.ofNat n:=by grind[IntKind.wrap,IntKind.bits]
theorem Mp {k k':IntKind} (h:Nat.beq (Gd k) (Gd k')=true):k=k':=by
 cases k <;> cases k' <;> simp_all[Gd]
theorem V3 {P:Program} {w:World} {k:IntKind} {op:BinOp} {t:TypeId} {a b:Nat} {v:Value} (h:Yc k op a b=some v) :
  (binOp op t (.int k (.ofNat a)) (.int k (.ofNat b))).run P w=.ok v w:=by
 have hb:∀c d:Nat,Nat.beq c d=decide (Int.ofNat c=Int.ofNat d):=λc d=>by grind[Nat.beq_eq]
 have hl:∀c d:Nat,Nat.blt c d=decide (Int.ofNat c<Int.ofNat d):=λc d=>by grind[Nat.blt_eq]
 have hle:∀c d:Nat,Nat.ble c d=decide (Int.ofNat c<=Int.ofNat d):=λc d=>by
  rw[Sg,Nat.ble_eq]; simp
 cases op <;> simp only[Yc,reduceCtorEq] at h
 case add=>
  grind[Gd,Mp,wrap_small,binOp,Op.intArith,Sem.run_pure]
 case sub=>
  grind[Gd,Mp,wrap_small,binOp,Op.intArith,Sem.run_pure]
 all_goals
  grind[binOp,Op.intCmp,Sem.run_pure]
theorem V4 {P:Program} {w:World} {op:BinOp} {t:TypeId} {a b:ByteArray} {v:Value} (h:Yd op a.data.toList b.data.toList=some v):(binOp op t (.string a) (.string b)).run P w=.ok v w:=by
 cases op <;> simp only[Yd,reduceCtorEq,BN] at h
 all_goals
  grind[binOp,Op.stringOp,Sem.run_pure,Go.ByteArray.toList_eq,Rj,Tj]
theorem N6 {P:Program} {g:AP} {w:World} {op:BinOp} {t:TypeId} {x y:AV} {xv yv v:Value} (hx:V g w x xv) (hy:V g w y yv) (h:JE op x y=some v) :
  (binOp op t xv yv).run P w=.ok v w/\∀a b,(eqGuard op t a b xv yv).run P w=.ok () w:=by
 unfold JE at h;split at h
 .rename_i k a k' b
  rw[hx.DC,hy.DC];cases hk:Nat.beq (Gd k) (Gd k') with
  | false=>grind
  | true=>
   rw[hk] at h;have:=Mp hk;subst this;refine⟨V3 h,λa b=>?_⟩;simp[*,eqGuard]
 .rw[hx.DC,hy.DC]
  simp[*,V4,eqGuard]
 grind
theorem Y3 {P:Program} {g:AP} {w:World} {op:UnOp} {x:AV} {xv v:Value} (hx:V g w x xv) (h:Ye op x=some v):(Op.unary op xv).run P w=.ok v w:=by
 unfold Ye at h;split at h
 .rw[hx.DC]
  split at h
  all_goals simp_all[Op.unary]
 grind
theorem SG {P:Program} {g:AP} {w:World} {t:TypeId} {x i:AV} {xv iv v:Value} (hx:V g w x xv) (hi:V g w i iv) (h:NW P t x i=some v):(Instr.index t xv iv).run P w=.ok v w:=by
 unfold NW at h;split at h
 .rename_i b k n
  rw[hx.DC,hi.DC];split at h
  .rename_i c hu hc
   simp at h; subst h
   have hs:b[n]?=some c:=by
    have hlt:=(BH.1 hc).1;have he:=(BH.1 hc).2;have hlt':n<b.size:=Je;rw[getElem?_pos b n hlt'];rw[<-he];rfl
   simp[*,Instr.index,asIntOf,run_underlying]
  grind
 grind
theorem V5 {P:Program} {g:AP} {w:World} {t ty:TypeId} {x:AV} {xv v:Value} (hx:V g w x xv) (h:NY P t x=some v):(Builtin.len_ #[t] ty #[xv]).run P w=.ok v w:=by
 unfold NY at h;split at h
 .rename_i b
  rw[hx.DC];split at h
  all_goals simp_all[Builtin.len_,run_underlying,goInt]
 grind
theorem Qe {g:AP} {w:World} {U:Nat->AV} {a:Act} (hU:∀t,V g w (U t) (a.tmps.getD t undef)) (xs:List Operand):VL g w (xs.map (Am U)) (xs.map a.eval):=by
 induction xs with
 | nil=>exact .nil
 | cons x xs ih=>exact .cons (Av hU x) ih
theorem gR {E:Env} {g:AP} {w:World} {s:AQ} (hI:Inv E g w s) {x:AV} {v:Value} {n:Nat} (hx:V g w x v) (h:BA s x=some n):∃a c,v=.slice a n c:=by
 unfold BA at h;split at h
 .rename_i id off len sz
  cases hal:Tel.alive s id with
  | false=>grind
  | true=>
   simp[hal] at h; subst h;cases hx with
   | JI hd=>exact absurd hd (hI.alive hal)
   | ref=>simp
 grind[Ed]
theorem Mk {E:Env} {g:AP} {w:World} {s:AQ} {U:Nat->AV} {a:Act} {x:Operand} {v:AV} (o:Oper) (ho:o.op=.nilCheck x) (hI:Inv E g w s) (hU:∀t,V g w (U t) (a.tmps.getD t undef))
  (h:Kw s (Am U x)=some v):∃v',(∀w2:World,(execOp a.eval o).run E.P w2=.ok (.value v') w2)/\V g w v v':=by
 obtain⟨dst,op,type,pos,after,guard⟩:=o;simp only at ho;subst ho;have hx:=Av hU x;unfold Kw at h;split at h
 .rename_i id off e
  rw[e] at hx;cases hal:Tel.alive s id with
  | false=>grind
  | true=>
   simp[hal] at h; subst h;generalize Sz:a.eval x=v0 at hx;cases hx with
   | Li hd=>exact absurd hd (hI.alive hal)
   | ptr hb=>exact⟨_,λw2=>by simp[*,execOp],.ptr hb⟩
 .rename_i e
  rw[e] at hx;simp at h; subst h;generalize Sz:a.eval x=v0 at hx;cases hx with|Dt=>exact⟨_,λw2=>by simp[*,execOp],.Dt _ _⟩
 .rename_i e
  rw[e] at hx;simp at h; subst h;generalize Sz:a.eval x=v0 at hx;cases hx with|Cw _ f hr=>exact⟨_,λw2=>by grind[execOp,Sem.run_pure],.Cw _ f hr⟩
 .rename_i e
  rw[e] at hx;simp at h; subst h;generalize Sz:a.eval x=v0 at hx;cases hx with|func h1 h2 h3 h4=>exact⟨_,λw2=>by simp[*,execOp],.func h1 h2 h3 h4⟩
 grind
theorem oH {E:Env} {L:BL} {g:AP} {w:World} {s s':AQ} {U:Nat->AV} {a:Act} {o:Oper} {v:AV} (hI:Inv E g w s) (hU:∀t,V g w (U t) (a.tmps.getD t undef))
  (h:Ci E L U s o=some (v,s')):∃v' w' g',th E o a w v' w'/\V g' w' v v'/\Ext L g w g' w'/\Inv E g' w' s':=by
 obtain⟨dst,op,type,pos,after,guard⟩:=o
 have same:∀(r:Option AV),(match r with|some v=>some (v,s)|none=>none)=some (v,s')->r=some v/\s'=s:=by
  intro r hr;cases r with
  | none=>grind
  | some u=>grind
 have still:∀(v':Value),(execOp a.eval ⟨dst,op,type,pos,after,guard⟩).run E.P w=.ok (.value v') w->V g w v v'->s'=s ->
   ∃v' w' g',th E ⟨dst,op,type,pos,after,guard⟩ a w v' w'/\V g' w' v v'/\Ext L g w g' w'/\Inv E g' w' s':=by
  intro v' hr hv hs;subst hs;exact⟨v',w,g,.inl hr,hv,Ext.refl _ _ _,hI⟩
 have qk:(∀cs b,op≠.select cs b)->C4 E U ⟨dst,op,type,pos,after,guard⟩=some v->s'=s ->
   ∃v' w' g',th E ⟨dst,op,type,pos,after,guard⟩ a w v' w'/\V g' w' v v'/\Ext L g w g' w'/\Inv E g' w' s':=by
  intro hs hq hss;obtain⟨v',hr,hv⟩:=Vz hU (by exact hs) hq;exact still v' hr hv hss
 cases op with
 | move x=>
  simp only[Ci,BN,BU] at h;obtain⟨rfl,rfl⟩:=h;exact still _ AR (Av hU x) rfl
 | assign x=>
  simp only[Ci,BN,BU] at h;obtain⟨rfl,rfl⟩:=h;exact still _ AR (Av hU x) rfl
 | pick c x y=>
  simp only[Ci] at h;split at h
  .rename_i t hc
   simp only[BN,BU] at h;obtain⟨rfl,rfl⟩:=h;have hcv:=Av hU c;rw[hc] at hcv;have hcv:=hcv.DC;cases t
   .exact still _ (by simp[*,execOp,asBool]) (Av hU y) rfl
   .simp_all[execOp,asBool,Av]
  .grind
 | alloc t=>
  simp only[Ci] at h;split at h
  .rename_i z hz
   simp only[HR,BN,BU] at h;obtain⟨rfl,rfl⟩:=h;obtain⟨i,zv,hi,oC,hrun,hvl⟩:=D8 (g:=g) (w:=w) hz;obtain⟨e1,e2⟩:=hI.TK (L:=L) t hvl.full.1 hvl.full.2;have hb:(g.F3 s.bs.length w.heap.size hI.fresh).blk s.bs.length=some w.heap.size:=by simp[AP.F3]
   have hsh:(Cb w zv.cells.toList t).shape? w.heap.size=some (t,z.length):=by
    simp[World.shape?,CL,hvl.len]
   refine⟨.pointer (some ⟨w.heap.size,0,none⟩),_,_,.inl ?_,V.ptr (b:=w.heap.size) hb,e1,e2.N0 hb hsh⟩;simp[execOp,Instr.alloc,hrun,newVar,newRow,Cb]
  .grind
 | box t x=>
  simp only[Ci] at h;split at h
  .rename_i hok
   simp only[HR,BN,BU] at h;obtain⟨rfl,rfl⟩:=h;have hvl:=Ej (Av hU x) hok;obtain⟨e1,e2⟩:=hI.TK (L:=L) t hvl.full.1 hvl.full.2;have hb:(g.F3 s.bs.length w.heap.size hI.fresh).blk s.bs.length=some w.heap.size:=by simp[AP.F3]
   have hsh:(Cb w (a.eval x).cells.toList t).shape? w.heap.size=some (t,(cellsOf (Am U x)).length):=by
    simp[World.shape?,CL,hvl.len]
   refine⟨.pointer (some ⟨w.heap.size,0,none⟩),_,_,.inl ?_,V.ptr (b:=w.heap.size) hb,e1,e2.N0 hb hsh⟩;simp[execOp,Instr.box,newVar,newRow,Cb]
  .grind
 | build t parts=>
  simp only[Ci] at h;obtain⟨h,hs⟩:=same _ h;obtain⟨hk,hv⟩:=Wk hU parts;obtain⟨v',hr,LY⟩:=Yn hk hv h;rw[HL] at hr;exact still v' (by grind[execOp,Sem.run_bind,Result.andThen_ok,Sem.run_pure]) LY hs
 | buildSlice t len parts=>
  simp only[Ci] at h;obtain⟨hk,hv⟩:=Wk hU parts;obtain⟨v',w',g',hr,LY,he,hi'⟩:=PG (L:=L) hI hk hv h;rw[HL] at hr;exact⟨v',w',g',.inl (by simp only[execOp,Sem.run_bind,hr,Result.andThen_ok,Sem.run_pure]),LY,he,hi'⟩
 | load t x=>
  simp only[Ci] at h;obtain⟨h,hs⟩:=same _ h;obtain⟨v',hr,hv⟩:=Ra hI (Av hU x) h;exact still v' (by simp[*,execOp]) hv hs
 | store t x y=>
  simp only[Ci] at h;split at h
  .rename_i s1 hst
   simp only[BN,BU] at h;obtain⟨rfl,rfl⟩:=h;obtain⟨w',hr,he,hi'⟩:=Yj hI (Av hU x) (Av hU y) hst;exact⟨undef,w',g,.inr ⟨by simp[execOp,hr],rfl⟩,V.undef,he,hi'⟩
  .grind
 | nilCheck x=>
  simp only[Ci] at h;obtain⟨h,hs⟩:=same _ h;obtain⟨v',hr,hv⟩:=Mk ⟨dst,.nilCheck x,type,pos,after,guard⟩ rfl hI hU h;exact still v' (hr w) hv hs
 | fieldAddr t x f=>
  simp only[Ci] at h;obtain⟨h,hs⟩:=same _ h;obtain⟨v',hr,hv⟩:=K4 hI (Av hU x) h;exact still v' (by simp[*,execOp]) hv hs
 | field t x f=>
  simp only[Ci] at h;obtain⟨h,hs⟩:=same _ h;obtain⟨v',hr,hv⟩:=Ym (Av hU x) h;exact still v' (by simp[*,execOp]) hv hs
 | indexAddr t x i=>
  simp only[Ci] at h;obtain⟨h,hs⟩:=same _ h;obtain⟨v',hr,hv⟩:=Qa hI (Av hU x) (Av hU i) h;exact still v' (by simp[*,execOp]) hv hs
 | extract x i=>
  simp only[Ci] at h;obtain⟨h,hs⟩:=same _ h;have hx:=Av hU x;cases hev:Am U x with
  | tuple vs=>
   rw[hev] at hx;rw[hev] at h;simp only[Me] at h;obtain⟨us,hu,hvl⟩:=hx.QZ;obtain⟨u,h1,h2⟩:=hvl.get h;exact still u (by simp[*,execOp,Instr.extract]) h2 hs
  | _=>rw[hev] at h; simp[Me] at h
 | makeFunc fn first captured=>
  simp only[Ci,BN,BU] at h;obtain⟨rfl,rfl⟩:=h;have h1:=Qe hU first.toList;have h2:=Qe hU captured.toList;refine still (.func fn (first.map a.eval) (captured.map a.eval)) (by simp[execOp,Instr.makeFunc]) ?_ rfl;have:=V.func (g:=g) (w:=w) (fn:=fn) h1.len h2.len h1.at_ h2.at_;have e1:(List.map a.eval first.toList).toArray=first.map a.eval:=by apply NL; simp
  have e2:(List.map a.eval captured.toList).toArray=captured.map a.eval:=by apply NL; simp
  rw[e1,e2] at this;exact this
 | makeInterface t x=>
  simp only[Ci] at h;split at h
  .simp at h
  .rename_i d hne hu
   simp only[BN,BU] at h;obtain⟨rfl,rfl⟩:=h;refine still (.iface t (a.eval x)) ?_ (.iface (Av hU x)) rfl;simp only[execOp,Instr.makeInterface,Sem.run_bind,run_underlying hu,Result.andThen_ok];cases d <;> first|rfl|exact absurd rfl (hne _)
  .simp at h
 | slice t x lo hi mx=>
  simp only[Ci] at h;split at h
  .rename_i u hsl
   simp only[BN,BU] at h;obtain⟨rfl,rfl⟩:=h
   have opt:∀(q:Option Operand),(∀b,q.map (Am U)=some b->∃c,q.map a.eval=some c/\V g w b c)/\(q.map (Am U)=none->q.map a.eval=none):=by
    intro q;cases q with
    | none=>exact⟨AD,λ_=>rfl⟩
    | some z=>exact⟨λb hb=>by simp at hb; subst hb; exact⟨_,rfl,Av hU z⟩,AD⟩
   obtain⟨v',hr,hv⟩:=Y2 hI (Av hU x) (opt lo).1 (opt lo).2 (opt hi).1 (opt hi).2 (opt mx).1 (opt mx).2 hsl;exact still v' (by simp[execOp,hr]) hv rfl
  .obtain⟨h,hs⟩:=same _ h
   exact qk AD h hs
 | binOp op t x y yt=>
  simp only[Ci] at h;split at h
  .rename_i u hf
   simp only[BN,BU] at h;obtain⟨rfl,rfl⟩:=h;obtain⟨h1,h2⟩:=N6 (P:=E.P) (t:=t) (Av hU x) (Av hU y) hf;exact still u (by simp only[execOp,Sem.run_bind,h2,Result.andThen_ok,h1,Sem.run_pure]) (V.Kc _) rfl
  split at h
  .rename_i u hn
   simp only[BN,BU] at h;obtain⟨rfl,rfl⟩:=h;unfold Ir at hn;cases hb:(sameKind (C7 E.P t) (EI s (Am U x)) (Fp U y)||sameKind (C7 E.P t) (Fp U x) (EI s (Am U y))) with
   | false=>simp[hb] at hn
   | true=>
    simp only[hb,AM] at hn
    have heq:(Op.equal t (a.eval x) (a.eval y)).run E.P w=.ok false w/\(∀q,(eqGuard q t x y (a.eval x) (a.eval y)).run E.P w=.ok () w) /\
      binOp .eql t (a.eval x) (a.eval y)=(do pure (.bool (<-Op.equal t (a.eval x) (a.eval y))))/\binOp .neq t (a.eval x) (a.eval y)=(do pure (.bool (!(<-Op.equal t (a.eval x) (a.eval y))))):=by
     rw[De] at hb;rcases hb with hb|hb
     .obtain⟨k,h1,h2,h3⟩:=E1 hb
      have a1:=Mo hI (Av hU x) h2;have a2:=N5 hU h3;refine⟨(Wr h1 a1 a2).1,λq=>?_,(Ws a1 a2).1⟩;rcases a1 with ⟨_,_,e⟩|⟨_,_,_,_,e⟩|⟨_,_,_,_,e⟩|⟨_,_,_,e⟩ <;> rw[e] <;> (unfold eqGuard; split <;> simp)
     .obtain⟨k,h1,h2,h3⟩:=E1 hb
      have a1:=Mo hI (Av hU y) h3;have a2:=N5 hU h2;refine⟨(Wr h1 a1 a2).2,λq=>?_,(Ws a1 a2).2⟩;rcases a1 with ⟨_,_,e⟩|⟨_,_,_,_,e⟩|⟨_,_,_,_,e⟩|⟨_,_,_,e⟩ <;> rw[e] <;> simp[*,eqGuard]
    obtain⟨he,hg,b1,b2⟩:=heq;split at hn
    .simp at hn; subst hn
     refine still (.bool false) ?_ (V.Kc _) rfl;simp only[execOp,Sem.run_bind,hg,Result.andThen_ok,b1,he,Sem.run_pure]
    .simp at hn; subst hn
     refine still (.bool true) ?_ (V.Kc _) rfl;simp only[execOp,Sem.run_bind,hg,Result.andThen_ok,b2,he,Sem.run_pure,O1]
    .grind
  .obtain⟨h,hs⟩:=same _ h
   exact qk AD h hs
 | unOp op t x=>
  simp only[Ci] at h;split at h
  .rename_i u hf
   simp only[BN,BU] at h;obtain⟨rfl,rfl⟩:=h;exact still u (by simp only[execOp,Sem.run_bind,Y3 (Av hU x) hf,Result.andThen_ok,Sem.run_pure]) (V.Kc _) rfl
  .obtain⟨h,hs⟩:=same _ h
   exact qk AD h hs
 | index t x i=>
  simp only[Ci] at h;split at h
  .rename_i u hf
   simp only[BN,BU] at h;obtain⟨rfl,rfl⟩:=h;exact still u (by simp only[execOp,Sem.run_bind,SG (Av hU x) (Av hU i) hf,Result.andThen_ok,Sem.run_pure]) (V.Kc _) rfl
  .obtain⟨h,hs⟩:=same _ h
   exact qk AD h hs
 | convert sa sb x=>
  simp only[Ci] at h;obtain⟨h,hs⟩:=same _ h;exact qk AD h hs
 | call c=>
  obtain⟨callee,args,argTypes⟩:=c;cases callee with
  | value f=>simp[Ci] at h
  | invoke r n=>simp[Ci] at h
  | builtin b=>
   cases b with
   | len=>
    simp only[Ci] at h;split at h
    .rename_i x t ha ht
     split at h
     .rename_i u hf
      simp only[BN,BU] at h;obtain⟨rfl,rfl⟩:=h;have Nd:args=#[x]:=by rw[<-HL (xs:=args),ha]
      have ht':argTypes=#[t]:=by rw[<-HL (xs:=argTypes),ht]
      subst Nd ht';refine still u ?_ (V.Kc _) rfl;have:=V5 (P:=E.P) (ty:=type) (Av hU x) hf;simp[execOp,resolve,invoke,builtin,this]
     split at h
     .rename_i e n hu hl
      simp only[BN,BU] at h;obtain⟨rfl,rfl⟩:=h;obtain⟨c1,c2,hq⟩:=gR hI (Av hU x) hl;have Nd:args=#[x]:=by rw[<-HL (xs:=args),ha]
      have ht':argTypes=#[t]:=by rw[<-HL (xs:=argTypes),ht]
      subst Nd ht';refine still (.int .i64 n) ?_ (V.Kc _) rfl;simp[execOp,resolve,invoke,builtin,Builtin.len_,run_underlying hu,hq,goInt]
     .obtain⟨h,hs⟩:=same _ h
      exact qk AD h hs
    .grind
   | append=>
    simp only[Ci] at h;split at h
    .rename_i x y t u ts ha ht
     split at h
     .simp at h
     .rename_i d hd hu
      obtain⟨v',w',g',hr,hv,hex,hi'⟩:=N2 (T:=type) (ts:=ts) hI (Av hU x) (Av hU y) hu (λk e=>hd k e) h;have Nd:args=#[x,y]:=by rw[<-HL (xs:=args),ha]
      have ht':argTypes=(t::u::ts).toArray:=by rw[<-HL (xs:=argTypes),ht]
      subst Nd ht';refine⟨v',w',g',.inl ?_,hv,hex,hi'⟩;simp[execOp,resolve,invoke,builtin,hr]
     .grind
    .grind
   | delete=>
    simp[Ci] at h
   | _=>
    simp only[Ci] at h;obtain⟨h,hs⟩:=same _ h;exact qk AD h hs
 | _=>simp[Ci] at h
end Go.Tel
