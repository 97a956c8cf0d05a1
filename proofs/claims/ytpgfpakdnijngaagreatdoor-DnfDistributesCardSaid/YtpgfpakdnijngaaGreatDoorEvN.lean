/-
  Single operations, part 12: the theorem.
-/
import Derived.Test.YtpgfpakdnijngaaGreatDoorEvL
import Derived.Laws.Strings
set_option linter.unusedSimpArgs false
set_option linter.unusedVariables false
namespace Go.Tel
theorem dw {g:AH} {w:World} {x:AV} {v u:Value} (h:V g w x v) (hc:Gg x=some u):v=u:=by
 unfold Gg at hc;split at hc
 ·simp at hc; subst hc; exact h.CM
 ·simp at hc
theorem Ul {E:Env} {g:AH} {w:World} {ρ:Nat->AV} {a:Act} (hρ:∀ t,V g w (ρ t) (a.tmps.getD t undef)) {o:Oper} {v:AV} (hs:∀ cs b,o.op≠.select cs b)
  (h:Ct E ρ o=some v):∃ v',(execOp a.eval o).run E.P w=.ok (.value v') w/\V g w v v':=by
 unfold Ct at h;split at h
 ·rename_i hall
  split at h
  ·rename_i u hq
   simp at h; subst h;refine⟨u,?_,V.L5 u⟩;rw[execOp_congr o hs (ρ:=a.eval) (ρ':=fun x=>(Gg (AP ρ x)).getD undef) (fun x hx=>?_)]
   ·exact VH E.P _ _ hq w
   ·have:=Bs.1 hall x (by simpa using hx)
    cases hc:Gg (AP ρ x) with
    | none=>simp[hc] at this
    | some u=>exact dw (AO hρ x) hc
  ·simp at h
 ·simp at h
theorem wrap_small {n:Nat} (h:n<9223372036854775808):IntKind.wrap .i64 (Int.ofNat n)=Int.ofNat n:=by
 simp[IntKind.wrap,IntKind.bits,IntKind.signed];omega
theorem MK {k k':IntKind} (h:Nat.beq (Gh k) (Gh k')=true):k=k':=by
 cases k <;> cases k' <;> first|rfl|(simp[Gh] at h)
theorem Um {P:Program} {w:World} {k:IntKind} {op:BinOp} {t:TypeId} {a b:Nat} {v:Value} (h:XQ k op a b=some v) :
  (binOp op t (.int k (.ofNat a)) (.int k (.ofNat b))).run P w=.ok v w:=by
 have hb:∀ c d:Nat,Nat.beq c d=decide (Int.ofNat c=Int.ofNat d):=fun c d=>by
  rw[C0,Nat.beq_eq]; simp; omega
 have hl:∀ c d:Nat,Nat.blt c d=decide (Int.ofNat c<Int.ofNat d):=fun c d=>by
  rw[C0,IJ]; simp
 have hle:∀ c d:Nat,Nat.ble c d=decide (Int.ofNat c<=Int.ofNat d):=fun c d=>by
  rw[C0,Nat.ble_eq]; simp
 cases op <;> simp only[XQ,reduceCtorEq] at h
 case add=>
  cases hc:(Nat.beq (Gh k) 3&&Nat.blt (a+b) 9223372036854775808) with
  | false=>simp[hc] at h
  | true=>
   simp only[hc,AE,AY] at h;subst h;rw[AG,IJ] at hc;have hk:k=.i64:=MK (k':=.i64) hc.1;subst hk;have:=wrap_small (n:=a+b) hc.2;simp only[binOp,Op.intArith,ne_eq,K7,Dk,Sem.run_pure];rw[<-this];rfl
 case sub=>
  cases hc:(Nat.beq (Gh k) 3&&(Nat.ble b a&&Nat.blt a 9223372036854775808)) with
  | false=>simp[hc] at h
  | true=>
   simp only[hc,AE,AY] at h;subst h;rw[AG,AG,Nat.ble_eq,IJ] at hc;have hk:k=.i64:=MK (k':=.i64) hc.1;subst hk;have:=wrap_small (n:=a-b) (by omega);have e:(Int.ofNat a-Int.ofNat b)=Int.ofNat (a-b):=by simp only[W8]; omega
   simp only[binOp,Op.intArith,ne_eq,K7,Dk,Sem.run_pure,e,this]
 all_goals
  simp only[AY] at h;subst h;simp only[binOp,Op.intCmp,ne_eq,K7,Dk,Sem.run_pure,hb,hl,hle]
  try rfl
theorem Un {P:Program} {w:World} {op:BinOp} {t:TypeId} {a b:ByteArray} {v:Value} (h:XR op a.data.toList b.data.toList=some v):(binOp op t (.string a) (.string b)).run P w=.ok v w:=by
 cases op <;> simp only[XR,reduceCtorEq,AY] at h
 all_goals
  subst h;simp only[binOp,Op.stringOp,Sem.run_pure,Go.ByteArray.toList_eq,MJ,Sl]
theorem Nb {P:Program} {g:AH} {w:World} {op:BinOp} {t:TypeId} {x y:AV} {xv yv v:Value} (hx:V g w x xv) (hy:V g w y yv) (h:I6 op x y=some v) :
  (binOp op t xv yv).run P w=.ok v w/\∀ a b,(eqGuard op t a b xv yv).run P w=.ok () w:=by
 unfold I6 at h;split at h
 ·rename_i k a k' b
  rw[hx.CM,hy.CM];cases hk:Nat.beq (Gh k) (Gh k') with
  | false=>rw[hk] at h; simp at h
  | true=>
   rw[hk] at h;have:=MK hk;subst this;refine⟨Um h,fun a b=>?_⟩;unfold eqGuard;split <;> simp
 ·rw[hx.CM,hy.CM]
  refine⟨Un h,fun a b=>?_⟩;unfold eqGuard;split <;> simp
 ·simp at h
theorem Xo {P:Program} {g:AH} {w:World} {op:UnOp} {x:AV} {xv v:Value} (hx:V g w x xv) (h:SH op x=some v):(Op.unary op xv).run P w=.ok v w:=by
 unfold SH at h;split at h
 ·rw[hx.CM]
  split at h
  ·simp at h; subst h; simp[Op.unary]
  ·simp at h
 ·simp at h
theorem RO {P:Program} {g:AH} {w:World} {t:TypeId} {x i:AV} {xv iv v:Value} (hx:V g w x xv) (hi:V g w i iv) (h:Ka P t x i=some v):(Instr.index t xv iv).run P w=.ok v w:=by
 unfold Ka at h;split at h
 ·rename_i b k n
  rw[hx.CM,hi.CM];split at h
  ·rename_i c hu hc
   simp at h; subst h
   have hs:b[n]?=some c:=by
    have hlt:=(Ae.1 hc).1;have he:=(Ae.1 hc).2;have hlt':n<b.size:=by rw[DS] at hlt; exact hlt
    rw[getElem?_pos b n hlt'];rw[<-he];rfl
   have h0:(0:Int)<=Int.ofNat n:=Int.natCast_nonneg n;simp only[Instr.index,asIntOf,Sem.run_bind,Sem.run_pure,Result.andThen_ok,run_underlying hu,if_pos h0];have:(Int.ofNat n).toNat=n:=rfl;rw[this,hs];rfl
  ·simp at h
 ·simp at h
theorem Uo {P:Program} {g:AH} {w:World} {t ty:TypeId} {x:AV} {xv v:Value} (hx:V g w x xv) (h:Mt P t x=some v):(Builtin.len_ #[t] ty #[xv]).run P w=.ok v w:=by
 unfold Mt at h;split at h
 ·rename_i b
  rw[hx.CM];split at h
  ·rename_i hu
   simp at h; subst h;simp[Builtin.len_,run_underlying hu,goInt]
  ·simp at h
 ·simp at h
theorem Pn {g:AH} {w:World} {ρ:Nat->AV} {a:Act} (hρ:∀ t,V g w (ρ t) (a.tmps.getD t undef)) (xs:List Operand):VL g w (xs.map (AP ρ)) (xs.map a.eval):=by
 induction xs with
 | nil=>exact .nil
 | cons x xs ih=>exact .cons (AO hρ x) ih
theorem dx {E:Env} {g:AH} {w:World} {s:AK} (hI:Inv E g w s) {x:AV} {v:Value} {n:Nat} (hx:V g w x v) (h:Bk s x=some n):∃ a c,v=.slice a n c:=by
 unfold Bk at h;split at h
 ·rename_i id off len sz
  cases hal:Tel.alive s id with
  | false=>simp[hal] at h
  | true=>
   simp[hal] at h; subst h;cases hx with
   | I8 hd=>exact absurd hd (hI.alive hal)
   | ref=>exact⟨_,_,rfl⟩
 ·split at h
  ·rename_i rows hr
   simp at h; subst h;obtain⟨base,cap,b,o,sz,f,rfl,_,_⟩:=EC hx hr;exact⟨_,_,rfl⟩
  ·simp at h
theorem ME {E:Env} {g:AH} {w:World} {s:AK} {ρ:Nat->AV} {a:Act} {x:Operand} {v:AV} (o:Oper) (ho:o.op=.nilCheck x) (hI:Inv E g w s) (hρ:∀ t,V g w (ρ t) (a.tmps.getD t undef))
  (h:KY s (AP ρ x)=some v):∃ v',(∀ w2:World,(execOp a.eval o).run E.P w2=.ok (.value v') w2)/\V g w v v':=by
 obtain⟨dst,op,type,pos,after,guard⟩:=o;simp only at ho;subst ho;have hx:=AO hρ x;unfold KY at h;split at h
 ·rename_i id off e
  rw[e] at hx;cases hal:Tel.alive s id with
  | false=>simp[hal] at h
  | true=>
   simp[hal] at h; subst h;generalize Y1:a.eval x=v0 at hx;cases hx with
   | Ki hd=>exact absurd hd (hI.alive hal)
   | ptr hb=>exact⟨_,fun w2=>by simp[execOp,Y1],.ptr hb⟩
 ·rename_i e
  rw[e] at hx;simp at h; subst h;generalize Y1:a.eval x=v0 at hx;cases hx with|De=>exact⟨_,fun w2=>by simp[execOp,Y1],.De _ _⟩
 ·rename_i e
  rw[e] at hx;simp at h; subst h;generalize Y1:a.eval x=v0 at hx;cases hx with|DK _ f hr=>exact⟨_,fun w2=>by simp only[execOp,Y1,Sem.run_pure],.DK _ f hr⟩
 ·rename_i e
  rw[e] at hx;simp at h; subst h;generalize Y1:a.eval x=v0 at hx;cases hx with|func h1 h2 h3 h4=>exact⟨_,fun w2=>by simp[execOp,Y1],.func h1 h2 h3 h4⟩
 ·simp at h
theorem lQ {E:Env} {L:A0} {g:AH} {w:World} {s s':AK} {ρ:Nat->AV} {a:Act} {o:Oper} {v:AV} (hI:Inv E g w s) (hρ:∀ t,V g w (ρ t) (a.tmps.getD t undef))
  (h:CE E L ρ s o=some (v,s')):∃ v' w' g',pE E o a w v' w'/\V g' w' v v'/\Ext L g w g' w'/\Inv E g' w' s':=by
 obtain⟨dst,op,type,pos,after,guard⟩:=o
 have same:∀ (r:Option AV),(match r with|some v=>some (v,s)|none=>none)=some (v,s')->r=some v/\s'=s:=by
  intro r hr;cases r with
  | none=>simp at hr
  | some u=>simp at hr; exact⟨by rw[hr.1],hr.2.symm⟩
 have still:∀ (v':Value),(execOp a.eval ⟨dst,op,type,pos,after,guard⟩).run E.P w=.ok (.value v') w->V g w v v'->s'=s ->
   ∃ v' w' g',pE E ⟨dst,op,type,pos,after,guard⟩ a w v' w'/\V g' w' v v'/\Ext L g w g' w'/\Inv E g' w' s':=by
  intro v' hr hv hs;subst hs;exact⟨v',w,g,.inl hr,hv,Ext.refl _ _ _,hI⟩
 have qk:(∀ cs b,op≠.select cs b)->Ct E ρ ⟨dst,op,type,pos,after,guard⟩=some v->s'=s ->
   ∃ v' w' g',pE E ⟨dst,op,type,pos,after,guard⟩ a w v' w'/\V g' w' v v'/\Ext L g w g' w'/\Inv E g' w' s':=by
  intro hs hq hss;obtain⟨v',hr,hv⟩:=Ul hρ (by exact hs) hq;exact still v' hr hv hss
 cases op with
 | move x=>
  simp only[CE,AY,Af] at h;obtain⟨rfl,rfl⟩:=h;exact still _ (by simp[execOp]) (AO hρ x) rfl
 | assign x=>
  simp only[CE,AY,Af] at h;obtain⟨rfl,rfl⟩:=h;exact still _ (by simp[execOp]) (AO hρ x) rfl
 | pick c x y=>
  simp only[CE] at h;split at h
  ·rename_i t hc
   simp only[AY,Af] at h;obtain⟨rfl,rfl⟩:=h;have hcv:=AO hρ c;rw[hc] at hcv;have hcv:=hcv.CM;cases t
   ·exact still _ (by simp[execOp,hcv,asBool]) (AO hρ y) rfl
   ·exact still _ (by simp[execOp,hcv,asBool]) (AO hρ x) rfl
  ·simp at h
 | alloc t=>
  simp only[CE] at h;split at h
  ·rename_i z hz
   simp only[Gk,AY,Af] at h;obtain⟨rfl,rfl⟩:=h;obtain⟨i,zv,hi,iI,hrun,hvl⟩:=Dw (g:=g) (w:=w) hz;obtain⟨e1,e2⟩:=hI.Qi (L:=L) t hvl.full.1 hvl.full.2;have hb:(g.F1 s.bs.length w.heap.size hI.fresh).blk s.bs.length=some w.heap.size:=by simp[AH.F1]
   have hsh:(CO w zv.cells.toList t).shape? w.heap.size=some (t,z.length):=by
    simp[World.shape?,Bm,hvl.len]
   refine⟨.pointer (some ⟨w.heap.size,0,none⟩),_,_,.inl ?_,V.ptr (b:=w.heap.size) hb,e1,e2.NN hb hsh⟩;simp[execOp,Instr.alloc,hrun,newVar,newRow,CO]
  ·simp at h
 | box t x=>
  simp only[CE] at h;split at h
  ·rename_i hok
   simp only[Gk,AY,Af] at h;obtain⟨rfl,rfl⟩:=h;have hvl:=El (AO hρ x) hok;obtain⟨e1,e2⟩:=hI.Qi (L:=L) t hvl.full.1 hvl.full.2;have hb:(g.F1 s.bs.length w.heap.size hI.fresh).blk s.bs.length=some w.heap.size:=by simp[AH.F1]
   have hsh:(CO w (a.eval x).cells.toList t).shape? w.heap.size=some (t,(cellsOf (AP ρ x)).length):=by
    simp[World.shape?,Bm,hvl.len]
   refine⟨.pointer (some ⟨w.heap.size,0,none⟩),_,_,.inl ?_,V.ptr (b:=w.heap.size) hb,e1,e2.NN hb hsh⟩;simp[execOp,Instr.box,newVar,newRow,CO]
  ·simp at h
 | build t parts=>
  simp only[CE] at h;obtain⟨h,hs⟩:=same _ h;obtain⟨hk,hv⟩:=VJ hρ parts;obtain⟨v',hr,P5⟩:=XY hk hv h;rw[Fp] at hr;exact still v' (by simp only[execOp,Sem.run_bind,hr,Result.andThen_ok,Sem.run_pure]) P5 hs
 | buildSlice t len parts=>
  simp only[CE] at h;obtain⟨hk,hv⟩:=VJ hρ parts;obtain⟨v',w',g',hr,P5,he,hi'⟩:=Oe (L:=L) hI hk hv h;rw[Fp] at hr;exact⟨v',w',g',.inl (by simp only[execOp,Sem.run_bind,hr,Result.andThen_ok,Sem.run_pure]),P5,he,hi'⟩
 | makeSlice t l c=>
  simp only[CE] at h;obtain⟨v',w',g',hr,P5,he,hi'⟩:=P1 (L:=L) hI (AO hρ l) (AO hρ c) h;exact⟨v',w',g',.inl (by simp[execOp,hr]),P5,he,hi'⟩
 | load t x=>
  simp only[CE] at h;obtain⟨h,hs⟩:=same _ h;obtain⟨v',hr,hv⟩:=L9 hI (AO hρ x) h;exact still v' (by simp[execOp,hr]) hv hs
 | store t x y=>
  simp only[CE] at h;split at h
  ·rename_i s1 hst
   simp only[AY,Af] at h;obtain⟨rfl,rfl⟩:=h;obtain⟨w',hr,he,hi'⟩:=XV hI (AO hρ x) (AO hρ y) hst;exact⟨undef,w',g,.inr ⟨by simp[execOp,hr],rfl⟩,V.undef,he,hi'⟩
  ·simp at h
 | nilCheck x=>
  simp only[CE] at h;obtain⟨h,hs⟩:=same _ h;obtain⟨v',hr,hv⟩:=ME ⟨dst,.nilCheck x,type,pos,after,guard⟩ rfl hI hρ h;exact still v' (hr w) hv hs
 | fieldAddr t x f=>
  simp only[CE] at h;obtain⟨h,hs⟩:=same _ h;obtain⟨v',hr,hv⟩:=Kj hI (AO hρ x) h;exact still v' (by simp[execOp,hr w]) hv hs
 | field t x f=>
  simp only[CE] at h;obtain⟨h,hs⟩:=same _ h;obtain⟨v',hr,hv⟩:=XX (AO hρ x) h;exact still v' (by simp[execOp,hr]) hv hs
 | indexAddr t x i=>
  simp only[CE] at h;obtain⟨h,hs⟩:=same _ h;obtain⟨v',hr,hv⟩:=Ph hI (AO hρ x) (AO hρ i) h;exact still v' (by simp[execOp,hr]) hv hs
 | extract x i=>
  simp only[CE] at h;obtain⟨h,hs⟩:=same _ h;have hx:=AO hρ x;cases yG:AP ρ x with
  | tuple vs=>
   rw[yG] at hx;rw[yG] at h;simp only[L6] at h;obtain⟨us,hu,hvl⟩:=hx.Pg;obtain⟨u,h1,h2⟩:=hvl.get h;exact still u (by simp[execOp,hu,Instr.extract,h1]) h2 hs
  | _=>rw[yG] at h; simp[L6] at h
 | makeFunc fn first captured=>
  simp only[CE,AY,Af] at h;obtain⟨rfl,rfl⟩:=h;have h1:=Pn hρ first.toList;have h2:=Pn hρ captured.toList;refine still (.func fn (first.map a.eval) (captured.map a.eval)) (by simp[execOp,Instr.makeFunc]) ?_ rfl;have:=V.func (g:=g) (w:=w) (fn:=fn) h1.len h2.len h1.at_ h2.at_;have e1:(List.map a.eval first.toList).toArray=first.map a.eval:=by apply D9; simp
  have e2:(List.map a.eval captured.toList).toArray=captured.map a.eval:=by apply D9; simp
  rw[e1,e2] at this;exact this
 | makeInterface t x=>
  simp only[CE] at h;split at h
  ·simp at h
  ·rename_i d hne hu
   simp only[AY,Af] at h;obtain⟨rfl,rfl⟩:=h;refine still (.iface t (a.eval x)) ?_ (.iface (AO hρ x)) rfl;simp only[execOp,Instr.makeInterface,Sem.run_bind,run_underlying hu,Result.andThen_ok];cases d <;> first|rfl|exact absurd rfl (hne _)
  ·simp at h
 | slice t x lo hi mx=>
  simp only[CE] at h;split at h
  ·rename_i u hsl
   simp only[AY,Af] at h;obtain⟨rfl,rfl⟩:=h
   have opt:∀ (q:Option Operand),(∀ b,q.map (AP ρ)=some b->∃ c,q.map a.eval=some c/\V g w b c)/\(q.map (AP ρ)=none->q.map a.eval=none):=by
    intro q;cases q with
    | none=>exact⟨by simp,fun _=>rfl⟩
    | some z=>exact⟨fun b hb=>by simp at hb; subst hb; exact⟨_,rfl,AO hρ z⟩,by simp⟩
   obtain⟨v',hr,hv⟩:=Xn hI (AO hρ x) (opt lo).1 (opt lo).2 (opt hi).1 (opt hi).2 (opt mx).1 (opt mx).2 hsl;exact still v' (by simp[execOp,hr]) hv rfl
  ·obtain⟨h,hs⟩:=same _ h
   exact qk (by simp) h hs
 | binOp op t x y yt=>
  simp only[CE] at h;split at h
  ·rename_i u hf
   simp only[AY,Af] at h;obtain⟨rfl,rfl⟩:=h;obtain⟨h1,h2⟩:=Nb (P:=E.P) (t:=t) (AO hρ x) (AO hρ y) hf;exact still u (by simp only[execOp,Sem.run_bind,h2,Result.andThen_ok,h1,Sem.run_pure]) (V.IW _) rfl
  split at h
  ·rename_i u hn
   simp only[AY,Af] at h;obtain⟨rfl,rfl⟩:=h;unfold Hh at hn;cases hb:(sameKind (C9 E.P t) (D6 s (AP ρ x)) (Fw ρ y)||sameKind (C9 E.P t) (Fw ρ x) (D6 s (AP ρ y))) with
   | false=>simp[hb] at hn
   | true=>
    simp only[hb,AE] at hn
    have heq:(Op.equal t (a.eval x) (a.eval y)).run E.P w=.ok false w/\(∀ q,(eqGuard q t x y (a.eval x) (a.eval y)).run E.P w=.ok () w) /\
      binOp .eql t (a.eval x) (a.eval y)=(do pure (.bool (<-Op.equal t (a.eval x) (a.eval y))))/\binOp .neq t (a.eval x) (a.eval y)=(do pure (.bool (!(<-Op.equal t (a.eval x) (a.eval y))))):=by
     rw[DJ] at hb;rcases hb with hb|hb
     ·obtain⟨k,h1,h2,h3⟩:=E9 hb
      have a1:=MI hI (AO hρ x) h2;have a2:=Na hρ h3;refine⟨(VT h1 a1 a2).1,fun q=>?_,(VU a1 a2).1⟩;rcases a1 with ⟨_,_,e⟩|⟨_,_,_,_,e⟩|⟨_,_,_,_,e⟩|⟨_,_,_,e⟩ <;> rw[e] <;> (unfold eqGuard; split <;> simp)
     ·obtain⟨k,h1,h2,h3⟩:=E9 hb
      have a1:=MI hI (AO hρ y) h3;have a2:=Na hρ h2;refine⟨(VT h1 a1 a2).2,fun q=>?_,(VU a1 a2).2⟩;rcases a1 with ⟨_,_,e⟩|⟨_,_,_,_,e⟩|⟨_,_,_,_,e⟩|⟨_,_,_,e⟩ <;> rw[e] <;> (unfold eqGuard; split <;> (first|(simp; done)|(cases a.eval x <;> simp)))
    obtain⟨he,hg,b1,b2⟩:=heq;split at hn
    ·simp at hn; subst hn
     refine still (.bool false) ?_ (V.IW _) rfl;simp only[execOp,Sem.run_bind,hg,Result.andThen_ok,b1,he,Sem.run_pure]
    ·simp at hn; subst hn
     refine still (.bool true) ?_ (V.IW _) rfl;simp only[execOp,Sem.run_bind,hg,Result.andThen_ok,b2,he,Sem.run_pure,Rh]
    ·simp at hn
  ·obtain⟨h,hs⟩:=same _ h
   exact qk (by simp) h hs
 | unOp op t x=>
  simp only[CE] at h;split at h
  ·rename_i u hf
   simp only[AY,Af] at h;obtain⟨rfl,rfl⟩:=h;exact still u (by simp only[execOp,Sem.run_bind,Xo (AO hρ x) hf,Result.andThen_ok,Sem.run_pure]) (V.IW _) rfl
  ·obtain⟨h,hs⟩:=same _ h
   exact qk (by simp) h hs
 | index t x i=>
  simp only[CE] at h;split at h
  ·rename_i u hf
   simp only[AY,Af] at h;obtain⟨rfl,rfl⟩:=h;exact still u (by simp only[execOp,Sem.run_bind,RO (AO hρ x) (AO hρ i) hf,Result.andThen_ok,Sem.run_pure]) (V.IW _) rfl
  ·obtain⟨h,hs⟩:=same _ h
   exact qk (by simp) h hs
 | convert sa sb x=>
  simp only[CE] at h;have hx:=AO hρ x;split at h
  ·rename_i e b hsa pG yG
   split at h
   ·rename_i he
    simp only[AY,Af] at h;obtain⟨rfl,rfl⟩:=h;rw[yG] at hx;have hx:=hx.CM;obtain⟨v',w',g',hr,hv,hex,hi'⟩:=NH (L:=L) hI e b;refine⟨v',w',g',.inl ?_,hv,hex,hi'⟩;simp only[execOp,convert,hx,Sem.run_bind,run_underlying hsa,run_underlying pG,run_underlying he,Result.andThen_ok,hr,Sem.run_pure]
   ·simp at h
  ·rename_i e hsa pG
   split at h
   ·rename_i l he hl
    simp only[AY,Af] at h;obtain⟨rfl,rfl⟩:=h;obtain⟨⟨q,n,c,hq⟩,hr⟩:=P3 hI hx hl;refine still (.string ⟨l.toArray⟩) ?_ (V.IW _) rfl;rw[hq] at hr;simp only[execOp,hq,Sem.run_bind,run_convert_bytes_string w sa sb e q n c hsa he pG,hr,Result.andThen_ok,Sem.run_pure]
   ·simp at h
  ·obtain⟨h,hs⟩:=same _ h
   exact qk (by simp) h hs
 | call c=>
  obtain⟨callee,args,argTypes⟩:=c;cases callee with
  | value f=>simp[CE] at h
  | invoke r n=>simp[CE] at h
  | builtin b=>
   cases b with
   | len=>
    simp only[CE] at h;split at h
    ·rename_i x t ha ht
     split at h
     ·rename_i u hf
      simp only[AY,Af] at h;obtain⟨rfl,rfl⟩:=h;have Hs:args=#[x]:=by rw[<-Fp (xs:=args),ha]
      have ht':argTypes=#[t]:=by rw[<-Fp (xs:=argTypes),ht]
      subst Hs ht';refine still u ?_ (V.IW _) rfl;have:=Uo (P:=E.P) (ty:=type) (AO hρ x) hf;simp[execOp,resolve,invoke,builtin,this]
     split at h
     ·rename_i e n hu hl
      simp only[AY,Af] at h;obtain⟨rfl,rfl⟩:=h;obtain⟨c1,c2,hq⟩:=dx hI (AO hρ x) hl;have Hs:args=#[x]:=by rw[<-Fp (xs:=args),ha]
      have ht':argTypes=#[t]:=by rw[<-Fp (xs:=argTypes),ht]
      subst Hs ht';refine still (.int .i64 n) ?_ (V.IW _) rfl;simp[execOp,resolve,invoke,builtin,Builtin.len_,run_underlying hu,hq,goInt]
     ·obtain⟨h,hs⟩:=same _ h
      exact qk (by simp) h hs
    ·simp at h
   | append=>
    simp only[CE] at h;split at h
    ·rename_i x y t u ts ha ht
     split at h
     ·simp at h
     ·rename_i d hd hu
      obtain⟨v',w',g',hr,hv,hex,hi'⟩:=NU (T:=type) (ts:=ts) hI (AO hρ x) (AO hρ y) hu (fun k e=>hd k e) h;have Hs:args=#[x,y]:=by rw[<-Fp (xs:=args),ha]
      have ht':argTypes=(t::u::ts).toArray:=by rw[<-Fp (xs:=argTypes),ht]
      subst Hs ht';refine⟨v',w',g',.inl ?_,hv,hex,hi'⟩;simp[execOp,resolve,invoke,builtin,hr]
     ·simp at h
    ·simp at h
   | delete=>
    simp only[CE] at h;split at h
    ·rename_i m k t ts ha ht
     split at h
     ·rename_i s1 hd
      simp only[AY,Af] at h;obtain⟨rfl,rfl⟩:=h;have Hs:args=#[m,k]:=by rw[<-Fp (xs:=args),ha]
      have ht':argTypes=(t::ts).toArray:=by rw[<-Fp (xs:=argTypes),ht]
      subst Hs ht';obtain⟨w',hr,he,hi'⟩:=Uk (ty:=type) (ts:=ts) hI (AO hρ m) (AO hρ k) hd;refine⟨undef,w',g,.inl ?_,V.undef,he,hi'⟩;simp[execOp,resolve,invoke,builtin,hr]
     ·simp at h
    ·simp at h
   | _=>
    simp only[CE] at h;obtain⟨h,hs⟩:=same _ h;exact qk (by simp) h hs
 | makeMap t r=>
  cases r with
  | some r=>simp[CE] at h
  | none=>
   simp only[CE,AY,Af] at h;obtain⟨rfl,rfl⟩:=h;obtain⟨he,hi'⟩:=hI.ADo (L:=L);refine⟨.map (some w.heap.size),_,_,.inl ?_,.Fg (if_pos rfl),he,hi'⟩;simp[execOp,Instr.makeMap,HE]
 | lookup t m k ok=>
  simp only[CE] at h;obtain⟨h,hs⟩:=same _ h;obtain⟨v',hr,hv⟩:=Uj hI (AO hρ m) (AO hρ k) h;exact still v' (by simp[execOp,hr]) hv hs
 | mapUpdate t m k x=>
  simp only[CE] at h;split at h
  ·rename_i s1 hst
   simp only[AY,Af] at h;obtain⟨rfl,rfl⟩:=h;obtain⟨w',hr,he,hi'⟩:=Kn hI (AO hρ m) (AO hρ k) (AO hρ x) hst;exact⟨undef,w',g,.inr ⟨by simp[execOp,hr],rfl⟩,V.undef,he,hi'⟩
  ·simp at h
 | insert t m k x=>
  simp only[CE] at h;split at h
  ·rename_i s1 hst
   simp only[AY,Af] at h;obtain⟨rfl,rfl⟩:=h;obtain⟨w',hr,he,hi'⟩:=Kn hI (AO hρ m) (AO hρ k) (AO hρ x) hst;exact⟨undef,w',g,.inr ⟨by simp[execOp,hr],rfl⟩,V.undef,he,hi'⟩
  ·simp at h
 | _=>simp[CE] at h
end Go.Tel
