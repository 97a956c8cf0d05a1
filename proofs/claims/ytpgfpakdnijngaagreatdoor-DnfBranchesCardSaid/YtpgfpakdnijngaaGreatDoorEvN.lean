/-
  Single operations, part 12: the theorem.
-/
import Derived.Test.YtpgfpakdnijngaaGreatDoorEvL
import Derived.Laws.Strings
set_option linter.all false
namespace Go.Tel
open Option renaming some->Y,none->G
open Bool renaming true->Z,false->ϴ
open Go renaming World->ϙ,Value->ϛ,TypeId->ϝ,Program->ϟ,Operand->ϧ
def gR {g:AZ} {w:ϙ} {x:AV} {v u:ϛ} (h:V g w x v) (b:Hx x=Y u):v=u:=by
 unfold Hx at b;split at b
 .simp at b; subst b; exact h.DX
 grind
def WG {E:Env} {g:AZ} {w:ϙ} {U:Nat->AV} {a:Act} (f:∀t,V g w (U t) (a.tmps.getD t undef)) {o:Oper} {v:AV} (hs:∀cs b,o.op≠.select cs b)
  (h:DN E U o=Y v):∃d,(execOp a.eval o).run E.P w=.ok (.value d) w/\V g w v d:=by
 unfold DN at h;split at h
 .rename_i e
  split at h
  .rename_i u j
   simp at h; subst h;refine⟨u,?_,V.OQ u⟩;rw[execOp_congr o hs (ρ:=a.eval) (ρ':=λx=>(Hx (A1 U x)).getD undef) (λx hx=>?_)]
   .grind[Wt]
   .have:=Cl.1 e x AB
    cases i:Hx (A1 U x) with
    | none=>grind
    | some u=>exact gR (A9 f x) i
  grind
 grind
theorem wrap_small {n:Nat} (h:n<9223372036854775808):IntKind.wrap .i64 (Int.ofNat n)=Int.ofNat n:=by grind[IntKind.wrap,IntKind.bits]
theorem M5 {k k':IntKind} (h:Nat.beq (Gs k) (Gs k')=Z):k=k':=by
 cases k <;> cases k' <;> simp_all[Gs]
def WH {P:ϟ} {w:ϙ} {k:IntKind} {op:BinOp} {t:ϝ} {a b:Nat} {v:ϛ} (h:Yu k op a b=Y v) :
  (binOp op t (.int k (.ofNat a)) (.int k (.ofNat b))).run P w=.ok v w:=by
 have hb:∀c d:Nat,Nat.beq c d=decide (Int.ofNat c=Int.ofNat d):=λc d=>by grind[Nat.beq_eq]
 have f:∀c d:Nat,Nat.blt c d=decide (Int.ofNat c<Int.ofNat d):=λc d=>by grind[Nat.blt_eq]
 have e:∀c d:Nat,Nat.ble c d=decide (Int.ofNat c<=Int.ofNat d):=λc d=>by
  rw[PU,Nat.ble_eq]; simp
 cases op <;> simp only[Yu,reduceCtorEq] at h
 case add=>
  grind[Gs,M5,wrap_small,binOp,Op.intArith,Sem.run_pure]
 case sub=>
  grind[Gs,M5,wrap_small,binOp,Op.intArith,Sem.run_pure]
 all_goals
  grind[binOp,Op.intCmp,Sem.run_pure]
def WI {P:ϟ} {w:ϙ} {op:BinOp} {t:ϝ} {a b:ByteArray} {v:ϛ} (h:Yv op a.data.toList b.data.toList=Y v):(binOp op t (.string a) (.string b)).run P w=.ok v w:=by
 cases op <;> simp only[Yv,reduceCtorEq,BU] at h
 all_goals
  grind[binOp,Op.stringOp,Sem.run_pure,Go.ByteArray.toList_eq,Rx,Tr]
def OY {P:ϟ} {g:AZ} {w:ϙ} {op:BinOp} {t:ϝ} {x y:AV} {d e v:ϛ} (hx:V g w x d) (f:V g w y e) (h:JW op x y=Y v) :
  (binOp op t d e).run P w=.ok v w/\∀a b,(eqGuard op t a b d e).run P w=.ok () w:=by
 unfold JW at h;split at h
 .rename_i k a j b
  rw[hx.DX,f.DX];cases i:Nat.beq (Gs k) (Gs j) with
  | false=>grind
  | true=>
   rw[i] at h;have:=M5 i;subst this;refine⟨WH h,λa b=>?_⟩;simp[*,eqGuard]
 .rw[hx.DX,f.DX]
  simp[*,WI,eqGuard]
 grind
def ZH {P:ϟ} {g:AZ} {w:ϙ} {op:UnOp} {x:AV} {b v:ϛ} (hx:V g w x b) (h:Yw op x=Y v):(Op.unary op b).run P w=.ok v w:=by
 unfold Yw at h;split at h
 .rw[hx.DX]
  split at h
  all_goals simp_all[Op.unary]
 grind
def SU {P:ϟ} {g:AZ} {w:ϙ} {t:ϝ} {x i:AV} {d e v:ϛ} (hx:V g w x d) (l:V g w i e) (h:Nv P t x i=Y v):(Instr.index t d e).run P w=.ok v w:=by
 unfold Nv at h;split at h
 .rename_i b k n
  rw[hx.DX,l.DX];split at h
  .rename_i c p f
   simp at h; subst h
   have r:b[n]?=Y c:=by
    have o:=(BJ.1 f).1;have m:=(BJ.1 f).2;have j:n<b.size:=HG;rw[getElem?_pos b n j];rw[<-m];rfl
   simp[*,Instr.index,asIntOf,run_underlying]
  grind
 grind
def WJ {P:ϟ} {g:AZ} {w:ϙ} {t ty:ϝ} {x:AV} {d v:ϛ} (hx:V g w x d) (h:Nw P t x=Y v):(Builtin.len_ #[t] ty #[d]).run P w=.ok v w:=by
 unfold Nw at h;split at h
 .rename_i b
  rw[hx.DX];split at h
  all_goals simp_all[Builtin.len_,run_underlying,goInt]
 grind
def Qu {g:AZ} {w:ϙ} {U:Nat->AV} {a:Act} (b:∀t,V g w (U t) (a.tmps.getD t undef)) (xs:List ϧ):VL g w (xs.map (A1 U)) (xs.map a.eval):=by
 induction xs with
 | nil=>exact .nil
 | cons x xs d=>exact .cons (A9 b x) d
def gS {E:Env} {g:AZ} {w:ϙ} {s:AY} (d:Inv E g w s) {x:AV} {v:ϛ} {n:Nat} (hx:V g w x v) (h:BG s x=Y n):∃a c,v=.slice a n c:=by
 unfold BG at h;split at h
 .rename_i id f len sz
  cases b:Tel.alive s id with
  | false=>grind
  | true=>
   simp[b] at h; subst h;cases hx with
   | Jb e=>exact absurd e (d.alive b)
   | ref=>simp
 grind[EU]
def Mz {E:Env} {g:AZ} {w:ϙ} {s:AY} {U:Nat->AV} {a:Act} {x:ϧ} {v:AV} (o:Oper) (k:o.op=.nilCheck x) (m:Inv E g w s) (n:∀t,V g w (U t) (a.tmps.getD t undef))
  (h:LN s (A1 U x)=Y v):∃l,(∀b:ϙ,(execOp a.eval o).run E.P b=.ok (.value l) b)/\V g w v l:=by
 obtain⟨dst,op,C,pos,B,guard⟩:=o;simp only at k;subst k;have hx:=A9 n x;unfold LN at h;split at h
 .rename_i id D e
  rw[e] at hx;cases j:Tel.alive s id with
  | false=>grind
  | true=>
   simp[j] at h; subst h;generalize d:a.eval x=i at hx;cases hx with
   | LS p=>exact absurd p (m.alive j)
   | ptr hb=>exact⟨_,λb=>by simp[*,execOp],.ptr hb⟩
 .rename_i e
  rw[e] at hx;simp at h; subst h;generalize d:a.eval x=i at hx;cases hx with|EF=>exact⟨_,λb=>by simp[*,execOp],.EF _ _⟩
 .rename_i e
  rw[e] at hx;simp at h; subst h;generalize d:a.eval x=i at hx;cases hx with|DF _ f r=>exact⟨_,λb=>by grind[execOp,Sem.run_pure],.DF _ f r⟩
 .rename_i e
  rw[e] at hx;simp at h; subst h;generalize d:a.eval x=i at hx;cases hx with|func u y z A=>exact⟨_,λb=>by simp[*,execOp],.func u y z A⟩
 grind
def oo {E:Env} {L:Ba} {g:AZ} {w:ϙ} {s M:AY} {U:Nat->AV} {a:Act} {o:Oper} {v:AV} (C:Inv E g w s) (j:∀t,V g w (U t) (a.tmps.getD t undef))
  (h:C6 E L U s o=Y (v,M)):∃l w' g',rz E o a w l w'/\V g' w' v l/\Ext L g w g' w'/\Inv E g' w' M:=by
 obtain⟨dst,op,N,pos,γ,guard⟩:=o
 have D:∀(r:Option AV),(match r with|some v=>Y (v,s)|none=>G)=Y (v,M)->r=Y v/\M=s:=by
  intro r A;cases r with
  | none=>grind
  | some u=>grind
 have p:∀(l:ϛ),(execOp a.eval ⟨dst,op,N,pos,γ,guard⟩).run E.P w=.ok (.value l) w->V g w v l->M=s ->
   ∃l w' g',rz E ⟨dst,op,N,pos,γ,guard⟩ a w l w'/\V g' w' v l/\Ext L g w g' w'/\Inv E g' w' M:=by
  intro l A B m;subst m;exact⟨l,w,g,.inl A,B,Ext.refl _ _ _,C⟩
 have O:(∀a0 b,op≠.select a0 b)->DN E U ⟨dst,op,N,pos,γ,guard⟩=Y v->M=s ->
   ∃l w' g',rz E ⟨dst,op,N,pos,γ,guard⟩ a w l w'/\V g' w' v l/\Ext L g w g' w'/\Inv E g' w' M:=by
  intro m ς Δ;have⟨l,A,B⟩:=WG j (by exact m) ς;exact p l A B Δ
 cases op with
 | move x=>
  simp only[C6,BU,Bg] at h;obtain⟨rfl,rfl⟩:=h;exact p _ AX (A9 j x) rfl
 | assign x=>
  simp only[C6,BU,Bg] at h;obtain⟨rfl,rfl⟩:=h;exact p _ AX (A9 j x) rfl
 | pick c x y=>
  simp only[C6] at h;split at h
  .rename_i t a3
   simp only[BU,Bg] at h;obtain⟨rfl,rfl⟩:=h;have ξ:=A9 j c;rw[a3] at ξ;have ξ:=ξ.DX;cases t
   .exact p _ (by simp[*,execOp,asBool]) (A9 j y) rfl
   .simp_all[execOp,asBool,A9]
  .grind
 | alloc t=>
  simp only[C6] at h;split at h
  .rename_i z a4
   simp only[HY,BU,Bg] at h;obtain⟨rfl,rfl⟩:=h;have⟨i,a5,σ,b0,Γ,I⟩:=ET (g:=g) (w:=w) a4;have⟨η,θ⟩:=C.TV (L:=L) t I.full.1 I.full.2;have hb:(g.GO s.bs.length w.heap.size C.fresh).blk s.bs.length=Y w.heap.size:=by simp[AZ.GO]
   have ο:(Cy w a5.cells.toList t).shape? w.heap.size=Y (t,z.length):=by
    simp[World.shape?,Cb,I.len]
   refine⟨.pointer (Y ⟨w.heap.size,0,G⟩),_,_,.inl ?_,V.ptr (b:=w.heap.size) hb,η,θ.OS hb ο⟩;simp[execOp,Instr.alloc,Γ,newVar,newRow,Cy]
  .grind
 | box t x=>
  simp only[C6] at h;split at h
  .rename_i Θ
   simp only[HY,BU,Bg] at h;obtain⟨rfl,rfl⟩:=h;have I:=E1 (A9 j x) Θ;have⟨η,θ⟩:=C.TV (L:=L) t I.full.1 I.full.2;have hb:(g.GO s.bs.length w.heap.size C.fresh).blk s.bs.length=Y w.heap.size:=by simp[AZ.GO]
   have ο:(Cy w (a.eval x).cells.toList t).shape? w.heap.size=Y (t,(cellsOf (A1 U x)).length):=by
    simp[World.shape?,Cb,I.len]
   refine⟨.pointer (Y ⟨w.heap.size,0,G⟩),_,_,.inl ?_,V.ptr (b:=w.heap.size) hb,η,θ.OS hb ο⟩;simp[execOp,Instr.box,newVar,newRow,Cy]
  .grind
 | build t parts=>
  simp only[C6] at h;have⟨h,m⟩:=D _ h;have⟨τ,B⟩:=Wv j parts;have⟨l,A,π⟩:=Y4 τ B h;rw[Hi] at A;exact p l (by grind[execOp,Sem.run_bind,Result.andThen_ok,Sem.run_pure]) π m
 | buildSlice t len parts=>
  simp only[C6] at h;have⟨τ,B⟩:=Wv j parts;have⟨l,w',g',A,π,α,δ⟩:=Pd (L:=L) C τ B h;rw[Hi] at A;exact⟨l,w',g',.inl (by simp only[execOp,Sem.run_bind,A,Result.andThen_ok,Sem.run_pure]),π,α,δ⟩
 | load t x=>
  simp only[C6] at h;have⟨h,m⟩:=D _ h;have⟨l,A,B⟩:=Mw C (A9 j x) h;exact p l (by simp[*,execOp]) B m
 | store t x y=>
  simp only[C6] at h;split at h
  .rename_i b3 Λ
   simp only[BU,Bg] at h;obtain⟨rfl,rfl⟩:=h;have⟨w',A,α,δ⟩:=Y1 C (A9 j x) (A9 j y) Λ;exact⟨undef,w',g,.inr ⟨by simp[execOp,A],rfl⟩,V.undef,α,δ⟩
  .grind
 | nilCheck x=>
  simp only[C6] at h;have⟨h,m⟩:=D _ h;have⟨l,A,B⟩:=Mz ⟨dst,.nilCheck x,N,pos,γ,guard⟩ rfl C j h;exact p l (A w) B m
 | fieldAddr t x f=>
  simp only[C6] at h;have⟨h,m⟩:=D _ h;have⟨l,A,B⟩:=LU C (A9 j x) h;exact p l (by simp[*,execOp]) B m
 | field t x f=>
  simp only[C6] at h;have⟨h,m⟩:=D _ h;have⟨l,A,B⟩:=Y3 (A9 j x) h;exact p l (by simp[*,execOp]) B m
 | indexAddr t x i=>
  simp only[C6] at h;have⟨h,m⟩:=D _ h;have⟨l,A,B⟩:=Qq C (A9 j x) (A9 j i) h;exact p l (by simp[*,execOp]) B m
 | extract x i=>
  simp only[C6] at h;have⟨h,m⟩:=D _ h;have hx:=A9 j x;cases ρ:A1 U x with
  | tuple b4=>
   rw[ρ] at hx;rw[ρ] at h;simp only[Mr] at h;have⟨us,β,I⟩:=hx.Qp;have⟨u,K,H⟩:=I.get h;exact p u (by simp[*,execOp,Instr.extract]) H m
  | _=>rw[ρ] at h; simp[Mr] at h
 | makeFunc φ first κ=>
  simp only[C6,BU,Bg] at h;obtain⟨rfl,rfl⟩:=h;have K:=Qu j first.toList;have H:=Qu j κ.toList;refine p (.func φ (first.map a.eval) (κ.map a.eval)) (by simp[execOp,Instr.makeFunc]) ?_ rfl;have:=V.func (g:=g) (w:=w) (fn:=φ) K.len H.len K.at_ H.at_;have η:(List.map a.eval first.toList).toArray=first.map a.eval:=by apply Ng; simp
  have θ:(List.map a.eval κ.toList).toArray=κ.map a.eval:=by apply Ng; simp
  rw[η,θ] at this;exact this
 | makeInterface t x=>
  simp only[C6] at h;split at h
  .simp at h
  .rename_i d Ξ β
   simp only[BU,Bg] at h;obtain⟨rfl,rfl⟩:=h;refine p (.iface t (a.eval x)) ?_ (.iface (A9 j x)) rfl;simp only[execOp,Instr.makeInterface,Sem.run_bind,run_underlying β,Result.andThen_ok];cases d <;> first|rfl|exact absurd rfl (Ξ _)
  .simp at h
 | slice t x χ σ mx=>
  simp only[C6] at h;split at h
  .rename_i u Φ
   simp only[BU,Bg] at h;obtain⟨rfl,rfl⟩:=h
   have X:∀(q:Option ϧ),(∀b,q.map (A1 U)=Y b->∃c,q.map a.eval=Y c/\V g w b c)/\(q.map (A1 U)=G->q.map a.eval=G):=by
    intro q;cases q with
    | none=>exact⟨AD,λ_=>rfl⟩
    | some z=>exact⟨λb hb=>by simp at hb; subst hb; exact⟨_,rfl,A9 j z⟩,AD⟩
   have⟨l,A,B⟩:=ZG C (A9 j x) (X χ).1 (X χ).2 (X σ).1 (X σ).2 (X mx).1 (X mx).2 Φ;exact p l (by simp[execOp,A]) B rfl
  .have⟨h,m⟩:=D _ h
   exact O AD h m
 | binOp op t x y b5=>
  simp only[C6] at h;split at h
  .rename_i u hf
   simp only[BU,Bg] at h;obtain⟨rfl,rfl⟩:=h;have⟨K,H⟩:=OY (P:=E.P) (t:=t) (A9 j x) (A9 j y) hf;exact p u (by simp only[execOp,Sem.run_bind,H,Result.andThen_ok,K,Sem.run_pure]) (V.Jo _) rfl
  split at h
  .rename_i u hn
   simp only[BU,Bg] at h;obtain⟨rfl,rfl⟩:=h;unfold JC at hn;cases hb:(sameKind (DT E.P t) (Ec s (A1 U x)) (F1 U y)||sameKind (DT E.P t) (F1 U x) (Ec s (A1 U y))) with
   | false=>simp[hb] at hn
   | true=>
    simp only[hb,AQ] at hn
    have Ψ:(Op.equal t (a.eval x) (a.eval y)).run E.P w=.ok ϴ w/\(∀q,(eqGuard q t x y (a.eval x) (a.eval y)).run E.P w=.ok () w) /\
      binOp .eql t (a.eval x) (a.eval y)=(do pure (.bool (<-Op.equal t (a.eval x) (a.eval y))))/\binOp .neq t (a.eval x) (a.eval y)=(do pure (.bool (!(<-Op.equal t (a.eval x) (a.eval y))))):=by
     rw[D5] at hb;rcases hb with hb|hb
     .have⟨k,K,H,υ⟩:=FF hb
      have Q:=M4 C (A9 j x) H;have ι:=OX j υ;refine⟨(W4 K Q ι).1,λq=>?_,(W5 Q ι).1⟩;rcases Q with ⟨_,_,e⟩|⟨_,_,_,_,e⟩|⟨_,_,_,_,e⟩|⟨_,_,_,e⟩ <;> rw[e] <;> (unfold eqGuard; split <;> simp)
     .have⟨k,K,H,υ⟩:=FF hb
      have Q:=M4 C (A9 j y) υ;have ι:=OX j H;refine⟨(W4 K Q ι).2,λq=>?_,(W5 Q ι).2⟩;rcases Q with ⟨_,_,e⟩|⟨_,_,_,_,e⟩|⟨_,_,_,_,e⟩|⟨_,_,_,e⟩ <;> rw[e] <;> simp[*,eqGuard]
    obtain⟨α,ψ,a6,a7⟩:=Ψ;split at hn
    .simp at hn; subst hn
     refine p (.bool ϴ) ?_ (V.Jo _) rfl;simp only[execOp,Sem.run_bind,ψ,Result.andThen_ok,a6,α,Sem.run_pure]
    .simp at hn; subst hn
     refine p (.bool Z) ?_ (V.Jo _) rfl;simp only[execOp,Sem.run_bind,ψ,Result.andThen_ok,a7,α,Sem.run_pure,PW]
    .grind
  .have⟨h,m⟩:=D _ h
   exact O AD h m
 | unOp op t x=>
  simp only[C6] at h;split at h
  .rename_i u hf
   simp only[BU,Bg] at h;obtain⟨rfl,rfl⟩:=h;exact p u (by simp only[execOp,Sem.run_bind,ZH (A9 j x) hf,Result.andThen_ok,Sem.run_pure]) (V.Jo _) rfl
  .have⟨h,m⟩:=D _ h
   exact O AD h m
 | index t x i=>
  simp only[C6] at h;split at h
  .rename_i u hf
   simp only[BU,Bg] at h;obtain⟨rfl,rfl⟩:=h;exact p u (by simp only[execOp,Sem.run_bind,SU (A9 j x) (A9 j i) hf,Result.andThen_ok,Sem.run_pure]) (V.Jo _) rfl
  .have⟨h,m⟩:=D _ h
   exact O AD h m
 | convert b6 b7 x=>
  simp only[C6] at h;have⟨h,m⟩:=D _ h;exact O AD h m
 | call c=>
  obtain⟨ω,W,S⟩:=c;cases ω with
  | value f=>simp[C6] at h
  | invoke r n=>simp[C6] at h
  | builtin b=>
   cases b with
   | len=>
    simp only[C6] at h;split at h
    .rename_i x t μ ν
     split at h
     .rename_i u hf
      simp only[BU,Bg] at h;obtain⟨rfl,rfl⟩:=h;have ε:W=#[x]:=by rw[<-Hi (xs:=W),μ]
      have ζ:S=#[t]:=by rw[<-Hi (xs:=S),ν]
      subst ε ζ;refine p u ?_ (V.Jo _) rfl;have:=WJ (P:=E.P) (ty:=N) (A9 j x) hf;simp[execOp,resolve,invoke,builtin,this]
     split at h
     .rename_i e n β a8
      simp only[BU,Bg] at h;obtain⟨rfl,rfl⟩:=h;have⟨b8,b9,ς⟩:=gS C (A9 j x) a8;have ε:W=#[x]:=by rw[<-Hi (xs:=W),μ]
      have ζ:S=#[t]:=by rw[<-Hi (xs:=S),ν]
      subst ε ζ;refine p (.int .i64 n) ?_ (V.Jo _) rfl;simp[execOp,resolve,invoke,builtin,Builtin.len_,run_underlying β,ς,goInt]
     .have⟨h,m⟩:=D _ h
      exact O AD h m
    .grind
   | append=>
    simp only[C6] at h;split at h
    .rename_i x y t u ts μ ν
     split at h
     .simp at h
     .rename_i d a9 β
      have⟨l,w',g',A,B,Ω,δ⟩:=OU (T:=N) (ts:=ts) C (A9 j x) (A9 j y) β (λk e=>a9 k e) h;have ε:W=#[x,y]:=by rw[<-Hi (xs:=W),μ]
      have ζ:S=(t::u::ts).toArray:=by rw[<-Hi (xs:=S),ν]
      subst ε ζ;refine⟨l,w',g',.inl ?_,B,Ω,δ⟩;simp[execOp,resolve,invoke,builtin,A]
     .grind
    .grind
   | delete=>
    simp[C6] at h
   | _=>
    simp only[C6] at h;have⟨h,m⟩:=D _ h;exact O AD h m
 | _=>simp[C6] at h
end Go.Tel
