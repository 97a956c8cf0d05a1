/-
  Steps for walks: an append and a clear by what they run to.
-/
import Derived.Test.YtpgfpakdnijngaaGreatDoorEvI
import Derived.Deep.RegionLaw
import Derived.ArgAppend
set_option linter.all false
namespace Go.Tel
open Option renaming some->Y,none->G
open Bool renaming true->Z
open Go renaming World->ϙ,Value->ϛ,TypeId->ϝ,Program->ϟ,Oper->ϡ,Operand->ϧ
def W6 {P:ϟ} {b:Array ϡ} {o:ϡ} {a:Act} {w:ϙ} {K:Act->ϙ->Prop} {Q:Exit->Act->ϙ->Prop} {E:Prop}
  (l:o.guard=G) (s x:ϧ) (t u:ϝ) (i:o.op=Op.call { callee:=Callee.builtin Builtin.copy,args:=#[s,x],argTypes:=#[t,u] }) (d e v:ϛ) (w':ϙ)
  (hs:a.eval s=d) (hx:a.eval x=e) (f:(Builtin.copy_ #[t,u] o.type #[d,e]).run P w=.ok v w') (j:K (a.put o.dst v) w') :
  if Region.wanted o (yielded b a.tmps)=Z then Oper.wp P o a w K Q else E:=by
 have k:Region.wanted o (yielded b a.tmps)=true:=by grind[Region.wanted]
 rw[if_pos k];unfold Oper.wp;simp[execOp,i,resolve,invoke,builtin,hs,hx,f,Result.andThen];exact j
def M8 {P:ϟ} {b:Array ϡ} {o:ϡ} {a:Act} {w:ϙ} {rest:List ϡ} {Q:Exit->Act->ϙ->Prop}
  (k:o.guard=G) (s x:ϧ) (t u:ϝ) (i:o.op=Op.call { callee:=Callee.builtin Builtin.append,args:=#[s,x],argTypes:=#[t,u] }) (d e v:ϛ) (w':ϙ)
  (hs:a.eval s=d) (hx:a.eval x=e) (f:(Builtin.append_ #[t,u] o.type #[d,e]).run P w=.ok v w') (l:wpList P b Q rest (a.put o.dst v) w'):wpList P b Q (o::rest) a w:=by
 refine wpList_plain k λK j=>?_
 unfold Oper.wp;simp[execOp,i,resolve,invoke,builtin,hs,hx,f,Result.andThen];exact j _ _ l
def W7 {P:ϟ} {b:Array ϡ} {o:ϡ} {a:Act} {w:ϙ} {rest:List ϡ} {Q:Exit->Act->ϙ->Prop}
  (k:o.guard=G) (s x:ϧ) (t u:ϝ) (i:o.op=Op.call { callee:=Callee.builtin Builtin.copy,args:=#[s,x],argTypes:=#[t,u] }) (d e v:ϛ) (w':ϙ)
  (hs:a.eval s=d) (hx:a.eval x=e) (f:(Builtin.copy_ #[t,u] o.type #[d,e]).run P w=.ok v w') (l:wpList P b Q rest (a.put o.dst v) w'):wpList P b Q (o::rest) a w:=by
 refine wpList_plain k λK j=>?_
 unfold Oper.wp;simp[execOp,i,resolve,invoke,builtin,hs,hx,f,Result.andThen];exact j _ _ l
def Qh {P:ϟ} {w:ϙ} {t u elem T:ϝ} {i:TypeInfo} {b o dl dc:Nat} {x:ϛ} {n:Nat} {us vs:List ϛ} {et:ϝ} (k:P.underlying t=Y (.slice elem)) (l:P.info? elem=Y i) (m:i.size=1)
  (hn:(Builtin.lenOf x).run P w=.ok n w) (hf:(Builtin.firstCells 1 (Nat.min n dl) x).run P w=.ok (List.toArray us) w) (d:∀u∈us,u.oneCell'=Z)
  (hb:w.heap[b]?=Y (.cells ⟨vs⟩ et (0,0))) (f:o+us.length<=vs.length) :
  (Builtin.copy_ #[t,u] T #[.slice (Y ⟨b,o,G⟩) dl dc,x]).run P w=.ok (goInt (Nat.min n dl:Nat)) (Bd w b (Ca vs o us) et):=by
 have j:=GN (P:=P) (b:=b) (o:=o) (e:=et) us 0 w vs d hb AA;simp[*,Builtin.copy_,run_underlying,run_sizeOf]
def Sd {P:ϟ} {w:ϙ} {t u elem T:ϝ} {k:IntKind} {i:TypeInfo} {base:Option Addr} {sLen sCap n:Nat} {b:ϛ} {os:List ϛ}
  (D:P.underlying t=Y (.slice elem)) (f:P.info? elem=Y i) (E:P.underlying u=Y (.int k)) (H:i.size=1) (U:i.zero=Y b) (s:b.cells=#[b])
  (I:(Builtin.firstCells 1 sLen (.slice base sLen sCap)).run P (Bt w)=.ok (List.toArray os) (Bt w)) (hn:(n:Int)<9223372036854775808) (N:0<n)
  (l:sCap<sLen+n) (O:(sLen+n)*i.bytes<=2 ^ 45) (Q:sLen+n<=2 ^ 45) :
  ∃cap rest,sLen+n<=cap/\rest.length=cap-(sLen+n) /\
   (Builtin.append_ #[t,u] T #[.slice base sLen sCap,.int .i64 n]).run P w=.ok (.slice (Y ⟨w.heap.size,0,G⟩) (sLen+n) cap) (Cy (Bt w) (os++List.replicate n b++rest) elem):=by
 have L:¬ (2 ^ 48<Builtin.nextslicecap (sLen+n) sCap*i.bytes):=by
  have:=nextslicecap_le (sLen+n) sCap l;have:=Be i.bytes this
  grind
 have M:¬ (IntKind.i64.max<((sLen:Int)+(n:Int))):=by
  have:IntKind.i64.max=9223372036854775807:=rfl;omega
 have x:IntKind.i64.wrap (n:Int)=n:=by grind[IntKind.wrap_i64]
 have S:¬ ((n:Int)*(i.bytes:Int)>2 ^ 48):=AB;have o:∀d:ϙ,(zeroValue elem).run P d=.ok b d:=λd=>by simp[*,zeroValue,run_typeInfo]
 have y:∀n,Builtin.zeroCells b.cells n=List.toArray (List.replicate n b):=λn=>by
  apply Ng;rw[s];simp[Builtin.zeroCells];apply List.ext_getElem
  all_goals grind
 refine⟨(sLen+n)+w.tape w.drawn (.appendCap (sLen+n) sCap elem) % (2 ^ 63-(sLen+n)),(Builtin.zeroCells b.cells ((sLen+n)+w.tape w.drawn (.appendCap (sLen+n) sCap elem) % (2 ^ 63-(sLen+n))-(sLen+n))).toList,Ni _ _,?_,?_⟩
 .grind
 .simp only[Builtin.append_]
  have z:¬ (n:Int)<0:=AA;have A:¬ (n=0):=AA;simp[run_underlying D,run_sizeOf f,H,run_underlying E,run_typeInfo f,Question.forced,Question.cut,asInt,asIntOf,x];have r:¬ (281474976710656<(n:Int)*(i.bytes:Int)):=AA;have j:¬ (sLen+n<=sCap):=AA;have p:¬ (281474976710656<Builtin.nextslicecap (sLen+n) sCap*i.bytes):=AA;have K:¬ (9223372036854775807<(sLen:Int)+(n:Int)):=AA;simp only[if_neg z,if_neg r,if_neg j,if_neg K,if_neg p,if_neg A];have B:(Builtin.firstCells 1 sLen (.slice base sLen sCap)).run P w.drew=.ok (List.toArray os) w.drew:=I;have C:∀n,Builtin.zeroCells b.cells n=List.toArray (List.replicate n b):=y;simp[B,o,C,newRow,Cy,Bt];have e:∀m,os.toArray++Array.replicate m b=(⟨os++List.replicate m b⟩:Array ϛ):=λm=>by simp
  rw[e];rfl
structure DelC (P:ϟ) (f:FuncId) (zs:List ϛ):Prop where
 body:MC P f
 pos:zs≠[]
 run:∀(w:ϙ) (b len cap:Nat) (vs:List ϛ) (e:ϝ) (i j:Nat),w.heap[b]?=Y (.cells ⟨vs⟩ e (0,0))->cap*zs.length<=vs.length->len<=cap->i<j->j<=len->(∀u∈vs.take (len*zs.length),u.oneCell'=Z) ->
  Calls P f #[.slice (Y ⟨b,0,G⟩) len cap,.int .i64 i,.int .i64 j] w λe' w'=>e'=.returned (.slice (Y ⟨b,0,G⟩) (i+(len-j)) cap) /\
   w'=Bd w.drew b (Ca (Ca vs (i*zs.length) ((vs.drop (j*zs.length)).take ((len-j)*zs.length))) ((i+(len-j))*zs.length) (GC (j-i) zs)) e
end Go.Tel
