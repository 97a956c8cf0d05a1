/-
  Steps for walks: an append and a clear by what they run to.
-/
import Derived.Test.YtpgfpakdnijngaaGreatDoorEvI
import Derived.Deep.RegionLaw
import Derived.ArgAppend
set_option linter.all false
namespace Go.Tel
theorem Wt {P:Program} {ops:Array Oper} {o:Oper} {a:Act} {w:World} {K:Act->World->Prop} {Q:Exit->Act->World->Prop} {E:Prop}
  (hg:o.guard=none) (s x:Operand) (t u:TypeId) (hop:o.op=Op.call { callee:=Callee.builtin Builtin.copy,args:=#[s,x],argTypes:=#[t,u] }) (sv xv v:Value) (w':World)
  (hs:a.eval s=sv) (hx:a.eval x=xv) (hrun:(Builtin.copy_ #[t,u] o.type #[sv,xv]).run P w=.ok v w') (hK:K (a.put o.dst v) w') :
  if Region.wanted o (yielded ops a.tmps)=true then Oper.wp P o a w K Q else E:=by
 have hw:Region.wanted o (yielded ops a.tmps)=true:=by grind[Region.wanted]
 rw[if_pos hw];unfold Oper.wp;simp[execOp,hop,resolve,invoke,builtin,hs,hx,hrun,Result.andThen];exact hK
theorem Mr {P:Program} {ops:Array Oper} {o:Oper} {a:Act} {w:World} {rest:List Oper} {Q:Exit->Act->World->Prop}
  (hg:o.guard=none) (s x:Operand) (t u:TypeId) (hop:o.op=Op.call { callee:=Callee.builtin Builtin.append,args:=#[s,x],argTypes:=#[t,u] }) (sv xv v:Value) (w':World)
  (hs:a.eval s=sv) (hx:a.eval x=xv) (hrun:(Builtin.append_ #[t,u] o.type #[sv,xv]).run P w=.ok v w') (hK:wpList P ops Q rest (a.put o.dst v) w'):wpList P ops Q (o::rest) a w:=by
 refine wpList_plain hg λK hK'=>?_
 unfold Oper.wp;simp[execOp,hop,resolve,invoke,builtin,hs,hx,hrun,Result.andThen];exact hK' _ _ hK
theorem Wu {P:Program} {ops:Array Oper} {o:Oper} {a:Act} {w:World} {rest:List Oper} {Q:Exit->Act->World->Prop}
  (hg:o.guard=none) (s x:Operand) (t u:TypeId) (hop:o.op=Op.call { callee:=Callee.builtin Builtin.copy,args:=#[s,x],argTypes:=#[t,u] }) (sv xv v:Value) (w':World)
  (hs:a.eval s=sv) (hx:a.eval x=xv) (hrun:(Builtin.copy_ #[t,u] o.type #[sv,xv]).run P w=.ok v w') (hK:wpList P ops Q rest (a.put o.dst v) w'):wpList P ops Q (o::rest) a w:=by
 refine wpList_plain hg λK hK'=>?_
 unfold Oper.wp;simp[execOp,hop,resolve,invoke,builtin,hs,hx,hrun,Result.andThen];exact hK' _ _ hK
theorem QL {P:Program} {w:World} {t u elem T:TypeId} {i:TypeInfo} {b o dl dc:Nat} {x:Value} {n:Nat} {us vs:List Value} {et:TypeId} (ht:P.underlying t=some (.slice elem)) (hi:P.info? elem=some i) (h1:i.size=1)
  (hn:(Builtin.lenOf x).run P w=.ok n w) (hf:(Builtin.firstCells 1 (Nat.min n dl) x).run P w=.ok (List.toArray us) w) (hone:∀u∈us,u.oneCell'=true)
  (hb:w.heap[b]?=some (.cells ⟨vs⟩ et (0,0))) (hle:o+us.length<=vs.length) :
  (Builtin.copy_ #[t,u] T #[.slice (some ⟨b,o,none⟩) dl dc,x]).run P w=.ok (goInt (Nat.min n dl:Nat)) (BO w b (CJ vs o us) et):=by
 have hst:=F2 (P:=P) (b:=b) (o:=o) (e:=et) us 0 w vs hone hb AA;simp[*,Builtin.copy_,run_underlying,run_sizeOf]
theorem SW {P:Program} {w:World} {t u elem T:TypeId} {k:IntKind} {i:TypeInfo} {base:Option Addr} {sLen sCap n:Nat} {zv:Value} {os:List Value}
  (ht:P.underlying t=some (.slice elem)) (hi:P.info? elem=some i) (hu:P.underlying u=some (.int k)) (h1:i.size=1) (hz:i.zero=some zv) (hzc:zv.cells=#[zv])
  (ho:(Builtin.firstCells 1 sLen (.slice base sLen sCap)).run P (Bb w)=.ok (List.toArray os) (Bb w)) (hn:(n:Int)<9223372036854775808) (hn0:0<n)
  (hroom:sCap<sLen+n) (QS:(sLen+n)*i.bytes<=2 ^ 45) (MU:sLen+n<=2 ^ 45) :
  ∃cap rest,sLen+n<=cap/\rest.length=cap-(sLen+n) /\
   (Builtin.append_ #[t,u] T #[.slice base sLen sCap,.int .i64 n]).run P w=.ok (.slice (some ⟨w.heap.size,0,none⟩) (sLen+n) cap) (Cb (Bb w) (os++List.replicate n zv++rest) elem):=by
 have hcap:¬ (2 ^ 48<Builtin.nextslicecap (sLen+n) sCap*i.bytes):=by
  have:=nextslicecap_le (sLen+n) sCap hroom;have:=B5 i.bytes this
  grind
 have AW1:¬ (IntKind.i64.max<((sLen:Int)+(n:Int))):=by
  have:IntKind.i64.max=9223372036854775807:=rfl;omega
 have hwr:IntKind.i64.wrap (n:Int)=n:=by grind[IntKind.wrap_i64]
 have hnb:¬ ((n:Int)*(i.bytes:Int)>2 ^ 48):=AB;have hzero:∀w':World,(zeroValue elem).run P w'=.ok zv w':=λw'=>by simp[*,zeroValue,run_typeInfo]
 have hzr:∀n,Builtin.zeroCells zv.cells n=List.toArray (List.replicate n zv):=λn=>by
  apply NL;rw[hzc];simp[Builtin.zeroCells];apply List.ext_getElem
  all_goals grind
 refine⟨(sLen+n)+w.tape w.drawn (.appendCap (sLen+n) sCap elem) % (2 ^ 63-(sLen+n)),(Builtin.zeroCells zv.cells ((sLen+n)+w.tape w.drawn (.appendCap (sLen+n) sCap elem) % (2 ^ 63-(sLen+n))-(sLen+n))).toList,NN _ _,?_,?_⟩
 .grind
 .simp only[Builtin.append_]
  have sD:¬ (n:Int)<0:=AA;have h1n:¬ (n=0):=AA;simp[run_underlying ht,run_sizeOf hi,h1,run_underlying hu,run_typeInfo hi,Question.forced,Question.cut,asInt,asIntOf,hwr];have AaO:¬ (281474976710656<(n:Int)*(i.bytes:Int)):=AA;have AJ0:¬ (sLen+n<=sCap):=AA;have ASl:¬ (281474976710656<Builtin.nextslicecap (sLen+n) sCap*i.bytes):=AA;have h9:¬ (9223372036854775807<(sLen:Int)+(n:Int)):=AA;simp only[if_neg sD,if_neg AaO,if_neg AJ0,if_neg h9,if_neg ASl,if_neg h1n];have ho':(Builtin.firstCells 1 sLen (.slice base sLen sCap)).run P w.drew=.ok (List.toArray os) w.drew:=ho;have hz':∀n,Builtin.zeroCells zv.cells n=List.toArray (List.replicate n zv):=hzr;simp[ho',hzero,hz',newRow,Cb,Bb];have e:∀m,os.toArray++Array.replicate m zv=(⟨os++List.replicate m zv⟩:Array Value):=λm=>by simp
  rw[e];rfl
structure DelC (P:Program) (f:FuncId) (zs:List Value):Prop where
 body:Lq P f
 pos:zs≠[]
 run:∀(w:World) (b len cap:Nat) (vs:List Value) (e:TypeId) (i j:Nat),w.heap[b]?=some (.cells ⟨vs⟩ e (0,0))->cap*zs.length<=vs.length->len<=cap->i<j->j<=len->(∀u∈vs.take (len*zs.length),u.oneCell'=true) ->
  Calls P f #[.slice (some ⟨b,0,none⟩) len cap,.int .i64 i,.int .i64 j] w λe' w'=>e'=.returned (.slice (some ⟨b,0,none⟩) (i+(len-j)) cap) /\
   w'=BO w.drew b (CJ (CJ vs (i*zs.length) ((vs.drop (j*zs.length)).take ((len-j)*zs.length))) ((i+(len-j))*zs.length) (Fu (j-i) zs)) e
end Go.Tel
