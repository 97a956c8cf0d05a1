/-
  Single operations, part 10: make, conversions, nil, plain operations; all together.
-/
import Derived.Test.YtpgfpakdnijngaaGreatDoorEvK
import Derived.Laws.BytesString
import Derived.Orders
set_option linter.all false
namespace Go.Tel
theorem PS {n:Int} (h0:0<=n) (h1:n<=2 ^ 40):IntKind.i64.wrap n=n:=by
 have hb:IntKind.i64.bits=64:=rfl
 grind[IntKind.wrap]
theorem Vv {P:Program} {w:World} {t elem:TypeId} {len cap:Int} {i':TypeInfo} {zv:Value} (hu:P.underlying t=some (.slice elem)) (hi:P.info? elem=some i')
  (hrun:(zeroValue elem).run P w=.ok zv w) (hzs:zv.cells.size=i'.size) (hk:i'.size≠0) (h0:0<=len) (hle:len<=cap) (AXW:cap<=2 ^ 40) (hcb:cap*i'.bytes<=2 ^ 45) :
  (Instr.makeSlice t (.int .i64 len) (.int .i64 cap)).run P w=.ok (.slice (some ⟨w.heap.size,0,none⟩) len.toNat cap.toNat) (Cb w (Fu cap.toNat zv.cells.toList) elem):=by
 have hwl:IntKind.i64.wrap len=len:=PS h0 AA;have hwc:IntKind.i64.wrap cap=cap:=PS AA AXW;simp only[Instr.makeSlice,Sem.run_bind,run_underlying hu,Result.andThen_ok,asInt,asIntOf,Sem.run_pure,run_typeInfo hi,hwl,hwc];have t1:(decide (cap<0)||decide ((i'.bytes:Int)*cap>2 ^ 48))=false:=AB;rw[if_neg AB];simp only[run_askRoom,Result.andThen_ok,run_sizeOf hi,Sem.run_bind]
 by_cases hn0:cap.toNat*i'.size=0
 .have hc0:cap.toNat=0:=by grind[Nat.mul_eq_zero]
  rw[hc0];simp only[YO,Gs,Sem.run_bind,Sem.run_pure,Result.andThen_ok];rw[show(Array.map (λx=>(#[]:Array Value)[x % (#[]:Array Value).size]!) (Array.range 0))=⟨[]⟩ from by simp];rfl
 .rw[if_neg hn0]
  simp only[Sem.run_bind,hrun,Result.andThen_ok,Sem.run_pure];have:=TM zv.cells cap.toNat AA;rw[hzs] at this ⊢;rw[this];rfl
def th (E:Env) (o:Oper) (a:Act) (w:World) (v:Value) (w':World):Prop:=
 (execOp a.eval o).run E.P w=.ok (.value v) w'\/((execOp a.eval o).run E.P w=.ok .skip w'/\v=undef)
theorem Mo {E:Env} {g:AP} {w:World} {s:AQ} (hI:Inv E g w s) {x:AV} {v:Value} {k:Nat} (hx:V g w x v) (h:EI s x=some k) :
  (k=0/\∃a,v=.pointer (some a))\/(k=1/\∃a n c,v=.slice (some a) n c)\/(k=2/\∃f p q,v=.func f p q)\/(k=3/\∃t u,v=.iface t u):=by
 unfold EI at h;split at h
 .rename_i id off
  cases hal:Tel.alive s id with
  | false=>grind
  | true=>
   simp[hal] at h;cases hx with
   | ptr=>grind
   | Li hd=>exact absurd hd (hI.alive hal)
 .simp at h; cases hx with|Dt=>grind
 .simp at h; cases hx with|Cw=>grind
 .simp at h; cases hx with|func=>grind
 .simp at h; cases hx with|iface=>grind
 .rename_i id off len sz
  cases hal:Tel.alive s id with
  | false=>grind
  | true=>
   simp[hal] at h;cases hx with
   | ref=>grind
   | JI hd=>exact absurd hd (hI.alive hal)
 .split at h
  .rename_i c r rs hr
   simp at h;obtain⟨base,cap,b,o,sz,f,rfl,_,hra⟩:=Ed hx hr;have:=hra.hbase AD (by rw[<-hra.hsz (c::r) AD]; simp)
   grind
  grind
theorem N5 {g:AP} {w:World} {U:Nat->AV} {a:Act} (hU:∀t,V g w (U t) (a.tmps.getD t undef)) {x:Operand} {k:Nat} (h:Fp U x=some k) :
  (k=0/\a.eval x=.pointer none)\/(k=1/\a.eval x=.slice none 0 0)\/(k=2/\a.eval x=.nilFunc)\/(k=3/\a.eval x=.nilIface):=by
 unfold Fp at h;split at h
 .simp at h; exact .inr (.inl ⟨h.symm,rfl⟩)
 .have hx:=Av hU x
  split at h
  .rename_i e; rw[e] at hx; simp at h; exact .inl ⟨h.symm,hx.DC⟩
  .rename_i e; rw[e] at hx; simp at h; exact .inr (.inr (.inl ⟨h.symm,hx.DC⟩))
  .rename_i e; rw[e] at hx; simp at h; exact .inr (.inr (.inr ⟨h.symm,hx.DC⟩))
  grind
theorem Ti {P:Program} {t:TypeId} {k:Nat} (h:C7 P t=some k) :
  (k=0/\∃e,P.underlying t=some (.pointer e))\/(k=1/\∃e,P.underlying t=some (.slice e))\/(k=2/\∃p r v,P.underlying t=some (.func p r v))\/(k=3/\∃m,P.underlying t=some (.interface m)):=by grind[C7]
theorem E1 {a b c:Option Nat} (h:sameKind a b c=true):∃k,a=some k/\b=some k/\c=some k:=by
 unfold sameKind at h;split at h
 .rename_i x y z
  simp at h
  grind
 grind
theorem Wr {P:Program} {w:World} {t:TypeId} {x y:Value} {k:Nat} (ht:C7 P t=some k)
  (hx:(k=0/\∃a,x=.pointer (some a))\/(k=1/\∃a n c,x=.slice (some a) n c)\/(k=2/\∃f p q,x=.func f p q)\/(k=3/\∃t u,x=.iface t u))
  (hy:(k=0/\y=.pointer none)\/(k=1/\y=.slice none 0 0)\/(k=2/\y=.nilFunc)\/(k=3/\y=.nilIface)) :
  (Op.equal t x y).run P w=.ok false w/\(Op.equal t y x).run P w=.ok false w:=by
 obtain⟨n,hd⟩:∃n,Op.maxDepth=n+1:=⟨9999,rfl⟩;unfold Op.equal;rw[hd];rcases Ti ht with ⟨rfl,e,hu⟩|⟨rfl,e,hu⟩|⟨rfl,p,r,v,hu⟩|⟨rfl,m,hu⟩
 all_goals
  rcases hx with ⟨h1,hx⟩|⟨h1,hx⟩|⟨h1,hx⟩|⟨h1,hx⟩ <;> (first|omega|skip)
  rcases hy with ⟨h2,hy⟩|⟨h2,hy⟩|⟨h2,hy⟩|⟨h2,hy⟩ <;> (first|omega|skip)
 .obtain⟨a,rfl⟩:=hx; simp[*,Op.equalIn,run_underlying]
 .obtain⟨a,_,c,rfl⟩:=hx; subst hy
  constructor <;> simp[*,Op.equalIn,run_underlying] <;> rfl
 .obtain⟨f,p,q,rfl⟩:=hx; subst hy
  constructor <;> simp[*,Op.equalIn,run_underlying]
 .obtain⟨t,u,rfl⟩:=hx; simp[*,Op.equalIn,run_underlying]
theorem Ws {t:TypeId} {x y:Value} {k:Nat}
  (hx:(k=0/\∃a,x=.pointer (some a))\/(k=1/\∃a n c,x=.slice (some a) n c)\/(k=2/\∃f p q,x=.func f p q)\/(k=3/\∃t u,x=.iface t u))
  (hy:(k=0/\y=.pointer none)\/(k=1/\y=.slice none 0 0)\/(k=2/\y=.nilFunc)\/(k=3/\y=.nilIface)) :
  (binOp .eql t x y=(do pure (.bool (<-Op.equal t x y)))/\binOp .neq t x y=(do pure (.bool (!(<-Op.equal t x y))))) /\
  (binOp .eql t y x=(do pure (.bool (<-Op.equal t y x)))/\binOp .neq t y x=(do pure (.bool (!(<-Op.equal t y x))))):=by
 rcases hx with ⟨h1,a,rfl⟩|⟨h1,a,n,c,rfl⟩|⟨h1,f,p,q,rfl⟩|⟨h1,t,u,rfl⟩ <;>
 rcases hy with ⟨h2,rfl⟩|⟨h2,rfl⟩|⟨h2,rfl⟩|⟨h2,rfl⟩ <;> exact⟨⟨rfl,rfl⟩,⟨rfl,rfl⟩⟩
theorem N4:∀(a b:List UInt8),Fq a b=true->a=b:=by
 intro a
 induction a with
 | nil=>grind[Fq]
 | cons x xs ih=>
  intro b h;cases b with
  | nil=>grind[Fq]
  | cons y ys=>
   grind[Fq,UInt8.toNat_inj,Nat.eq_of_beq_eq_true]
theorem Rj (a b:List UInt8):Fq a b=(a==b):=by
 rw[Sg,HN];refine⟨N4 a b,λh=>?_⟩;subst h
 induction a with
 | nil=>rfl
 | cons x xs ih=>simp[*,Fq]
theorem Tj:∀a b:List UInt8,Lg a b=Op.bytesLess a b
 | _,[]=>by cases ‹List UInt8› <;> rfl
 | [],_::_=>rfl
 | x::xs,y::ys=>by
  simp only[Lg,Op.bytesLess,Tj xs ys]
  grind[Nat.blt_eq,UInt8.lt_iff_toNat_lt,Nat.beq_eq,UInt8.toNat_inj]
def setW (w:World) (r:Nat) (o:Obj):World:={ w with heap:=w.heap.set! r o }
def AP.addM (g:AP) (id b:Nat):AP:={ g with mp:=λi=>if i=id then some b else g.mp i }
end Go.Tel
