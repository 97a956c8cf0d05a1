/-
  Single operations, part 10: make, conversions, nil, plain operations; all together.
-/
import Derived.Test.YtpgfpakdnijngaaGreatDoorEvK
import Derived.Laws.BytesString
import Derived.Orders
set_option linter.all false
namespace Go.Tel
open Option renaming some->Y,none->G
open Bool renaming true->Z,false->ϴ
open Go renaming World->ϙ,Value->ϛ,TypeId->ϝ,Program->ϟ
def Pr {n:Int} (b:0<=n) (d:n<=2 ^ 40):IntKind.i64.wrap n=n:=by
 have hb:IntKind.i64.bits=64:=rfl
 grind[IntKind.wrap]
def WC {P:ϟ} {w:ϙ} {t elem:ϝ} {len cap:Int} {i':TypeInfo} {b:ϛ} (n:P.underlying t=Y (.slice elem)) (d:P.info? elem=Y i')
  (e:(zeroValue elem).run P w=.ok b w) (i:b.cells.size=i'.size) (s:i'.size≠0) (o:0<=len) (p:len<=cap) (f:cap<=2 ^ 40) (r:cap*i'.bytes<=2 ^ 45) :
  (Instr.makeSlice t (.int .i64 len) (.int .i64 cap)).run P w=.ok (.slice (Y ⟨w.heap.size,0,G⟩) len.toNat cap.toNat) (Cy w (GC cap.toNat b.cells.toList) elem):=by
 have j:IntKind.i64.wrap len=len:=Pr o AA;have k:IntKind.i64.wrap cap=cap:=Pr AA f;simp only[Instr.makeSlice,Sem.run_bind,run_underlying n,Result.andThen_ok,asInt,asIntOf,Sem.run_pure,run_typeInfo d,j,k];have u:(decide (cap<0)||decide ((i'.bytes:Int)*cap>2 ^ 48))=false:=AB;rw[if_neg AB];simp only[run_askRoom,Result.andThen_ok,run_sizeOf d,Sem.run_bind]
 by_cases l:cap.toNat*i'.size=0
 .have m:cap.toNat=0:=by grind[Nat.mul_eq_zero]
  rw[m];simp only[Sm,HA,Sem.run_bind,Sem.run_pure,Result.andThen_ok];rw[show(Array.map (λx=>(#[]:Array ϛ)[x % (#[]:Array ϛ).size]!) (Array.range 0))=⟨[]⟩ from by simp];rfl
 .rw[if_neg l]
  simp only[Sem.run_bind,e,Result.andThen_ok,Sem.run_pure];have:=TX b.cells cap.toNat AA;rw[i] at this ⊢;rw[this];rfl
def rz (E:Env) (o:Oper) (a:Act) (w:ϙ) (v:ϛ) (w':ϙ):Prop:=
 (execOp a.eval o).run E.P w=.ok (.value v) w'\/((execOp a.eval o).run E.P w=.ok .skip w'/\v=undef)
def M4 {E:Env} {g:AZ} {w:ϙ} {s:AY} (j:Inv E g w s) {x:AV} {v:ϛ} {k:Nat} (hx:V g w x v) (h:Ec s x=Y k) :
  (k=0/\∃a,v=.pointer (Y a))\/(k=1/\∃a n c,v=.slice (Y a) n c)\/(k=2/\∃f p q,v=.func f p q)\/(k=3/\∃t u,v=.iface t u):=by
 unfold Ec at h;split at h
 .rename_i id l
  cases d:Tel.alive s id with
  | false=>grind
  | true=>
   simp[d] at h;cases hx with
   | ptr=>grind
   | LS e=>exact absurd e (j.alive d)
 .simp at h; cases hx with|EF=>grind
 .simp at h; cases hx with|DF=>grind
 .simp at h; cases hx with|func=>grind
 .simp at h; cases hx with|iface=>grind
 .rename_i id l len sz
  cases d:Tel.alive s id with
  | false=>grind
  | true=>
   simp[d] at h;cases hx with
   | ref=>grind
   | Jb e=>exact absurd e (j.alive d)
 .split at h
  .rename_i c r A m
   simp at h;obtain⟨y,z,b,o,sz,f,rfl,_,i⟩:=EU hx m;have:=i.hbase AD (by rw[<-i.hsz (c::r) AD]; simp)
   grind
  grind
def OX {g:AZ} {w:ϙ} {U:Nat->AV} {a:Act} (b:∀t,V g w (U t) (a.tmps.getD t undef)) {x:Operand} {k:Nat} (h:F1 U x=Y k) :
  (k=0/\a.eval x=.pointer G)\/(k=1/\a.eval x=.slice G 0 0)\/(k=2/\a.eval x=.nilFunc)\/(k=3/\a.eval x=.nilIface):=by
 unfold F1 at h;split at h
 .simp at h; exact .inr (.inl ⟨h.symm,rfl⟩)
 .have hx:=A9 b x
  split at h
  .rename_i e; rw[e] at hx; simp at h; exact .inl ⟨h.symm,hx.DX⟩
  .rename_i e; rw[e] at hx; simp at h; exact .inr (.inr (.inl ⟨h.symm,hx.DX⟩))
  .rename_i e; rw[e] at hx; simp at h; exact .inr (.inr (.inr ⟨h.symm,hx.DX⟩))
  grind
def Tq {P:ϟ} {t:ϝ} {k:Nat} (h:DT P t=Y k) :
  (k=0/\∃e,P.underlying t=Y (.pointer e))\/(k=1/\∃e,P.underlying t=Y (.slice e))\/(k=2/\∃p r v,P.underlying t=Y (.func p r v))\/(k=3/\∃m,P.underlying t=Y (.interface m)):=by grind[DT]
def FF {a b c:Option Nat} (h:sameKind a b c=Z):∃k,a=Y k/\b=Y k/\c=Y k:=by
 unfold sameKind at h;split at h
 .rename_i x y z
  simp at h
  grind
 grind
def W4 {P:ϟ} {w:ϙ} {t:ϝ} {x y:ϛ} {k:Nat} (l:DT P t=Y k)
  (hx:(k=0/\∃a,x=.pointer (Y a))\/(k=1/\∃a n c,x=.slice (Y a) n c)\/(k=2/\∃f p q,x=.func f p q)\/(k=3/\∃t u,x=.iface t u))
  (b:(k=0/\y=.pointer G)\/(k=1/\y=.slice G 0 0)\/(k=2/\y=.nilFunc)\/(k=3/\y=.nilIface)) :
  (Op.equal t x y).run P w=.ok ϴ w/\(Op.equal t y x).run P w=.ok ϴ w:=by
 have⟨n,o⟩:∃n,Op.maxDepth=n+1:=⟨9999,rfl⟩;unfold Op.equal;rw[o];rcases Tq l with ⟨rfl,e,d⟩|⟨rfl,e,d⟩|⟨rfl,p,r,v,d⟩|⟨rfl,m,d⟩
 all_goals
  rcases hx with ⟨i,hx⟩|⟨i,hx⟩|⟨i,hx⟩|⟨i,hx⟩ <;> (first|omega|skip)
  rcases b with ⟨j,b⟩|⟨j,b⟩|⟨j,b⟩|⟨j,b⟩ <;> (first|omega|skip)
 .obtain⟨a,rfl⟩:=hx; simp[*,Op.equalIn,run_underlying]
 .obtain⟨a,_,c,rfl⟩:=hx; subst b
  constructor <;> simp[*,Op.equalIn,run_underlying] <;> rfl
 .obtain⟨f,p,q,rfl⟩:=hx; subst b
  constructor <;> simp[*,Op.equalIn,run_underlying]
 .obtain⟨t,u,rfl⟩:=hx; simp[*,Op.equalIn,run_underlying]
def W5 {t:ϝ} {x y:ϛ} {k:Nat}
  (hx:(k=0/\∃a,x=.pointer (Y a))\/(k=1/\∃a n c,x=.slice (Y a) n c)\/(k=2/\∃f p q,x=.func f p q)\/(k=3/\∃t u,x=.iface t u))
  (e:(k=0/\y=.pointer G)\/(k=1/\y=.slice G 0 0)\/(k=2/\y=.nilFunc)\/(k=3/\y=.nilIface)) :
  (binOp .eql t x y=(do pure (.bool (<-Op.equal t x y)))/\binOp .neq t x y=(do pure (.bool (!(<-Op.equal t x y))))) /\
  (binOp .eql t y x=(do pure (.bool (<-Op.equal t y x)))/\binOp .neq t y x=(do pure (.bool (!(<-Op.equal t y x))))):=by
 rcases hx with ⟨b,a,rfl⟩|⟨b,a,n,c,rfl⟩|⟨b,f,p,q,rfl⟩|⟨b,t,u,rfl⟩ <;>
 rcases e with ⟨d,rfl⟩|⟨d,rfl⟩|⟨d,rfl⟩|⟨d,rfl⟩ <;> exact⟨⟨rfl,rfl⟩,⟨rfl,rfl⟩⟩
def OW:∀(a b:Ϝ),F2 a b=Z->a=b:=by
 intro a
 induction a with
 | nil=>grind[F2]
 | cons x d e=>
  intro b h;cases b with
  | nil=>grind[F2]
  | cons y f=>
   grind[F2,UInt8.toNat_inj,Nat.eq_of_beq_eq_true]
theorem Rx (a b:Ϝ):F2 a b=(a==b):=by
 rw[PU,Gf];refine⟨OW a b,λh=>?_⟩;subst h
 induction a with
 | nil=>rfl
 | cons x d e=>simp[*,F2]
theorem Tr:∀a b:Ϝ,L4 a b=Op.bytesLess a b
 | _,[]=>by cases ‹Ϝ› <;> rfl
 | [],_::_=>rfl
 | x::d,y::e=>by
  simp only[L4,Op.bytesLess,Tr d e]
  grind[Nat.blt_eq,UInt8.lt_iff_toNat_lt,Nat.beq_eq,UInt8.toNat_inj]
def setW (w:ϙ) (r:Nat) (o:Obj):ϙ:={ w with heap:=w.heap.set! r o }
def AZ.addM (g:AZ) (id b:Nat):AZ:={ g with mp:=λi=>if i=id then Y b else g.mp i }
end Go.Tel
