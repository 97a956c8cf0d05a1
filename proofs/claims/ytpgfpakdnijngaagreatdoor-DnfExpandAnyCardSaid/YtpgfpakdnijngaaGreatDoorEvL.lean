/-
  Single operations, part 10: make, conversions, nil, plain operations; all together.
-/
import Derived.Test.YtpgfpakdnijngaaGreatDoorEvK
import Derived.Laws.BytesString
import Derived.Orders
set_option linter.all false
namespace Go.Tel
theorem Oh {n:Int} (h0:0<=n) (h1:n<=2 ^ 40):IntKind.i64.wrap n=n:=by
 have hb:IntKind.i64.bits=64:=rfl
 grind[IntKind.wrap]
theorem NF {P:Program} {w:World} {t elem:TypeId} {len cap:Int} {i':TypeInfo} {zv:Value} (hu:P.underlying t=some (.slice elem)) (hi:P.info? elem=some i')
  (hrun:(zeroValue elem).run P w=.ok zv w) (hzs:zv.cells.size=i'.size) (hk:i'.size≠0) (h0:0<=len) (hle:len<=cap) (AI3:cap<=2 ^ 40) (hcb:cap*i'.bytes<=2 ^ 45) :
  (Instr.makeSlice t (.int .i64 len) (.int .i64 cap)).run P w=.ok (.slice (some ⟨w.heap.size,0,none⟩) len.toNat cap.toNat) (CW w (Fg cap.toNat zv.cells.toList) elem):=by
 have hwl:IntKind.i64.wrap len=len:=Oh h0 (by omega);have hwc:IntKind.i64.wrap cap=cap:=Oh (by omega) AI3;simp only[Instr.makeSlice,Sem.run_bind,run_underlying hu,Result.andThen_ok,asInt,asIntOf,Sem.run_pure,run_typeInfo hi,hwl,hwc];have t1:(decide (cap<0)||decide ((i'.bytes:Int)*cap>2 ^ 48))=false:=by grind
 rw[if_neg (by grind)];simp only[run_askRoom,Result.andThen_ok,run_sizeOf hi,Sem.run_bind]
 by_cases hn0:cap.toNat*i'.size=0
 .have hc0:cap.toNat=0:=by grind[Nat.mul_eq_zero]
  rw[hc0];simp only[XU,F2,Sem.run_bind,Sem.run_pure,Result.andThen_ok];rw[show(Array.map (λx=>(#[]:Array Value)[x % (#[]:Array Value).size]!) (Array.range 0))=⟨[]⟩ from by simp];rfl
 .rw[if_neg hn0]
  simp only[Sem.run_bind,hrun,Result.andThen_ok,Sem.run_pure];have:=SV zv.cells cap.toNat (by omega);rw[hzs] at this ⊢;rw[this];rfl
theorem Pv {E:Env} {L:A3} {g:AE} {w:World} {s s':AL} (hI:Inv E g w s) {t:TypeId} {l c v:AV} {lv cv:Value}
  (hl:V g w l lv) (hc:V g w c cv) (h:I6 E.P s t l c=some (v,s')) :
  ∃v' w' g',(Instr.makeSlice t lv cv).run E.P w=.ok v' w'/\V g' w' v v'/\Ext L g w g' w'/\Inv E g' w' s':=by
 unfold I6 at h;split at h
 .rename_i elem len cap hu
  have e1:=hl.CQ;have e2:=hc.CQ;subst e1; subst e2;split at h
  .rename_i i z hi hz
   split at h
   .rename_i hcnd
    obtain⟨h0,hle,AI3,hcb,hzl,hk⟩:=hcnd;obtain⟨i',zv,hi',je,hrun,hvl⟩:=Dd (g:=g) (w:=w) hz;have:i'=i:=by grind
    subst this;have hzs:zv.cells.size=i'.size:=by rw[<-G8,<-hvl.len]; omega
    have hr:=NF (w:=w) hu hi hrun hzs hk h0 hle AI3 hcb;split at h
    .rename_i hc0
     subst hc0;simp only[Au,A0] at h;obtain⟨rfl,rfl⟩:=h;have qv:len=0:=by omega
     subst qv;obtain⟨a1,a2⟩:=hI.AET (L:=L) (Fg (0:Int).toNat zv.cells.toList) elem;exact⟨_,_,_,hr,V.AA (b:=0) (o:=0) (sz:=0) (f:=λ_ _=>undef) .nil,a1,a2⟩
    .split at h
     .rename_i hcz hlc
      subst hlc;simp only[Au,A0] at h;obtain⟨rfl,rfl⟩:=h;have hv2:=hvl.Fg len.toNat;obtain⟨a1,a2⟩:=hI.Qp (L:=L) elem hv2.full.1 hv2.full.2;refine⟨_,_,_,hr,V.ref (b:=w.heap.size) (e:=elem) (n:=(Fg len.toNat zv.cells.toList).length) ?_ (Ac _) ?_ ?_,a1,a2⟩
      .simp[AE.Fi]
      .exact Bh (by rw[Bv,if_pos rfl])
      grind[Jp]
     .split at h
      .rename_i qv
       subst qv;simp only[Au,A0] at h;obtain⟨rfl,rfl⟩:=h;obtain⟨a1,a2⟩:=hI.Zg (L:=L) (t:=s.ts.length) (n:=0) (cap:=cap.toNat) (sz:=i'.size) (vs:=Fg cap.toNat zv.cells.toList) (e:=elem) (by grind[Jp]) (AI _) hk (by grind[Dk]) (.inl ⟨rfl,rfl⟩);refine⟨_,_,_,hr,?_,a1,a2⟩;exact V.own (b:=w.heap.size) (o:=0) (sz:=i'.size) (f:=λ_ _=>undef) (l:=⟨w.heap.size,cap.toNat,i'.size,0,elem⟩) .nil (AI _) (by simp[AE.F5]) (Ac _) (λ_=>⟨rfl,rfl,rfl,rfl,rfl⟩)
      grind
   grind
  grind
 grind
theorem RM {g:AE} {w:World} (cs:List AV):∀(l:List UInt8) (us:List Value),KN cs=some l->VL g w cs us ->
  ∃ns:List Int,l=ns.map (λn=>UInt8.ofNat n.toNat)/\us=ns.map (Value.int .u8):=by
 induction cs with
 | nil=>intro l us h hv; simp[KN] at h; subst h; exact⟨[],rfl,hv.EL⟩
 | cons r cs ih=>
  intro l us h hv;obtain⟨u,us',rfl,h1,h2⟩:=hv.cases;unfold KN at h;split at h
  .grind
  .rename_i n rest heq
   cases heq;split at h
   .rename_i l' hl'
    simp at h; subst h;obtain⟨ns,rfl,rfl⟩:=ih l' us' hl' h2;exact⟨n::ns,rfl,by rw[h1.CQ]; rfl⟩
   grind
  grind
theorem V.fB {g:AE} {w:World} {y:AV} {b:ByteArray} (h:V g w y (.string b)):y=.pv (.sc (.string b)):=by
 cases h with|pv h=>cases h; rfl
theorem foldl_push (ns:List Int):∀b:ByteArray,ns.foldl (λr n=>r.push (UInt8.ofNat n.toNat)) b=⟨b.data++(ns.map (λn=>UInt8.ofNat n.toNat)).toArray⟩:=by
 induction ns with
 | nil=>simp
 | cons n ns ih=>
  simp[*]
theorem Px {E:Env} {g:AE} {w:World} {s:AL} (hI:Inv E g w s) {y:AV} {yv:Value} {l:List UInt8} (hy:V g w y yv) (h:K8 s y=some l) :
  (∃a n c,yv=.slice a n c)/\(Conv.bytesToString yv).run E.P w=.ok (.string ⟨l.toArray⟩) w:=by
 unfold K8 at h;split at h
 .grind
 .rename_i hns
  split at h
  .rename_i cs hcs
   obtain⟨n,us,h1,h2,h3,h4⟩:=HF hI hy (by decide) hcs;obtain⟨ns,rfl,rfl⟩:=RM cs l us h h4;have h3:=h3 w rfl;cases yv with
   | slice a m c=>
    refine⟨⟨a,m,c,rfl⟩,?_⟩;simp[Builtin.lenOf] at h1;subst h1;cases a with
    | none=>
     simp[Builtin.firstCells] at h3;simp[h3,Conv.bytesToString];rfl
    | some a=>
     simp only[Builtin.firstCells,Nat.mul_one] at h3;rw[run_bytesToString w a m c ns h3,foldl_push];simp
   | string b=>exact absurd hy.fB (hns _)
   | _=>simp_all[Builtin.lenOf]
  grind
theorem M3 {E:Env} {L:A3} {g:AE} {w:World} {s:AL} (hI:Inv E g w s) (e:TypeId) (b:ByteArray) :
  ∃v' w' g',(Conv.stringToBytes e b).run E.P w=.ok v' w'/\V g' w' (.pv (.list (b.data.toList.map λb=>[.sc (.int .u8 b.toNat)]))) v'/\Ext L g w g' w'/\Inv E g' w' s:=by
 obtain⟨e1,i1⟩:=hI.drew (L:=L)
 have hcap:∃cap vs fz,b.size<=cap/\(∀(q:Nat) (x:UInt8),b.data.toList[q]?=some x->vs[q]?=some (Value.int .u8 x.toNat)) /\
   (Conv.stringToBytes e b).run E.P w=.ok (.slice (some ⟨w.heap.size,0,none⟩) b.size cap) (G1 (BN w) (.cells ⟨vs⟩ e fz)):=by
  obtain⟨q,hq⟩:∃q,q=w.tape w.drawn (.appendCap b.size 0 e) % (2 ^ 63-b.size):=⟨_,rfl⟩;obtain⟨vs,hvs⟩:∃vs,vs=b.data.toList.map (λb=>Value.int .u8 b.toNat)++List.replicate q (Value.int .u8 0):=⟨_,rfl⟩;refine⟨b.size+q,vs,(vs.length,vs.length+1),Kz _ _,?_,?_⟩
  .grind
  .have X7:(b.data.map λb=>Value.int .u8 b.toNat)++Array.replicate (b.size+q-b.size) (Value.int .u8 0)=⟨vs⟩:=by grind
   have hsh:(G1 (BN w) (.cells ⟨vs⟩ e)).shape? w.heap.size=some (e,vs.length):=by grind[World.shape?,KV,BN]
   have hfz:(G1 (BN w) (.cells ⟨vs⟩ e)).freeze ⟨w.heap.size,vs.length,none⟩ 1=G1 (BN w) (.cells ⟨vs⟩ e (vs.length,vs.length+1)):=by
    refine He ?_ rfl rfl rfl rfl;apply OD
    grind[KV,World.freeze,BN]
   simp only[Conv.stringToBytes,Sem.run_bind,run_choose,Question.forced,Question.cut,DD,Ht,Result.andThen_ok,newRow,run_newObj,Sem.run_pure,markStringish,run_shape]
   grind[G1,BN,run_freeze,Result.andThen_ok]
 obtain⟨cap,vs,fz,hc,hvs,hrun⟩:=hcap;obtain⟨e2,i2⟩:=i1.Zc (L:=L) (.cells ⟨vs⟩ e fz);refine⟨_,_,_,hrun,?_,e1.trans e2,i2⟩
 have hra:D6 (g.nx λb _=>b=(BN w).heap.size).I (G1 (BN w) (.cells ⟨vs⟩ e fz)) (b.data.toList.map λb=>[PV.sc (.int .u8 b.toNat)]) (some ⟨w.heap.size,0,none⟩) w.heap.size 0 1 (λi _=>(vs[i]?).getD undef):=by
  refine⟨λrow hr=>?_,λ_ _=>rfl,λi row j c hr hj=>?_,λi row j c hr hj=>?_⟩
  .grind
  .rw[E2] at hr
   cases hx:b.data.toList[i]? with
   | none=>grind
   | some x=>
    simp[hx] at hr; subst hr;have hj0:j=0:=by grind
    subst hj0;refine⟨.inr rfl,?_⟩;rw[Bg (by rw[KV]; exact if_pos rfl)]
    grind
  .rw[E2] at hr
   cases hx:b.data.toList[i]? with
   | none=>grind
   | some x=>
    simp[hx] at hr; subst hr;have hj0:j=0:=by grind
    subst hj0;simp at hj; subst hj;rw[hvs i x hx];exact .sc _
 have hlen:(b.data.toList.map λb=>[PV.sc (Value.int .u8 b.toNat)]).length=b.size:=by simp
 have:=VP.Hx hra (show _<=cap by omega);rw[hlen] at this;exact .pv this
def sx (E:Env) (o:Oper) (a:Act) (w:World) (v:Value) (w':World):Prop:=
 (execOp a.eval o).run E.P w=.ok (.value v) w'\/((execOp a.eval o).run E.P w=.ok .skip w'/\v=undef)
theorem L4 {E:Env} {g:AE} {w:World} {s:AL} (hI:Inv E g w s) {x:AV} {v:Value} {k:Nat} (hx:V g w x v) (h:D4 s x=some k) :
  (k=0/\∃a,v=.pointer (some a))\/(k=1/\∃a n c,v=.slice (some a) n c)\/(k=2/\∃f p q,v=.func f p q)\/(k=3/\∃t u,v=.iface t u):=by
 unfold D4 at h;split at h
 .rename_i id off
  cases hal:Tel.alive s id with
  | false=>grind
  | true=>
   simp[hal] at h;cases hx with
   | ptr=>grind
   | KU hd=>exact absurd hd (hI.alive hal)
 .simp at h; cases hx with|DX=>grind
 .simp at h; cases hx with|Cn=>grind
 .simp at h; cases hx with|func=>grind
 .simp at h; cases hx with|iface=>grind
 .rename_i id off len sz
  cases hal:Tel.alive s id with
  | false=>grind
  | true=>
   simp[hal] at h;cases hx with
   | ref=>grind
   | Ik hd=>exact absurd hd (hI.alive hal)
 .split at h
  .rename_i c r rs hr
   simp at h;obtain⟨base,cap,b,o,sz,f,rfl,_,hra⟩:=Dy hx hr;have:=hra.hbase (by simp) (by rw[<-hra.hsz (c::r) (by simp)]; simp)
   grind
  grind
theorem NH {g:AE} {w:World} {ρ:Nat->AV} {a:Act} (hρ:∀t,V g w (ρ t) (a.tmps.getD t undef)) {x:Operand} {k:Nat} (h:Fc ρ x=some k) :
  (k=0/\a.eval x=.pointer none)\/(k=1/\a.eval x=.slice none 0 0)\/(k=2/\a.eval x=.nilFunc)\/(k=3/\a.eval x=.nilIface):=by
 unfold Fc at h;split at h
 .simp at h; exact .inr (.inl ⟨h.symm,rfl⟩)
 .have hx:=Aa hρ x
  split at h
  .rename_i e; rw[e] at hx; simp at h; exact .inl ⟨h.symm,hx.CQ⟩
  .rename_i e; rw[e] at hx; simp at h; exact .inr (.inr (.inl ⟨h.symm,hx.CQ⟩))
  .rename_i e; rw[e] at hx; simp at h; exact .inr (.inr (.inr ⟨h.symm,hx.CQ⟩))
  grind
theorem Sw {P:Program} {t:TypeId} {k:Nat} (h:C7 P t=some k) :
  (k=0/\∃e,P.underlying t=some (.pointer e))\/(k=1/\∃e,P.underlying t=some (.slice e))\/(k=2/\∃p r v,P.underlying t=some (.func p r v))\/(k=3/\∃m,P.underlying t=some (.interface m)):=by grind[C7]
theorem Ep {a b c:Option Nat} (h:sameKind a b c=true):∃k,a=some k/\b=some k/\c=some k:=by
 unfold sameKind at h;split at h
 .rename_i x y z
  simp at h
  grind
 grind
theorem Vm {P:Program} {w:World} {t:TypeId} {x y:Value} {k:Nat} (ht:C7 P t=some k)
  (hx:(k=0/\∃a,x=.pointer (some a))\/(k=1/\∃a n c,x=.slice (some a) n c)\/(k=2/\∃f p q,x=.func f p q)\/(k=3/\∃t u,x=.iface t u))
  (hy:(k=0/\y=.pointer none)\/(k=1/\y=.slice none 0 0)\/(k=2/\y=.nilFunc)\/(k=3/\y=.nilIface)) :
  (Op.equal t x y).run P w=.ok false w/\(Op.equal t y x).run P w=.ok false w:=by
 obtain⟨n,hd⟩:∃n,Op.maxDepth=n+1:=⟨9999,rfl⟩;unfold Op.equal;rw[hd];rcases Sw ht with ⟨rfl,e,hu⟩|⟨rfl,e,hu⟩|⟨rfl,p,r,v,hu⟩|⟨rfl,m,hu⟩
 all_goals
  rcases hx with ⟨h1,hx⟩|⟨h1,hx⟩|⟨h1,hx⟩|⟨h1,hx⟩ <;> (first|omega|skip)
  rcases hy with ⟨h2,hy⟩|⟨h2,hy⟩|⟨h2,hy⟩|⟨h2,hy⟩ <;> (first|omega|skip)
 .obtain⟨a,rfl⟩:=hx; simp[*,Op.equalIn,run_underlying]
 .obtain⟨a,_,c,rfl⟩:=hx; subst hy
  constructor <;> simp[*,Op.equalIn,run_underlying] <;> rfl
 .obtain⟨f,p,q,rfl⟩:=hx; subst hy
  constructor <;> simp[*,Op.equalIn,run_underlying]
 .obtain⟨t,u,rfl⟩:=hx; simp[*,Op.equalIn,run_underlying]
theorem Vn {t:TypeId} {x y:Value} {k:Nat}
  (hx:(k=0/\∃a,x=.pointer (some a))\/(k=1/\∃a n c,x=.slice (some a) n c)\/(k=2/\∃f p q,x=.func f p q)\/(k=3/\∃t u,x=.iface t u))
  (hy:(k=0/\y=.pointer none)\/(k=1/\y=.slice none 0 0)\/(k=2/\y=.nilFunc)\/(k=3/\y=.nilIface)) :
  (binOp .eql t x y=(do pure (.bool (<-Op.equal t x y)))/\binOp .neq t x y=(do pure (.bool (!(<-Op.equal t x y))))) /\
  (binOp .eql t y x=(do pure (.bool (<-Op.equal t y x)))/\binOp .neq t y x=(do pure (.bool (!(<-Op.equal t y x))))):=by
 rcases hx with ⟨h1,a,rfl⟩|⟨h1,a,n,c,rfl⟩|⟨h1,f,p,q,rfl⟩|⟨h1,t,u,rfl⟩ <;>
 rcases hy with ⟨h2,rfl⟩|⟨h2,rfl⟩|⟨h2,rfl⟩|⟨h2,rfl⟩ <;> exact⟨⟨rfl,rfl⟩,⟨rfl,rfl⟩⟩
theorem ND:∀(a b:List UInt8),Ek a b=true->a=b:=by
 intro a
 induction a with
 | nil=>grind[Ek]
 | cons x xs ih=>
  intro b h;cases b with
  | nil=>grind[Ek]
  | cons y ys=>
   grind[Ek,UInt8.toNat_inj,Nat.eq_of_beq_eq_true]
theorem L5 (a b:List UInt8):Ek a b=(a==b):=by
 rw[OJ,K2];refine⟨ND a b,λh=>?_⟩;subst h
 induction a with
 | nil=>rfl
 | cons x xs ih=>simp[*,Ek]
theorem Sx:∀a b:List UInt8,LB a b=Op.bytesLess a b
 | _,[]=>by cases ‹List UInt8› <;> rfl
 | [],_::_=>rfl
 | x::xs,y::ys=>by
  simp only[LB,Op.bytesLess,Sx xs ys]
  grind[Nat.blt_eq,UInt8.lt_iff_toNat_lt,Nat.beq_eq,UInt8.toNat_inj]
theorem Sy {a:ByteArray}:∀{es:List MapEntry} {i:Nat} {r:Option (Nat×Value)},OP a.data.toList es i=some r->Instr.findNow .string (.string a) es i=some r
 | [],_,_,h=>by assumption
 | e::es,i,r,h=>by
  simp only[OP] at h;split at h
  .rename_i b hk
   have hb:Ek a.data.toList b.data.toList=(a==b):=by
    have e1:(a==b)=(a.data==b.data):=by rfl
    grind[L5,Array.ext']
   simp only[Instr.findNow,Instr.sameNow,hk,<-hb];cases hc:Ek a.data.toList b.data.toList with
   | true=>grind
   | false=>rw[hc] at h; exact Sy h
  grind
theorem Gv {P:Program} {w:World} {r:Nat} {es:Array MapEntry} {c:Nat} (h:w.heap[r]?=some (.map es c)):(getObj r).run P w=.ok (.map es c) w:=by grind[getObj,Sem.run]
def Py (w:World) (r:Nat) (o:Obj):World:={ w with heap:=w.heap.set! r o }
theorem Jy {P:Program} {w:World} {r:Nat} {o:Obj} {es:Array MapEntry} {c:Nat} (h:w.heap[r]?=some (.map es c)):(setObj r o).run P w=.ok () (Py w r o):=by
 simp only[setObj,Sem.run,h];rfl
theorem Vo {w:World} {r:Nat} {o:Obj} (h:r<w.heap.size) (k:Nat):(Py w r o).heap[k]?=if k=r then some o else w.heap[k]?:=by grind[Py]
theorem Gw {P:Program} {t:TypeId} {k:Value} {es:List MapEntry} {r:Option (Nat×Value)} (h:SQ P t k es=some r) (w:World) (empty:Bool) :
  (Instr.checkKey empty 10000 t k).run P w=.ok () w/\(Instr.findKey t k es).run P w=.ok r w:=by
 unfold SQ at h;split at h
 .rename_i i hu
  refine⟨?_,by simp[*,Instr.findKey,run_underlying]⟩;obtain⟨n,hn⟩:∃n,10000=n+1:=⟨9999,rfl⟩;rw[hn];simp[*,Instr.checkKey,run_underlying]
 .rename_i hu
  split at h
  .rename_i b
   refine⟨?_,by simp[*,Instr.findKey,run_underlying,Sy]⟩;obtain⟨n,hn⟩:∃n,10000=n+1:=⟨9999,rfl⟩;rw[hn];simp[*,Instr.checkKey,run_underlying]
  grind
 grind
theorem KB {E:Env} {g:AE} {w:World} {s:AL} (hI:Inv E g w s) {m:AV} {mv:Value} {es:List MapEntry} {clock:Nat} (hm:V g w m mv) (h:K9 s m=some (es,clock)) :
  ∃id b,m=.FL id/\g.mp id=some b/\mv=.map (some b)/\w.heap[b]?=some (.map es.toArray clock):=by
 unfold K9 at h;split at h
 .rename_i id
  split at h
  .rename_i es' c' hs
   simp at h;obtain⟨rfl,rfl⟩:=h;cases hm with
   | @FL _ b hb=>
    obtain⟨es2,c2,h1,h2⟩:=hI.mp id b hb
    grind
  grind
 grind
theorem Qw {g:AE} {w:World} {x:AV} {v u:Value} (h:V g w x v) (hc:jb x=some u):v=u:=by
 unfold jb at hc;split at hc
 .simp at hc; subst hc; exact h.CQ
 .simp at hc; subst hc
  cases h with
  | @func _ _ _ vs us hl hm _ _=>
   grind
 grind
theorem Oi {g:AE} {w:World}:∀{cs:List AV} {vs us:List Value},SP cs=some vs->VL g w cs us->us=vs
 | [],vs,us,h,hl=>by simp[SP] at h; subst h; exact hl.EL
 | c::cs,vs,us,h,hl=>by
  simp only[SP] at h;split at h
  .rename_i v ws hv hw
   simp at h; subst h;obtain⟨u,us',rfl,h1,h2⟩:=hl.cases;rw[Qw h1 hv,Oi hw h2]
  grind
theorem Zy {g:AE} {w:World} {x:AV} {v u:Value} (h:V g w x v) (hc:jc x=some u):v=u:=by
 unfold jc at hc;split at hc
 .split at hc
  .rename_i vs hv
   simp at hc; subst hc;obtain⟨us,rfl,hl⟩:=h.Rv
   grind[Oi]
  grind
 grind[Qw]
theorem VL.scs {g:AE} {w:World}:∀vs:List Value,VL g w (vs.map Tel.IE) vs
 | []=>.nil
 | v::vs=>.cons (.pv (.sc v)) (VL.scs vs)
theorem U7 {g:AE} {w:World} (v:Value):V g w (Ru v) v:=by
 unfold Ru;split
 .rename_i fn a b
  have h1:=VL.scs (g:=g) (w:=w) a.toList;have h2:=VL.scs (g:=g) (w:=w) b.toList;have:=V.func (fn:=fn) h1.len h2.len h1.at_ h2.at_;omega
 .exact .pv (.sc v)
theorem VL.sy {g:AE} {w:World}:∀vs:List Value,VL g w (vs.map Ru) vs
 | []=>.nil
 | v::vs=>.cons (U7 v) (VL.sy vs)
theorem fC {g:AE} {w:World} (v:Value):V g w (ng v) v:=by
 unfold ng;split
 .rename_i cs
  have:=V.nu (VL.sy (g:=g) (w:=w) cs.toList);omega
 .rename_i fn a b
  have h1:=VL.scs (g:=g) (w:=w) a.toList;have h2:=VL.scs (g:=g) (w:=w) b.toList;have:=V.func (fn:=fn) h1.len h2.len h1.at_ h2.at_;omega
 grind[V.Lr]
theorem U8 {E:Env} {g:AE} {w:World} {s:AL} (hI:Inv E g w s) {t:TypeId} {m k r:AV} {mv kv:Value} {ok:Bool} (hm:V g w m mv) (hk:V g w k kv) (h:OQ E.P s t m k ok=some r) :
  ∃v',(Instr.lookup t mv kv ok).run E.P w=.ok v' w/\V g w r v':=by
 unfold OQ at h;split at h
 .rename_i kt elem es clock key hu hl hc
  have hkv:kv=key:=by
   unfold GN at hc;split at hc
   .simp at hc; subst hc; exact hk.CQ
   grind
  subst hkv;obtain⟨id,b,rfl,hb,rfl,hh⟩:=KB hI hm hl
  have fin:∀(x:AV) (v:Value) (q:Bool),V g w x v->V g w (bif ok then .tuple [x,IE (.bool q)] else x) (if ok then .tuple #[v,.bool q] else v):=λx v q hx=>by
   cases ok
   .grind
   .exact V.tuple' (.cons hx (.cons (.pv (.sc _)) .nil))
  split at h
  .rename_i i v hf
   simp at h; subst h;obtain⟨h1,h2⟩:=Gw hf w es.toArray.isEmpty;refine⟨_,?_,fin _ v true (fC v)⟩;simp only[Instr.lookup,Sem.run_bind,run_underlying hu,Result.andThen_ok,Gv hh,Sem.run_pure,h1,h2]
  .rename_i hf
   split at h
   .rename_i i hi
    split at h
    .rename_i z hz
     simp at h; subst h;obtain⟨h1,h2⟩:=Gw hf w es.toArray.isEmpty;refine⟨_,?_,fin _ z false (V.ofConst z)⟩;simp only[Instr.lookup,Sem.run_bind,run_underlying hu,Result.andThen_ok,Gv hh,Sem.run_pure,h1,h2,zeroValue,run_typeInfo hi,hz]
    grind
   grind
  grind
 grind
theorem Inv.AI4 {E:Env} {L:A3} {g:AE} {w:World} {s:AL} (h:Inv E g w s) {id b:Nat} {es:List MapEntry} {clock:Nat} (hb:g.mp id=some b) (hro:L.ro<=id) :
  Ext L g w g (Py w b (.map es.toArray clock))/\Inv E g (Py w b (.map es.toArray clock)) { s with bs:=s.bs.set id [.K7 es clock] }:=by
 have hlt:=h.JG hb;have hne:∀k,k≠b->(Py w b (.map es.toArray clock)).heap[k]?=w.heap[k]?:=λk hk=>by grind[Vo]
 have nw:(Py w b (.map es.toArray clock)).heap[b]?=some (.map es.toArray clock):=by grind[Vo]
 have hsz:(Py w b (.map es.toArray clock)).heap.size=w.heap.size:=by simp[Py]
 obtain⟨es0,c0,_,hold⟩:=h.mp id b hb;have hcell:∀k o,(Py w b (.map es.toArray clock)).cell? ⟨k,o,none⟩=w.cell? ⟨k,o,none⟩:=λk o=>by grind[World.cell?]
 have ext:Ext L g w g (Py w b (.map es.toArray clock)):={
  os:=rfl,tape:=rfl,output:=rfl,size:=by omega
  mono:=λ_ _ hi=>hi
  cell:=λk o _=>hcell k o
  blk:=λ_ _ hi=>.inl hi
  dead:=λ_ hi=>hi
  shape:=λid' b' hb' _=>C8 (hne b' (λe=>h.mpB hb (e ▸ hb')))
  tok:=λ_ l hl=>⟨l,hl,.inl rfl⟩
  FE:=λid' b' hb' _=>⟨hb',hne b' (λe=>h.mpB hb (e ▸ hb'))⟩
  Ez:=λt l hl _=>⟨hl,hne _ (λe=>h.mpT hb hl e.symm),λ_ ho=>ho⟩
  out:=λk _ _ _ h3=>⟨hne k (λe=>h3 id (e ▸ hb)),λ_ ho=>ho⟩
  mp:=λ_ _ hb=>hb
  E1:=λid' b' hb'=>⟨λhlt'=>hne b' (λe=>by subst e; have:=h.F3 id id' b' hb hb'; omega),λ_ ho=>ho⟩
  JE:=λid' _ hb _=>⟨id',hb⟩
  GV:=λid' _ hb _=>⟨id',hb⟩
  C4:=λ_ h=>h
  JF:=λ_ l hl _=>⟨l,hl,rfl⟩ }
 refine⟨ext,?_⟩;have hnid:∀id' b',g.blk id'=some b'->id≠id':=λid' b' hb'=>E4 (h.nr hb' hb)
 exact {
  ED:=λid' b' hb'=>by simpa using h.ED id' b' hb'
  DH:=λid' hd=>by simpa using h.DH id' hd
  DI:=λid' hd=>by
   have hid:id≠id':=λe=>by subst e; exact(h.J6 _ b hb).2.1 hd
   simp only[FV hid]; exact h.DI id' hd
  blk:=λid' b' hb'=>by
   obtain⟨cs,us,e',h1,h2,h3,h4⟩:=h.blk id' b' hb';exact⟨cs,us,e',by grind,by grind,h3,h4.mono ext⟩
  FA:=h.FA
  Fl:=h.Fl
  Fm:=h.Fm
  tok:=λt l hl=>by
   obtain⟨us,e',h1,h2⟩:=h.tok t l hl
   grind
  F4:=h.F4
  EF:=h.EF
  FM:=h.FM
  Cu:=h.Cu
  IG:=λk o hi=>by rw[hsz]; exact h.IG k o hi
  D3:=λid hid=>h.D3 id (by grind)
  mp:=λid' b' hb'=>by
   by_cases e:id'=id
   .grind
   .obtain⟨es',c',h1,h2⟩:=h.mp id' b' hb'
    exact⟨es',c',by grind,by rw[hne b' (λq=>by subst q; exact e (h.F3 id' id b' hb' hb))]; omega⟩
  J6:=h.J6
  F3:=h.F3
  DM:=λid hp=>by obtain⟨a,b,c⟩:=h.DM id hp; grind
  Ee:=λgl row hr j c hj=>by
   obtain⟨v,h1,h2,h3⟩:=h.Ee gl row hr j c hj;exact⟨v,h1,by grind,h3.mono ext.mono ext.cell⟩
  C6:=λgl row hr=>by
   obtain⟨h1,h2⟩:=h.C6 gl row hr
   grind }
theorem Iq {E:Env} {L:A3} {g:AE} {w:World} {s s':AL} (hI:Inv E g w s) {id b:Nat} {es:List MapEntry} {clock:Nat} (hb:g.mp id=some b) (h:NR L s es clock (.FL id)=some s') :
  Ext L g w g (Py w b (.map es.toArray clock))/\Inv E g (Py w b (.map es.toArray clock)) s':=by
 unfold NR at h;cases hc:Nat.ble L.ro id with
 | false=>grind
 | true=>
  simp only[hc,AN,Au] at h;subst h;exact hI.AI4 hb (Cm hc)
theorem modify_toArray {α:Type} (l:List α) (i:Nat) (f:α->α):l.toArray.modify i f=(l.modify i f).toArray:=by simp
theorem Ke {E:Env} {L:A3} {g:AE} {w:World} {s s':AL} (hI:Inv E g w s) {t:TypeId} {m k x:AV} {mv kv xv:Value} (hm:V g w m mv) (hk:V g w k kv) (hx:V g w x xv) (h:LA E.P L s t m k x=some s') :
  ∃w',(Instr.mapUpdate t mv kv xv).run E.P w=.ok () w'/\Ext L g w g w'/\Inv E g w' s':=by
 unfold LA at h;split at h
 .rename_i kt elem es clock key v hu hl hc hv
  have hkv:kv=key:=by
   unfold GN at hc;split at hc
   .simp at hc; subst hc; exact hk.CQ
   grind
  subst hkv;have hxv:=Zy hx hv;subst hxv;obtain⟨id,b,rfl,hb,rfl,hh⟩:=KB hI hm hl;split at h
  .rename_i i u hf
   obtain⟨h1,h2⟩:=Gw hf w false;split at h
   .rename_i old hold
    cases hs:Instr.sameBits 10000 old kv with
    | false=>grind
    | true=>
     simp only[hs,AN] at h;obtain⟨r1,r2⟩:=Iq hI hb h;refine⟨_,?_,r1,r2⟩;have hold':((es.toArray[i]?).map (·.key)).getD kv=old:=by grind
     simp only[Instr.mapUpdate,Sem.run_bind,run_underlying hu,Result.andThen_ok,Gv hh,Sem.run_pure,h1,h2,Instr.keyThatStays,hold',hs,F2,Jy hh,modify_toArray]
   grind
  .rename_i hf
   obtain⟨h1,h2⟩:=Gw hf w false;obtain⟨r1,r2⟩:=Iq hI hb h;refine⟨_,?_,r1,r2⟩;have hp:es.toArray.push ({ key:=kv,val:=xv,born:=clock }:MapEntry)=(es++[({ key:=kv,val:=xv,born:=clock }:MapEntry)]).toArray:=by simp
   simp only[Instr.mapUpdate,Sem.run_bind,run_underlying hu,Result.andThen_ok,Gv hh,h1,h2,Jy hh,hp]
  grind
 grind
theorem U9 {E:Env} {L:A3} {g:AE} {w:World} {s s':AL} (hI:Inv E g w s) {t ty:TypeId} {ts:List TypeId} {m k:AV} {mv kv:Value} (hm:V g w m mv) (hk:V g w k kv) (h:Xh E.P L s t m k=some s') :
  ∃w',(Builtin.delete_ (t::ts).toArray ty #[mv,kv]).run E.P w=.ok undef w'/\Ext L g w g w'/\Inv E g w' s':=by
 unfold Xh at h;split at h
 .rename_i kt elem es clock key hu hl hc
  have hkv:kv=key:=by
   unfold GN at hc;split at hc
   .simp at hc; subst hc; exact hk.CQ
   grind
  subst hkv;obtain⟨id,b,rfl,hb,rfl,hh⟩:=KB hI hm hl;split at h
  .rename_i i u hf
   obtain⟨h1,h2⟩:=Gw hf w es.isEmpty;obtain⟨r1,r2⟩:=Iq hI hb h;refine⟨_,?_,r1,r2⟩;simp[Builtin.delete_,run_underlying hu,Gv hh,h1,h2,Jy hh,undef]
  .rename_i hf
   obtain⟨h1,h2⟩:=Gw hf w es.isEmpty;obtain⟨r1,r2⟩:=Iq hI hb h;refine⟨_,?_,r1,r2⟩;simp[Builtin.delete_,run_underlying hu,Gv hh,h1,h2,Jy hh,undef]
  grind
 grind
def AE.oN (g:AE) (id b:Nat):AE:={ g with mp:=λi=>if i=id then some b else g.mp i }
theorem Inv.AI5 {E:Env} {L:A3} {g:AE} {w:World} {s:AL} (h:Inv E g w s) :
  Ext L g w (g.oN s.bs.length w.heap.size) (G1 w (.map #[] 0))/\Inv E (g.oN s.bs.length w.heap.size) (G1 w (.map #[] 0)) { s with bs:=s.bs++[[.K7 [] 0]] }:=by
 have hsz:(G1 w (.map #[] 0)).heap.size=w.heap.size+1:=by simp[G1]
 have hnone:g.mp s.bs.length=none:=by
  cases hb:g.mp s.bs.length with
  | none=>rfl
  | some b=>have:=h.mpN hb; omega
 have keep:∀id b,g.mp id=some b->(g.oN s.bs.length w.heap.size).mp id=some b:=λid b hb=>(if_neg (λe=>by grind)).trans hb
 have inv:∀id b,(g.oN s.bs.length w.heap.size).mp id=some b->(id=s.bs.length/\b=w.heap.size)\/g.mp id=some b:=λid b hb=>by grind[AE.oN]
 have ext:Ext L g w (g.oN s.bs.length w.heap.size) (G1 w (.map #[] 0)):={
  os:=rfl,tape:=rfl,output:=rfl,size:=by omega
  mono:=λ_ _ hi=>hi
  cell:=λk o hi=>B4 (BP (h.IG k o hi)) o
  blk:=λ_ _ hb=>.inl hb
  dead:=λ_ hd=>hd
  shape:=λid b hb _=>C8 (BP (h.Dm hb))
  tok:=λ_ l hl=>⟨l,hl,.inl rfl⟩
  FE:=λid b hb _=>⟨hb,BP (h.Dm hb)⟩
  Ez:=λt l hl _=>⟨hl,BP (h.Ff hl),λ_ ho=>ho⟩
  out:=λk hk _ _ _=>⟨BP hk,λ_ ho=>ho⟩
  mp:=keep
  E1:=λ_ b' hb'=>⟨λ_=>BP (h.JG hb'),λ_ ho=>ho⟩
  JE:=λid b hb hlt=>by grind
  GV:=λid _ hb _=>⟨id,hb⟩
  C4:=λ_ h=>h
  JF:=λ_ l hl _=>⟨l,hl,rfl⟩ }
 refine⟨ext,?_⟩
 exact {
  ED:=λid b hb=>by have:=h.ED id b hb; grind
  DH:=λid hd=>by have:=h.DH id hd; grind
  DI:=λid hd=>by rw[CZ (h.DH id hd)]; exact h.DI id hd
  blk:=λid b hb=>by
   obtain⟨cs',us,e',h1,h2,h3,h4⟩:=h.blk id b hb;exact⟨cs',us,e',by grind,by grind[BP],h3,h4.mono ext⟩
  FA:=h.FA
  Fl:=h.Fl
  Fm:=h.Fm
  tok:=λt l hl=>by
   obtain⟨us,e',h1,h2⟩:=h.tok t l hl
   grind[BP]
  F4:=h.F4
  EF:=h.EF
  FM:=h.FM
  Cu:=h.Cu
  IG:=λk o hi=>by rw[hsz]; have:=h.IG k o hi; omega
  D3:=λid hid=>by
   by_cases e:id=s.bs.length
   .exact .inr (.inr (.inr ⟨_,if_pos e⟩))
   .rcases h.D3 id (by grind) with q|q|q|⟨b,q⟩
    .exact .inl q
    .exact .inr (.inl q)
    .exact .inr (.inr (.inl q))
    grind
  mp:=λid b hb=>by
   rcases inv id b hb with ⟨rfl,rfl⟩|hb
   .grind[KV]
   .obtain⟨es,c,h1,h2⟩:=h.mp id b hb
    grind[BP]
  J6:=λid b hb=>by
   rcases inv id b hb with ⟨rfl,_⟩|hb
   .refine⟨?_,h.fresh,λhp=>?_⟩
    .cases hb:g.blk s.bs.length with
     | none=>exact hb
     | some b=>have:=h.ED _ b hb; omega
    .have:=(h.DM _ hp).1; omega
   .exact h.J6 id b hb
  F3:=λid id' b hb hb'=>by
   rcases inv id b hb with ⟨rfl,rfl⟩|hb
   .rcases inv id' _ hb' with ⟨rfl,_⟩|hb'
    .rfl
    .have:=h.JG hb'; omega
   .rcases inv id' b hb' with ⟨_,e⟩|hb'
    .have:=h.JG hb; omega
    .exact h.F3 id id' b hb hb'
  DM:=λid hp=>by
   obtain⟨a,b,c⟩:=h.DM id hp;exact⟨by grind,b,c⟩
  Ee:=λgl row hr j c hj=>by
   obtain⟨v,h1,h2,h3⟩:=h.Ee gl row hr j c hj;exact⟨v,h1,by rw[ext.cell _ _ h1]; omega,h3.mono ext.mono ext.cell⟩
  C6:=λgl row hr=>by
   obtain⟨h1,h2⟩:=h.C6 gl row hr;exact⟨h1,by rw[ext.cell _ _ h1]; omega⟩ }
end Go.Tel
