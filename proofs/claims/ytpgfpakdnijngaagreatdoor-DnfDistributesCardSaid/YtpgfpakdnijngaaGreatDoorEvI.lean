/-
  From an evaluation to the contract that a row asks for; what the listed variables hold.
-/
import Derived.Test.YtpgfpakdnijngaaGreatDoorEvP
import Derived.ChangeSame
import Derived.SliceStrings
import Derived.MakeChecks
set_option linter.unusedSimpArgs false
set_option linter.unusedVariables false
namespace Go.Tel
open Go.ChangeShapes Go.WideShapes
structure Still (W w':World):Prop where
 os:w'.os=W.os
 output:w'.output=W.output
 heap:∀ b,b<W.heap.size->w'.heap[b]?=W.heap[b]?
def iT (E:Env) (W:World):Prop:=
 ∀ gl row,E.G gl=some row->(∀ j c,row[j]?=some c->∃ v,gl<W.heap.size/\W.cell? ⟨gl,j,none⟩=some v/\VP (fun b _=>b<W.heap.size) W c v)/\gl<W.heap.size/\W.cell? ⟨gl,row.length,none⟩=none
theorem iT.inv {E:Env} {W:World} (h:iT E W):Inv E (AH.bare fun b _=>b<W.heap.size) W ⟨[],[]⟩ where
 EB:=fun _ _ h=>by simp[AH.bare] at h
 DL:=fun _ h=>by simp[AH.bare] at h
 blk:=fun _ _ h=>by simp[AH.bare] at h
 FT:=fun _ _ _ h=>by simp[AH.bare] at h
 DM:=fun _ h=>by simp[AH.bare] at h
 DV:=fun _ h=>by simp[AH.bare] at h
 EG:=fun _ h=>by simp at h
 mp:=fun _ _ h=>by simp[AH.bare] at h
 KM:=fun _ _ h=>by simp[AH.bare] at h
 GU:=fun _ _ _ h=>by simp[AH.bare] at h
 F6:=fun _ _ _ h=>by simp at h
 F7:=fun _ _ h=>by simp[AH.bare] at h
 tok:=fun _ _ h=>by simp[AH.bare] at h
 GV:=fun _ _ _ h=>by simp[AH.bare] at h
 ET:=fun _ _ _ h=>by simp[AH.bare] at h
 Fi:=fun _ _ _ _ h=>by simp[AH.bare] at h
 Cp:=fun _ _ _ _ h=>by simp[AH.bare] at h
 Il:=fun _ _ h=>h
 Ey:=fun gl row hr=>(h gl row hr).1
 C3:=fun gl row hr=>(h gl row hr).2
theorem JY {a b:Nat} (h:a≠b):Nat.beq a b=false:=by
 cases hb:Nat.beq a b with
 | false=>rfl
 | true=>exact absurd (BM hb) h
def L0:A0:=⟨0,0,0,fun _=>false,fun _=>false,fun _=>none⟩
theorem Still.kept {W w':World} (h:Still W w') (may:MemPlace->Prop):W.keptBut w' may:=by
 refine⟨h.os,h.output,fun i hi=>?_⟩;rw[h.heap i hi];cases W.heap[i]? with
 | none=>rfl
 | some o=>cases o <;> simp
theorem Ua {H:Type} {enc:TypeId×Value->H} {P:Program} {f:Func} {s:ChangeSpec} {apart fresh handsOn again:Bool} {W W':World} {args:Array Value} {v:Value} {ds gs:List (DataW H)} {before pa pv:List MemPlace}
  (hW:DataW.Whole enc P f.params.toList s.vars apart W args.toList ds gs before)
  (hres:∀ (b:Nat) (sp:Nat->Bool) (hd:Bool),DataW.TrodAll enc P W' b sp hd f.resultTypes.toList (v.resultList f.resultTypes.size) (s.fn H (ds++gs)).results [])
  (hargs:∀ sp:Nat->Bool,(∀ p∈before,sp p.block=true)->DataW.TrodAll enc P W' 0 sp true f.params.toList args.toList (s.fn H (ds++gs)).args pa)
  (hvars:∀ sp:Nat->Bool,(∀ p∈before,sp p.block=true)->DataW.TrodVars enc P W' sp s.vars (s.fn H (ds++gs)).vars pv)
  (hps:before=pa++pv) (hst:Still W W')
  (hok:∀ (j:Nat) (t:TypeId) (r:Value),f.resultTypes[j]?=some t->(v.resultList f.resultTypes.size)[j]?=some r->Value.okWide P W' .any 0 t r) :
  s.post enc P f apart fresh handsOn again W args v W':=by
 have hlt:∀ p∈before,p.block<W.heap.size:=fun p hp=>hW.lt p hp
 have hold:∀ p∈before,(fun b=>decide (b<W.heap.size)) p.block=true:=fun p hp=>by simpa using hW.lt p hp
 refine⟨ds,gs,before,[],pa,pv,hW,hres _ _ _,hargs _ hold,hvars _ hold,World.keptBut_mono (fun p hp=>⟨hp,?_⟩) (hst.kept _),fun _=>?_⟩
 ·rw[hps,BL] at hp
  exact Or.inr hp
 ·obtain⟨_,_,_,_,_,hz,hn⟩:=hW
  refine⟨hok,_,_,([]++pa)++pv,⟨[]++pa,pv,trodAll_append (hargs _ (fun _ _=>rfl)) (hres _ _ _),hvars _ (fun _ _=>rfl),rfl,?_,?_⟩,?_⟩
  ·intro b off hp
   have hb:MemPlace.cell b off∈before:=by rw[hps]; simpa using hp
   have hf:∀ a:Addr,a.block=b->W'.frozen? a=W.frozen? a:=fun a ha=>by
    simp only[World.frozen?,ha,hst.heap b (hlt _ hb)]
   rw[hf _ rfl];exact hz b off hb
  ·intro ha
   have:=hn ha;rw[hps] at this;simpa using this
  ·intro p hp _
   rw[hps];simpa using hp
theorem Good.lU {E:Env} (hp:ZL E=true) (hn:(E.P.funcs.toList.all fun fn=>fn.body.isNone||!(fn.name== "runtime.NumGoroutine"))=true) (hm:E.P.follows .mixedOrders=true)
  (ht:∀ f T,E.told f=some T->P0 E f T) (hk:∀ k t,E.back k=some t->SB E.P k t)
  (hc:∀ f,E.clone f=true->E.told f=none->(∃ fn,E.P.funcs[f]?=some fn/\fn.body.isSome=true) /\
   ∀ (w:World) (base:Option Addr) (cap:Nat),Calls E.P f #[.slice base 0 cap] w fun e w'=>∃ b',e=.returned (.slice b' 0 0)/\(w'=w\/∃ o,w'=HE w o)):Good E where
 iU:=ht
 Sj:=hk
 mix:=hm
 plans:=fun f fn body hf hb=>by
  have hlt:f<E.P.funcs.size:=(Array.getElem?_eq_some_iff.1 hf).1;have:=Bs.1 hp f (List.mem_range.2 hlt);rw[hf] at this;simp only[hb] at this;exact this
 names:=fun f fn hf hb=>by
  have hm:fn∈E.P.funcs.toList:=by
   have:=Wt hf;simpa using this
  have:=Bs.1 hn fn hm;cases hx:fn.body with
  | none=>rw[hx] at hb; simp at hb
  | some c=>rw[hx] at this; simpa using this
 Xm:=hc
theorem OZ {P:Program} {t e:TypeId} (h:P.underlying t=some (.slice e)) (w:World) (base:Option Addr) (n cap:Nat) :
  (binOp .eql t (.slice base n cap) (.slice none 0 0)).run P w=.ok (.bool base.isNone) w:=by
 have:(Op.equal t (.slice base n cap) (.slice none 0 0)).run P w=.ok base.isNone w:=by
  obtain⟨m,hm⟩:∃ m,Op.maxDepth=m+1:=⟨9999,rfl⟩;unfold Op.equal;rw[hm];cases base <;> simp only[Op.equalIn,Sem.run_bind,run_underlying h,Result.andThen_ok,Sem.run_pure] <;> rfl
 simp[binOp,this]
theorem Nv {P:Program} {w:World}:∀ {l:List (String×DataW Unit)} {ps:List MemPlace},DataW.LaidVars P w l ps->∀ n d,(n,d)∈l ->
  ∃ g t cs fuel p,P.globalNamed n=some g/\(P.globals[g]?).map (·.type)=some t/\w.var? P n=some cs/\DataW.trod (fun _=>()) P w 0 (fun _=>true) false fuel t cs.toList=some (d,p)
 | [],_,_,_,_,hm=>by cases hm
 | (n',d')::r,ps,h,n,d,hm=>by
  obtain⟨g,t,cs,fuel,p,q,h1,h2,h3,h4,h5,_⟩:=h;rcases Av.1 hm with e|e
  ·cases e
   exact⟨g,t,cs,fuel,p,h1,h2,h3,h4⟩
  ·exact Nv h5 n d e
theorem Hu {w:World} {a:Addr} {v:Value} (h:w.cell? a=some v):a.block<w.heap.size:=by
 rcases CU a.block w.heap.size with k|k
 ·exact k
 ·simp[World.cell?,ID k] at h
def Oq (l:List (List UInt8)):DataW Unit:=.slice (l.map fun s=>.lit (.string s)) []
def FV (l:List (List UInt8)):List PV:=[.list (l.map fun s=>[.sc (.string ⟨s.toArray⟩)])]
theorem Ot {P:Program} {W:World} {laid:List (String×DataW Unit)} {n:String} {l:List (List UInt8)} {g:Nat} {t e:TypeId} (h:laidMet P laid W) (hm:(n,Oq l)∈laid)
  (hg:P.globalNamed n=some g) (hty:(P.globals[g]?).map (·.type)=some t) (ht:P.underlying t=some (.slice e)) (he:P.underlying e=some .string) (hc:P.cellsOf e=1) :
  (∀ j c,(FV l)[j]?=some c->∃ v,g<W.heap.size/\W.cell? ⟨g,j,none⟩=some v/\VP (fun b _=>b<W.heap.size) W c v)/\g<W.heap.size/\W.cell? ⟨g,(FV l).length,none⟩=none:=by
 obtain⟨ps,hv,_⟩:=h;obtain⟨g',t',cs,fuel,p,h1,h2,h3,h4⟩:=Nv hv n _ hm;obtain rfl:=EL (hg.symm.trans h1);obtain rfl:=EL (hty.symm.trans h2);rcases open_strings ht he hc h4 with ⟨_,hx⟩|⟨a,len,cap,ss,hcs,_,hl,_,hlen,hx,hcell,_⟩
 ·simp[Oq] at hx
 ·simp only[Af,Oq,DataW.slice.injEq] at hx
  obtain⟨⟨hx1,hx2⟩,_⟩:=hx
  have hss:ss.take len=l.map fun s=>(⟨s.toArray⟩:ByteArray):=by
   have:∀ (xs:List ByteArray) (ys:List (List UInt8)),ys.map (fun s=>(DataW.lit (.string s):DataW Unit))=strs xs->xs=ys.map fun s=>(⟨s.toArray⟩:ByteArray):=by
    intro xs
    induction xs with
    | nil=>intro ys h; cases ys <;> simp[strs] at h; rfl
    | cons x xs ih=>
     intro ys h;cases ys with
     | nil=>simp[strs] at h
     | cons y ys=>
      simp only[strs,CI,Jz,DataW.lit.injEq,Lit.string.injEq] at h ih;obtain⟨rfl,h2⟩:=h;rw[ih ys h2];simp
   exact this _ _ hx1
  have hl':l.length=len:=by
   have:=BW List.length hss;simp only[DU,AZ] at this;have:len<=ss.length:=by rw[hlen]; simp; exact hl
   omega
  have hcg:=World.var?_cell hg h3 0;have hcn:=World.var?_cell hg h3 1;have ANq:cs=#[.slice (some a) len cap]:=D9 hcs;rw[ANq] at hcg hcn;simp at hcg hcn;refine⟨?_,Hu hcg,hcn⟩;intro j c hj
  obtain rfl:j=0:=by
   rcases W4 j with k|k
   ·exact k
   ·simp[FV,Ea (show [PV.list (l.map fun s=>[PV.sc (.string ⟨s.toArray⟩)])].length<=j from k)] at hj
  simp[FV] at hj;subst hj;refine⟨_,Hu hcg,hcg,?_⟩;obtain⟨b,off,spot⟩:=a
  have raw:∀ i s,l[i]?=some s->W.cell? ((⟨b,off,spot⟩:Addr).add i)=some (.string ⟨s.toArray⟩):=fun i s hs=>by
   have hil:i<l.length:=(Ae.1 hs).1;have hi:i<ss.length:=by rw[hlen]; simp; omega
   rw[hcell i hi];have hg:(ss.take len)[i]?=some ⟨s.toArray⟩:=by rw[hss]; simp[hs]
   rw[OO (by omega)] at hg;simp[List.getD,hg]
  have Za:l≠[]->spot=none:=fun hne=>by
   cases yF:l with
   | nil=>exact absurd yF hne
   | cons s0 l0=>simpa[Addr.add] using World.cell?_spot (raw 0 s0 (by simp[yF]))
  have get:∀ i s,l[i]?=some s->W.cell? ⟨b,off+i,none⟩=some (.string ⟨s.toArray⟩):=fun i s hs=>by
   have hsp:=Za (fun e=>by simp[e] at hs);subst hsp;have:=raw i s hs;simp only[Addr.add] at this;split at this
   ·rename_i h0; subst h0; exact this
   ·exact this
  have:=VP.IP (I:=fun b _=>b<W.heap.size) (w:=W) (rows:=l.map fun s=>[PV.sc (.string ⟨s.toArray⟩)]) (base:=some ⟨b,off,spot⟩) (b:=b) (o:=off) (sz:=1) (f:=fun i _=>.string ⟨(l.getD i []).toArray⟩) (cap:=cap)
   ⟨fun row hr=>by
     obtain⟨s,_,rfl⟩:=Bb.1 hr;rfl,
    fun hne _=>by
     rw[Za (fun e=>by simp[e] at hne)],
    fun i row j c hr hj=>by
     rw[DR] at hr;cases hs:l[i]? with
     | none=>simp[hs] at hr
     | some s=>
      simp[hs] at hr; subst hr;have hj0:j=0:=by have:=(Ae.1 hj).1; simpa using this
      subst hj0;have Hl:=get i s hs;refine⟨Hu Hl,?_⟩;simp only[Mm,Dq];rw[Hl];simp[List.getD,hs],
    fun i row j c hr hj=>by
     rw[DR] at hr;cases hs:l[i]? with
     | none=>simp[hs] at hr
     | some s=>
      simp[hs] at hr; subst hr;have hj0:j=0:=by have:=(Ae.1 hj).1; simpa using this
      subst hj0;simp at hj; subst hj;simp only[List.getD,hs,I2];exact .sc _⟩ (by simp; omega)
  rw[AZ,hl'] at this;exact this
def HO (o:Oper):List Oper->Bool
 | o1::o2::_=>(fused o o1 o2).isNone
 | _=>true
def AMl (E:Env) (fn:Func):Option (Out×St)->Option (AV×AK)
 | some (.exit _,_)=>none
 | some (_,st)=>match F4 E st fn.results.toList with
  | some vs=>some (JS vs,st.s)
  | none=>none
 | none=>none
def AMm:Option (AV×AK)->Bool
 | some (.pv (.sc (.bool b)),_)=>b
 | _=>false
def Y7 (E:Env) (n:Nat) (f:FuncId) (args:List AV):Option AV:=
 match E.P.funcs[f]? with
 | some fn=>if args.length<=fn.ntmps then match Iw E (Cw E n) n f fn args ⟨[],[]⟩ with
   | some (v,_)=>some v
   | none=>none
  else none
 | none=>none
theorem Zb {E:Env} {cf:A0->Co} {n:Nat} {f:FuncId} {fn:Func} {args:List AV} (s:AK) {v:AV} {s0 s1:AK} (h:Iw E cf n f fn args s0=some (v,s1)):Iw E cf n f fn args s=some (v,s):=by
 unfold Iw at h ⊢;split at h
 ·rename_i x s' hb
  split at h
  ·rename_i y hy
   simp only[AY,Af] at h;obtain⟨rfl,rfl⟩:=h;simp
  ·simp at h
 ·simp at h
theorem SC {E:Env} {n:Nat} {f:FuncId} {args args':List AV} {v:AV} (hk:E.kind f=.rd) (hc:E.clone f=false) (Bu:AN [] 0 0 args=some args') (hlen:args'.length=args.length) (h:Y7 E n f args'=some v) (L:A0) (s:AK) :
  Cw E (n+1) L f args s=some (v,s):=by
 unfold Y7 at h;split at h
 ·rename_i fn hfn
  split at h
  ·rename_i hN
   split at h
   ·rename_i u s1 hp
    simp at h; subst h;simp only[Cw,hfn,hc,AB,D3,hk,Bu];rw[if_pos (by omega)];exact Zb s hp
   ·simp at h
  ·simp at h
 ·simp at h
end Go.Tel
namespace Go.Tel
structure iV where
 n0:Nat
 ro:Nat
 rt:Nat
 f:FuncId
 args:List AV
 s:AK
 v:AV
 s':AK
def ADi:List (List AV)->List (List AV)->Bool
 | [],[]=>true
 | a::xs,b::ys=>L7 a b&&ADi xs ys
 | _,_=>false
def ADj:List (Nat×Nat)->List (Nat×Nat)->Bool
 | [],[]=>true
 | a::xs,b::ys=>Nat.beq a.1 b.1&&Nat.beq a.2 b.2&&ADj xs ys
 | _,_=>false
def AAg (L:A0) (f:FuncId) (args:List AV) (s:AK):List iV->Option (AV×AK)
 | []=>none
 | k::ks=>bif Nat.beq f k.f&&(Nat.beq L.n0 k.n0&&Nat.beq L.ro k.ro&&Nat.beq L.rt k.rt&&L7 args k.args&&ADi s.bs k.s.bs&&ADj s.ts k.s.ts) then some (k.v,k.s') else AAg L f args s ks
def iV.Ok (E:Env) (k:iV):Prop:=
 ∀ (L:A0) (g:AH) (w:World) (vs:List Value),L.n0=k.n0->L.ro=k.ro->L.rt=k.rt->Inv E g w k.s->VL g w k.args vs ->
  (∃ fn,E.P.funcs[k.f]?=some fn/\fn.body.isSome=true/\(fn.name== "runtime.NumGoroutine")=false) /\
  Calls E.P k.f vs.toArray w fun e w'=>∃ v' g',e=.returned v'/\V g' w' k.v v'/\Ext L g w g' w'/\Inv E g' w' k.s'
def AAh (E:Env) (ks:List iV):Nat->A0->Co
 | 0,_,_,_,_=>none
 | n+1,L,f,args,s=>match AAg L f args s ks with
  | some r=>some r
  | none=>match E.P.funcs[f]? with
   | some fn=>bif E.clone f then L8 E L f args s (D3 E (AAh E ks n) n L f fn args s) else D3 E (AAh E ks n) n L f fn args s
   | none=>none
def ARq (v:AV) (s:AK):Option (AV×AK)->Bool
 | some (a,b)=>Cu a v&&ADi b.bs s.bs&&ADj b.ts s.ts
 | none=>false
def ARr (ok:TypeId->Nat->Bool) (L:A0) (args:List AV) (s:AK):Option (AV×AK):=match args with
 | [.ptr id 0]=>match s.bs[id]? with
  | some (.ptr id' 0::_)=>bif Nat.beq id' id then some (.tuple [],s) else none
  | some (.bz id' t' n'::r)=>
   bif Nat.beq id' id&&(ok t' n'&&(Nat.ble L.ro id&&Nat.ble L.n0 id)) then some (.tuple [],{ s with bs:=s.bs.set id (.ptr id 0::r) }) else none
  | _=>none
 | _=>none
def Zc:List (List PV)->Option (List UInt8)
 | []=>some []
 | [.sc (.int .u8 (.ofNat k))]::rest=>bif Nat.blt k 256 then match Zc rest with
   | some l=>some (UInt8.ofNat k::l)
   | none=>none
  else none
 | _=>none
def strT (u8:TypeId) (L:A0) (args:List AV) (s:AK):Option (AV×AK):=match args with
 | [.ptr id 0]=>match s.bs[id]? with
  | some (_::.own k rows::_)=>match Zc rows,s.ts[k]? with
   | some (c::cs),some (n,e)=>
    bif Nat.beq n rows.length&&(Nat.beq e u8&&(Nat.ble L.rt k&&Nat.ble rows.length 1000000000000000000)) then some (IW (.string ⟨(c::cs).toArray⟩),s) else none
   | _,_=>none
  | _=>none
 | _=>none
def delT (sz:Nat) (L:A0) (args:List AV) (s:AK):Option (AV×AK):=match args with
 | [.ref id 0 len k,.pv (.sc (.int .i64 (.ofNat i))),.pv (.sc (.int .i64 (.ofNat j)))]=>match s.bs[id]? with
  | some cs=>bif Nat.beq k sz&&(Nat.beq (len*sz) cs.length&&(Nat.blt i j&&(Nat.ble j len&&(Nat.ble L.ro id&&cs.all Ar)))) then match cs.take (i*sz)++cs.drop (j*sz) with
    | []=>some (.pv (.list []),{ s with bs:=s.bs.set id [] })
    | c::r=>some (.ref s.bs.length 0 (len-(j-i)) sz,{ s with bs:=s.bs.set id []++[c::r] })
   else none
  | none=>none
 | _=>none
def LR (P:Program) (f:FuncId):Prop:=∃ fn,P.funcs[f]?=some fn/\fn.body.isSome=true/\(fn.name== "runtime.NumGoroutine")=false
structure ARs (P:Program) (f:FuncId) (ok:TypeId->Nat->Bool):Prop where
 body:LR P f
 fresh:∀ (t:TypeId) (n:Nat),ok t n=true->∀ (w:World) (b:Nat),w.cell? ⟨b,0,none⟩=some (.pointer none)->w.shape? b=some (t,n)->w.frozen? ⟨b,0,none⟩=false ->
  Calls P f #[.pointer (some ⟨b,0,none⟩)] w fun e w'=>e=.returned (.tuple #[])/\w'=w.setCell ⟨b,0,none⟩ (.pointer (some ⟨b,0,none⟩))
 used:∀ (w:World) (b:Nat),w.cell? ⟨b,0,none⟩=some (.pointer (some ⟨b,0,none⟩)) ->
  Calls P f #[.pointer (some ⟨b,0,none⟩)] w fun e w'=>e=.returned (.tuple #[])/\w'=w
structure StrC (P:Program) (f:FuncId) (u8:TypeId):Prop where
 body:LR P f
 str:∀ (w:World) (b g cap:Nat) (cur:Array Value) (fz:Nat×Nat) (l:List UInt8),l≠[]->l.length<=cap->l.length<=9223372036854775807 ->
  w.cell? ⟨b,1,none⟩=some (.slice (some ⟨g,0,none⟩) l.length cap)->w.heap[g]?=some (.cells cur u8 fz)->l.length<=cur.size ->
  (∀ j x,l[j]?=some x->w.cell? ⟨g,j,none⟩=some (.int .u8 x.toNat)) ->
  Calls P f #[.pointer (some ⟨b,0,none⟩)] w fun e w'=>e=.returned (.string ⟨l.toArray⟩)/\w'=(A5 w).freeze ⟨g,0,none⟩ l.length
end Go.Tel
