/-
  Helpers for proofs about unknown arguments.
-/
import Derived.Test.YtpgfpakdnijngaaGreatDoorWvC
set_option linter.unusedSimpArgs false
set_option linter.unusedVariables false
namespace Go.Tel
theorem wrap64 {n:Int} (h1:-9223372036854775808<=n) (h2:n<9223372036854775808):IntKind.wrap .i64 n=n:=by
 unfold IntKind.wrap;simp[IntKind.signed,IntKind.bits] <;> omega
theorem DX {n:Int} {K:AV->Prop} (h1:-9223372036854775808<=n) (h2:n<9223372036854775808) (h:K (AD n)):nE .i64 n K:=by
 unfold nE;rw[wrap64 h1 h2];exact h
def BP (a:AV) (rows:List (List PV)):Prop:=a=.pv (.list rows)\/a=.AA rows
theorem BP.list (rows:List (List PV)):BP (.pv (.list rows)) rows:=.inl rfl
theorem BP.AA (rows:List (List PV)):BP (.AA rows) rows:=.inr rfl
theorem BP.rowsOf {a:AV} {rows:List (List PV)} (h:BP a rows):rowsOf a=some rows:=by rcases h with rfl|rfl <;> rfl
theorem BP.ok {a:AV} {rows:List (List PV)} (h:BP a rows):Ar a=true:=by rcases h with rfl|rfl <;> rfl
theorem BP.HK {a:AV} {rows:List (List PV)} (h:BP a rows):HK a=true:=by rcases h with rfl|rfl <;> rfl
theorem BP.Dl {a:AV} {rows:List (List PV)} (h:BP a rows):Dl a=true:=by rcases h with rfl|rfl <;> rfl
theorem BP.I3 {a:AV} {rows:List (List PV)} (h:BP a rows):I3 a=some (.list rows):=by rcases h with rfl|rfl <;> rfl
theorem BP.close {a:AV} {rows:List (List PV)} (h:BP a rows) (bs:List (List AV)) (n m:Nat):close bs n m a=some a:=by rcases h with rfl|rfl <;> simp[Tel.close]
theorem BP.cells {a:AV} {rows:List (List PV)} (h:BP a rows):cellsOf a=[a]:=by rcases h with rfl|rfl <;> rfl
theorem BP.Bk {a:AV} {rows:List (List PV)} (h:BP a rows) (s:AK):Bk s a=some rows.length:=by rcases h with rfl|rfl <;> rfl
theorem BP.Aa {a:AV} {rows:List (List PV)} (h:BP a rows) (n:Nat):Aa n a=true:=by rcases h with rfl|rfl <;> rfl
theorem CS {s:AK} {k:Nat} {x:AV} {rows:List (List PV)} {i:Int} {row:List PV} {K:AV->Prop} (hx:BP x rows) (h0:0<=i) (hr:rows[i.toNat]?=some row) (hl:row.length=k) (hk:k≠0) (h:K (.DK row 0)):Dc s k x (AD i) K:=by
 rcases hx with rfl|rfl
 ·exact⟨h0,row,hr,hl,hk,h⟩
 ·exact⟨h0,row,hr,hl,hk,h⟩
theorem nU {k:IntKind} {n:Int}:Ar (.pv (.sc (.int k n)))=true:=rfl
theorem pY {k:IntKind} {n:Int}:cellsOf (.pv (.sc (.int k n)))=[.pv (.sc (.int k n))]:=rfl
theorem okB {b:Bool}:Ar (.pv (.sc (.bool b)))=true:=rfl
theorem wX {b:Bool}:cellsOf (.pv (.sc (.bool b)))=[.pv (.sc (.bool b))]:=rfl
theorem pZ {b:ByteArray}:Ar (.pv (.sc (.string b)))=true:=rfl
theorem wY {b:ByteArray}:cellsOf (.pv (.sc (.string b)))=[.pv (.sc (.string b))]:=rfl
theorem pg {r:List (List PV)}:Ar (.pv (.list r))=true:=rfl
theorem wZ {r:List (List PV)}:cellsOf (.pv (.list r))=[.pv (.list r)]:=rfl
theorem lu {r:List (List PV)}:Ar (.AA r)=true:=rfl
theorem we {r:List (List PV)}:cellsOf (.AA r)=[.AA r]:=rfl
theorem wh {t:Nat} {r:List (List PV)}:Ar (.own t r)=true:=rfl
theorem wj {t:Nat} {r:List (List PV)}:cellsOf (.own t r)=[.own t r]:=rfl
theorem wk {i o:Nat}:Ar (.ptr i o)=true:=rfl
theorem wm {i o:Nat}:cellsOf (.ptr i o)=[.ptr i o]:=rfl
theorem wo {i o:Nat}:Ar (.De i o)=true:=rfl
theorem wq {i o:Nat}:cellsOf (.De i o)=[.De i o]:=rfl
theorem wu {r:List PV} {o:Nat}:Ar (.DK r o)=true:=rfl
theorem wz {r:List PV} {o:Nat}:cellsOf (.DK r o)=[.DK r o]:=rfl
theorem w6 {i o l z:Nat}:Ar (.ref i o l z)=true:=rfl
theorem w7 {i o l z:Nat}:cellsOf (.ref i o l z)=[.ref i o l z]:=rfl
theorem okF {f:Fn} {a b:List AV}:Ar (.func f a b)=true:=rfl
theorem w8 {f:Fn} {a b:List AV}:cellsOf (.func f a b)=[.func f a b]:=rfl
theorem w9 {t:TypeId} {v:AV}:Ar (.iface t v)=true:=rfl
theorem xA {t:TypeId} {v:AV}:cellsOf (.iface t v)=[.iface t v]:=rfl
theorem xB {i:Nat}:Ar (.Fg i)=true:=rfl
theorem xD {i:Nat}:cellsOf (.Fg i)=[.Fg i]:=rfl
theorem Zh :Ar (.pv (.sc (.pointer none)))=true:=rfl
theorem xE :cellsOf (.pv (.sc (.pointer none)))=[.pv (.sc (.pointer none))]:=rfl
theorem Ur :Ar (.pv (.sc .nilFunc))=true:=rfl
theorem Us :cellsOf (.pv (.sc .nilFunc))=[.pv (.sc .nilFunc)]:=rfl
theorem Ut :Ar (.pv (.sc .nilIface))=true:=rfl
theorem Uu :cellsOf (.pv (.sc .nilIface))=[.pv (.sc .nilIface)]:=rfl
theorem xH {cs:List AV}:cellsOf (.agg cs)=cs:=rfl
theorem xJ {r:List (List PV)}:rowsOf (.pv (.list r))=some r:=rfl
theorem xO {r:List (List PV)} (s:AK):Bk s (.pv (.list r))=some r.length:=rfl
theorem xK {r:List (List PV)}:rowsOf (.AA r)=some r:=rfl
theorem xQ {r:List (List PV)} (s:AK):Bk s (.AA r)=some r.length:=rfl
theorem xN {t:Nat} {r:List (List PV)}:rowsOf (.own t r)=some r:=rfl
theorem xS {t:Nat} {r:List (List PV)} (s:AK):Bk s (.own t r)=some r.length:=rfl
theorem leR {i o l z:Nat} (s:AK) (h:alive s i=true):Bk s (.ref i o l z)=some l:=by simp[Bk,h]
theorem xT {p:PV}:I3 (.pv p)=some p:=rfl
theorem xU {r:List (List PV)}:I3 (.AA r)=some (.list r):=rfl
theorem xV {t:Nat} {r:List (List PV)}:I3 (.own t r)=some (.list r):=rfl
theorem Ic {bs:List (List AV)} {n m:Nat} {p:PV}:close bs n m (.pv p)=some (.pv p):=by simp[close]
theorem xW {bs:List (List AV)} {n m:Nat} {r:List (List PV)}:close bs n m (.AA r)=some (.AA r):=by simp[close]
theorem pn {bs:List (List AV)} {n t:Nat} {r:List (List PV)}:close bs n 0 (.own t r)=some (.pv (.list r)):=by simp[close]
theorem xX {bs:List (List AV)} {n m:Nat} {f:Fn}:close bs n m (.func f [] [])=some (.func f [] []):=by simp[close,AN]
theorem xY {bs:List (List AV)} {n m:Nat} {cs:List AV}:close bs n m (.agg cs)=(AN bs n m cs).map .agg:=by rw[close]; cases AN bs n m cs <;> rfl
theorem xZ {bs:List (List AV)} {n m:Nat} {cs:List AV}:close bs n m (.tuple cs)=(AN bs n m cs).map .tuple:=by rw[close]; cases AN bs n m cs <;> rfl
theorem xd {bs:List (List AV)} {n m:Nat}:AN bs n m []=some []:=by rw[AN]
theorem pq {bs:List (List AV)} {n m:Nat} {c:AV} {cs:List AV}:AN bs n m (c::cs)=(close bs n m c).bind fun c=>(AN bs n m cs).map (c::·):=by
 rw[AN];cases close bs n m c <;> cases AN bs n m cs <;> rfl
theorem xe {p:PV}:HK (.pv p)=true:=by simp[HK]
theorem xg {r:List (List PV)}:HK (.AA r)=true:=by simp[HK]
theorem xh {t:Nat} {r:List (List PV)}:HK (.own t r)=true:=by simp[HK]
theorem xj:HL []=true:=by simp[HL]
theorem xk {c:AV} {cs:List AV}:HL (c::cs)=(HK c&&HL cs):=by simp[HL]
theorem Oz {α:Type} (l m:List α) (k:Nat):(l++m)[l.length+k]?=m[k]?:=by
 rw[CV (by omega)];congr 1;omega
theorem O0 {α:Type} (l m:List α) (k:Nat) (v:α):(l++m).set (l.length+k) v=l++m.set k v:=by
 rw[LC _ _ (by omega)];congr 2;omega
theorem So {α:Type} (l m:List α):(l++m)[l.length]?=m[0]?:=Oz l m 0
theorem Sq {α:Type} (l m:List α) (v:α):(l++m).set l.length v=l++m.set 0 v:=O0 l m 0 v
def B9 (s:AK):Prop:=∀ b∈s.bs,AU s.bs.length b=true
theorem UR:∀ {bs:List (List AV)} {n m:Nat} {cs ds:List AV},AN bs n m cs=some ds->cs.length=ds.length
 | _,_,_,[],ds,h=>by simp[AN] at h; subst h; rfl
 | bs,n,m,c::cs,ds,h=>by
  rw[pq] at h;cases hc:close bs n m c with
  | none=>simp[hc] at h
  | some d=>
   cases hl:AN bs n m cs with
   | none=>simp[hc,hl] at h
   | some ds'=>
    simp[hc,hl] at h;subst h;simp[UR hl]
theorem AW.of_closed {E:Env} {f:FuncId} {args args':List AV} {Post:AV->Prop} (hk:E.kind f=.rd) (hc:E.clone f=false) (Bu:AN [] 0 0 args=some args') (hid:AN [] 0 0 args'=some args') (h:AW E f args' Post):AW E f args Post:=by
 obtain⟨v,h1,h2⟩:=h;refine⟨v,h1,fun L s=>?_⟩;obtain⟨n,hn⟩:=h2 L s;refine⟨n+1,fun m hm=>?_⟩;have:=hn m (by omega);obtain⟨m,rfl⟩:∃ m',m=m'+1:=⟨m-1,by omega⟩;have hl:=UR Bu;simp only[Cw,hc,E2,AB] at this ⊢;cases hf:E.P.funcs[f]? with
 | none=>simp[hf] at this
 | some fn=>
  simp only[hf] at this ⊢;unfold D3 at this ⊢;rw[hl];split at this
  ·rename_i h3
   rw[if_pos h3];simp only[hk,Bu,hid] at this ⊢;exact this
  ·simp at this
def BO (a:AV) (rows:List (List PV)):Prop:=BP a rows\/∃ t,a=.own t rows
theorem BO.ok {a:AV} {rows:List (List PV)} (h:BO a rows):Ar a=true:=by
 rcases h with h|⟨t,rfl⟩
 ·exact h.ok
 ·rfl
theorem BO.HK {a:AV} {rows:List (List PV)} (h:BO a rows):HK a=true:=by
 rcases h with h|⟨t,rfl⟩
 ·exact h.HK
 ·simp[Tel.HK]
theorem BO.I3 {a:AV} {rows:List (List PV)} (h:BO a rows):I3 a=some (.list rows):=by
 rcases h with h|⟨t,rfl⟩
 ·exact h.I3
 ·rfl
theorem BO.Aa {a:AV} {rows:List (List PV)} (h:BO a rows) (n:Nat):Aa n a=true:=by
 rcases h with h|⟨t,rfl⟩
 ·exact h.Aa n
 ·simp[Tel.Aa]
theorem BO.Bk {a:AV} {rows:List (List PV)} (h:BO a rows) (s:AK):Bk s a=some rows.length:=by
 rcases h with h|⟨t,rfl⟩
 ·exact h.Bk s
 ·rfl
theorem BO.rowsOf {a:AV} {rows:List (List PV)} (h:BO a rows):rowsOf a=some rows:=by
 rcases h with h|⟨t,rfl⟩
 ·exact h.rowsOf
 ·rfl
theorem BO.cells {a:AV} {rows:List (List PV)} (h:BO a rows):cellsOf a=[a]:=by
 rcases h with h|⟨t,rfl⟩
 ·exact h.cells
 ·rfl
theorem BO.closed {a:AV} {rows:List (List PV)} (h:BO a rows) (bs:List (List AV)) (n:Nat):∃ a',close bs n 0 a=some a'/\BP a' rows:=by
 rcases h with h|⟨t,rfl⟩
 ·exact⟨a,h.close _ _ _,h⟩
 ·exact⟨_,pn,.list _⟩
theorem BO.close {a:AV} {rows:List (List PV)} (h:BO a rows) (bs:List (List AV)) (n m:Nat):∃ a',close bs n m a=some a'/\BO a' rows:=by
 rcases h with h|⟨t,rfl⟩
 ·exact⟨a,h.close _ _ _,.inl h⟩
 ·by_cases ht:t<m
  ·exact⟨.own t rows,by simp[Tel.close,ht],.inr ⟨t,rfl⟩⟩
  ·exact⟨.pv (.list rows),by simp[Tel.close,ht],.inl (.list _)⟩
theorem AAw {rr:Bool} {n:Nat} {Post:AV->AK->Prop} {p:PV} {s:AK} (hok:((s.bs.take n).all (AU n))=true) (h:Post (.pv p) ⟨s.bs.take n,s.ts⟩):QM rr n Post (.pv p) s:=
 ⟨_,_,by simp[NR,hok,SJ,Tel.close],h⟩
theorem fC {rr:Bool} {n:Nat} {Post:AV->AK->Prop} {cs ds:List AV} {s:AK} (hok:((s.bs.take n).all (AU n))=true) (hc:AN s.bs n s.ts.length cs=some ds) (h:Post (.agg ds) ⟨s.bs.take n,s.ts⟩):QM rr n Post (.agg cs) s:=
 ⟨_,_,by simp[NR,hok,SJ,Tel.close,hc],h⟩
theorem Jj {rr:Bool} {n:Nat} {Post:AV->AK->Prop} {cs ds:List AV} {s:AK} (hok:((s.bs.take n).all (AU n))=true) (hc:AN s.bs n s.ts.length cs=some ds) (h:Post (.tuple ds) ⟨s.bs.take n,s.ts⟩):QM rr n Post (.tuple cs) s:=
 ⟨_,_,by simp[NR,hok,SJ,Tel.close,hc],h⟩
def A4 (l:List Int):List (List PV):=l.map fun n=>[.sc (.int .i64 n)]
theorem Dy (l:List Int):(A4 l).length=l.length:=by simp[A4]
structure Src where
 ints:List Int
 cell:AV
 rows:BO cell (A4 ints)
def Src.length (l:Src):Nat:=l.ints.length
def Src.of (l:List Int):Src:=⟨l,.pv (.list (A4 l)),.inl (.list _)⟩
theorem Src.NC (l:List Int):(Src.of l).length=l.length:=rfl
theorem Src.AKW (l:Src) (s:AK):Bk s l.cell=some l.length:=by rw[l.rows.Bk,Dy]; rfl
theorem Src.lu (l:Src):Ar l.cell=true:=l.rows.ok
theorem Src.ART (l:Src) (n:Nat):Aa n l.cell=true:=l.rows.Aa n
theorem B7 {s:AK} {k:Nat} {x:AV} {rows:List (List PV)} {i:Int} {row:List PV} {K:AV->Prop} (hx:BO x rows) (h0:0<=i) (hr:rows[i.toNat]?=some row) (hl:row.length=k) (hk:k≠0) (h:K (.DK row 0)):Dc s k x (AD i) K:=by
 rcases hx with hx|⟨t,rfl⟩
 ·exact CS hx h0 hr hl hk h
 ·exact⟨h0,row,hr,hl,hk,h⟩
def Lu (l:Src) (k:Nat):List AV:=[l.cell,AD k]
structure NK (bs:List (List AV)) (id:Nat) (l:Src):Prop where
 lt:id<bs.length
 ok:∀ b∈bs,AU bs.length b=true
 len:l.length<2 ^ 61
def ST (bs:List (List AV)) (id:Nat) (l:Src) (k:Nat):List (List AV):=bs.set id (Lu l k)
theorem Fm {bs:List (List AV)} {id:Nat} {l:Src} {k:Nat}:(ST bs id l k).length=bs.length:=by simp[ST]
theorem Qc {bs:List (List AV)} {id:Nat} {l:Src} {k:Nat} (h:id<bs.length) (m:List (List AV)):(ST bs id l k++m)[id]?=some (Lu l k):=by
 rw[BA (by simpa[ST] using h)];simp[ST,h]
theorem AGF {bs:List (List AV)} {id:Nat} {l:Src} {k k':Nat} (h:id<bs.length) (m:List (List AV)):(ST bs id l k++m).set id (Lu l k')=ST bs id l k'++m:=by
 rw[List.set_append_left _ _ (by simpa[ST] using h)];simp[ST]
mutual
theorem US {n m:Nat} (h:n<=m):∀ (v:AV),Aa n v=true->Aa m v=true
 | .ptr id _,hv=>by simp[Aa] at hv ⊢; omega
 | .ref id _ _ _,hv=>by simp[Aa] at hv ⊢; omega
 | .Fg id,hv=>by simp[Aa] at hv ⊢; omega
 | .bz id _ _,hv=>by simp[Aa] at hv ⊢; omega
 | .func _ a b,hv=>by
  simp[Aa] at hv ⊢;exact⟨CZ h a hv.1,CZ h b hv.2⟩
 | .iface _ v,hv=>by
  simp[Aa] at hv ⊢;exact US h v hv
 | .agg cs,hv=>by
  simp[Aa] at hv ⊢;exact CZ h cs hv
 | .tuple cs,hv=>by
  simp[Aa] at hv ⊢;exact CZ h cs hv
 | .pv _,_=>by simp[Aa]
 | .De _ _,_=>by simp[Aa]
 | .DK _ _,_=>by simp[Aa]
 | .AA _,_=>by simp[Aa]
 | .own _ _,_=>by simp[Aa]
 | .HU,_=>by simp[Aa]
 | .LD _ _,_=>by simp[Aa]
theorem CZ {n m:Nat} (h:n<=m):∀ (l:List AV),AU n l=true->AU m l=true
 | [],_=>by simp[AU]
 | c::cs,hv=>by
  simp[AU] at hv ⊢;exact⟨US h c hv.1,CZ h cs hv.2⟩
end
theorem R7 (l:Src) (k n:Nat):AU n (Lu l k)=true:=by simp[Lu,AU,Aa,l.ART]
def KW (bs m:List (List AV)):Prop:=∀ b∈m,AU (bs.length+m.length) b=true
theorem NK.all {bs:List (List AV)} {id:Nat} {l:Src} (h:NK bs id l) {m:List (List AV)} (hm:KW bs m) (k:Nat):((ST bs id l k++m).all (AU (bs.length+m.length)))=true:=by
 rw[Bs];intro b hb;rcases BL.1 hb with h1|h1
 ·rcases iA h1 with h2|h2
  ·exact CZ (by omega) b (h.ok b h2)
  ·rw[h2]; exact R7 _ _ _
 ·exact hm b h1
def Ex (lo:Nat) (ts:List (Nat×TypeId)) (k:TypeId) (a:AV) (rows:List (List PV)):Prop:=a=.AA rows\/∃ t,a=.own t rows/\ts[t]?=some (rows.length,k)/\lo<=t
theorem Ex.BG {lo:Nat} {ts:List (Nat×Nat)} {k:Nat} {a:AV} {rows:List (List PV)} (h:Ex lo ts k a rows):BO a rows:=by
 rcases h with rfl|⟨t,rfl,_⟩
 ·exact .inl (.AA _)
 ·exact .inr ⟨t,rfl⟩
theorem Ex.grow {lo:Nat} {ts x:List (Nat×Nat)} {k:Nat} {a:AV} {rows:List (List PV)} (h:Ex lo ts k a rows):Ex lo (ts++x) k a rows:=by
 rcases h with rfl|⟨t,rfl,h1,h2⟩
 ·exact .inl rfl
 ·refine .inr ⟨t,rfl,?_,h2⟩
  rw[BA (Ae.1 h1).1];exact h1
theorem K1:∀ row:List PV,Cn (row.map .pv)=some row
 | []=>rfl
 | p::row=>by simp[Cn,I3,K1 row]
theorem Ma {L:A0} {bs:List (List AV)} {ts x:List (Nat×TypeId)} {e:TypeId} {k bytes:Nat} {a:AV} {rows:List (List PV)} {row:List PV} {K:AV->AK->Prop} (ha:Ex ts.length (ts++x) e a rows) (Fz:L.rt<=ts.length) (hrows:∀ r∈rows,r.length=k) (hrow:row.length=k) (hk:0<k)
  (hok:(row.map AV.pv).all Ar=true) (hb:(rows.length+1)*bytes<=2 ^ 45) (MA:rows.length+1<=2 ^ 45) (h:∀ a' x',Ex ts.length (ts++x') e a' (rows++[row])->K a' ⟨bs,ts++x'⟩) :
  E1 false L ⟨bs,ts++x⟩ e k bytes a (.AA [row]) K:=by
 have hsrc:C8 ⟨bs,ts++x⟩ k (.AA [row])=some (row.map .pv):=by simp[C8,rowsOf,hrow]
 have hall:(rows.all fun r=>r.length==k)=true:=by
  rw[Bs];intro r hr;simpa using hrows r hr
 have hdiv:row.length / k=1:=by rw[hrow]; exact Nat.div_self hk
 have hby:B6 k 1 row=[row]:=by simp[B6,CL (Nat.le_of_eq hrow)]
 unfold E1;rw[hsrc]
 obtain⟨c,cs,hc⟩:∃ c cs,row=c::cs:=by
  cases row with
  | nil=>simp at hrow; omega
  | cons c cs=>exact⟨c,cs,rfl⟩
 have hmap:row.map AV.pv=.pv c::cs.map .pv:=by rw[hc]; rfl
 have hl:(AV.pv c::cs.map .pv).length / k=1:=by
  rw[<-hmap,AZ,hdiv]
 have xm:Cn (AV.pv c::cs.map .pv)=some row:=by rw[<-hmap]; exact K1 row
 rw[hmap] at hok;simp only[wO,hmap,hok,hl,xm,hby];refine⟨Al,?_⟩;rcases ha with rfl|⟨t,rfl,h1,h2⟩
 ·refine⟨⟨hb,MA,hall⟩,?_⟩
  have:=h (.own (ts++x).length (rows++[row])) (x++[(rows.length+1,e)]) (.inr ⟨_,rfl,by rw[<-DI,OX]; simp,by simp⟩);simpa using this
 ·refine⟨⟨hb,MA,h1,by omega,hall⟩,?_⟩
  have hlt:t<(ts++x).length:=(Ae.1 h1).1;have es:(ts++x).set t (rows.length+1,e)=ts++x.set (t-ts.length) (rows.length+1,e):=LC _ _ h2;have:=h (.own t (rows++[row])) (x.set (t-ts.length) (rows.length+1,e)) (.inr ⟨_,rfl,by rw[<-es,EA hlt]; simp,h2⟩);rw[es];exact this
theorem gu (n:Int):ZC n n=true:=by cases n <;> simp[ZC]
theorem Yy (l:List UInt8):E5 l l=true:=by rw[MJ]; simp
theorem JE (k:IntKind) (n:Int):oC (.int k n) (.int k n)=true:=by simp[oC,gu]
theorem LV (b:ByteArray):oC (.string b) (.string b)=true:=by simp[oC,Yy]
theorem AMU (b:Bool):oC (.bool b) (.bool b)=true:=by simp[oC]
end Go.Tel
