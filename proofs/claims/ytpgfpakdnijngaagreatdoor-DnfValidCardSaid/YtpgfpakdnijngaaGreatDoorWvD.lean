/-
  Helpers for proofs about unknown arguments.
-/
import Derived.Test.YtpgfpakdnijngaaGreatDoorWvC
set_option linter.all false
namespace Go.Tel
theorem wrap64 {n:Int} (h1:-9223372036854775808<=n) (h2:n<9223372036854775808):IntKind.wrap .i64 n=n:=by grind[IntKind.wrap,IntKind.signed,IntKind.bits]
theorem CS {n:Int} {K:AV->Prop} (h1:-9223372036854775808<=n) (h2:n<9223372036854775808) (h:K (AG n)):jK .i64 n K:=by grind[jK,wrap64]
def A0 (a:AV) (rows:List (List PV)):Prop:=a=.pv (.list rows)\/a=.AE rows
theorem A0.list (rows:List (List PV)):A0 (.pv (.list rows)) rows:=.inl rfl
theorem A0.AE (rows:List (List PV)):A0 (.AE rows) rows:=.inr rfl
theorem A0.rowsOf {a:AV} {rows:List (List PV)} (h:A0 a rows):rowsOf a=some rows:=by rcases h with rfl|rfl <;> rfl
theorem A0.ok {a:AV} {rows:List (List PV)} (h:A0 a rows):A7 a=true:=by rcases h with rfl|rfl <;> rfl
theorem A0.Jk {a:AV} {rows:List (List PV)} (h:A0 a rows):Jk a=true:=by rcases h with rfl|rfl <;> rfl
theorem A0.FR {a:AV} {rows:List (List PV)} (h:A0 a rows):FR a=true:=by rcases h with rfl|rfl <;> rfl
theorem A0.KM {a:AV} {rows:List (List PV)} (h:A0 a rows):KM a=some (.list rows):=by rcases h with rfl|rfl <;> rfl
theorem A0.close {a:AV} {rows:List (List PV)} (h:A0 a rows) (bs:List (List AV)) (n m:Nat):close bs n m a=some a:=by rcases h with rfl|rfl <;> rfl
theorem A0.cells {a:AV} {rows:List (List PV)} (h:A0 a rows):cellsOf a=[a]:=by rcases h with rfl|rfl <;> rfl
theorem A0.BD {a:AV} {rows:List (List PV)} (h:A0 a rows) (s:AQ):BD s a=some rows.length:=by rcases h with rfl|rfl <;> rfl
theorem A0.Ax {a:AV} {rows:List (List PV)} (h:A0 a rows) (n:Nat):Ax n a=true:=by rcases h with rfl|rfl <;> rfl
theorem BR {s:AQ} {k:Nat} {x:AV} {rows:List (List PV)} {i:Int} {row:List PV} {K:AV->Prop} (hx:A0 x rows) (h0:0<=i) (hr:rows[i.toNat]?=some row) (hl:row.length=k) (hk:k≠0) (h:K (.Ct row 0)):ND s k x (AG i) K:=by
 rcases hx with rfl|rfl
 .exact⟨h0,row,hr,hl,hk,h⟩
 .exact⟨h0,row,hr,hl,hk,h⟩
theorem qD {k:IntKind} {n:Int}:A7 (.pv (.sc (.int k n)))=true:=rfl
theorem mC {k:IntKind} {n:Int}:cellsOf (.pv (.sc (.int k n)))=[.pv (.sc (.int k n))]:=rfl
theorem okB {b:Bool}:A7 (.pv (.sc (.bool b)))=true:=rfl
theorem qE {b:Bool}:cellsOf (.pv (.sc (.bool b)))=[.pv (.sc (.bool b))]:=rfl
theorem qH {b:ByteArray}:A7 (.pv (.sc (.string b)))=true:=rfl
theorem qI {b:ByteArray}:cellsOf (.pv (.sc (.string b)))=[.pv (.sc (.string b))]:=rfl
theorem qJ {r:List (List PV)}:A7 (.pv (.list r))=true:=rfl
theorem qK {r:List (List PV)}:cellsOf (.pv (.list r))=[.pv (.list r)]:=rfl
theorem iG {r:List (List PV)}:A7 (.AE r)=true:=rfl
theorem qL {r:List (List PV)}:cellsOf (.AE r)=[.AE r]:=rfl
theorem qN {t:Nat} {r:List (List PV)}:A7 (.own t r)=true:=rfl
theorem qO {t:Nat} {r:List (List PV)}:cellsOf (.own t r)=[.own t r]:=rfl
theorem qP {i o:Nat}:A7 (.ptr i o)=true:=rfl
theorem qQ {i o:Nat}:cellsOf (.ptr i o)=[.ptr i o]:=rfl
theorem qR {i o:Nat}:A7 (.Dt i o)=true:=rfl
theorem qT {i o:Nat}:cellsOf (.Dt i o)=[.Dt i o]:=rfl
theorem qU {r:List PV} {o:Nat}:A7 (.Ct r o)=true:=rfl
theorem qV {r:List PV} {o:Nat}:cellsOf (.Ct r o)=[.Ct r o]:=rfl
theorem qW {i o l z:Nat}:A7 (.ref i o l z)=true:=rfl
theorem qX {i o l z:Nat}:cellsOf (.ref i o l z)=[.ref i o l z]:=rfl
theorem okF {f:Fn} {a b:List AV}:A7 (.func f a b)=true:=rfl
theorem qY {f:Fn} {a b:List AV}:cellsOf (.func f a b)=[.func f a b]:=rfl
theorem qZ {t:TypeId} {v:AV}:A7 (.iface t v)=true:=rfl
theorem qa {t:TypeId} {v:AV}:cellsOf (.iface t v)=[.iface t v]:=rfl
theorem qb {i:Nat}:A7 (.HY i)=true:=rfl
theorem qc {i:Nat}:cellsOf (.HY i)=[.HY i]:=rfl
theorem Q0 :A7 (.pv (.sc (.pointer none)))=true:=rfl
theorem qd :cellsOf (.pv (.sc (.pointer none)))=[.pv (.sc (.pointer none))]:=rfl
theorem Q1 :A7 (.pv (.sc .nilFunc))=true:=rfl
theorem Q2 :cellsOf (.pv (.sc .nilFunc))=[.pv (.sc .nilFunc)]:=rfl
theorem Q3 :A7 (.pv (.sc .nilIface))=true:=rfl
theorem Q4 :cellsOf (.pv (.sc .nilIface))=[.pv (.sc .nilIface)]:=rfl
theorem qe {cs:List AV}:cellsOf (.agg cs)=cs:=rfl
theorem qf {r:List (List PV)}:rowsOf (.pv (.list r))=some r:=rfl
theorem qi {r:List (List PV)} (s:AQ):BD s (.pv (.list r))=some r.length:=rfl
theorem qg {r:List (List PV)}:rowsOf (.AE r)=some r:=rfl
theorem qj {r:List (List PV)} (s:AQ):BD s (.AE r)=some r.length:=rfl
theorem qh {t:Nat} {r:List (List PV)}:rowsOf (.own t r)=some r:=rfl
theorem qm {t:Nat} {r:List (List PV)} (s:AQ):BD s (.own t r)=some r.length:=rfl
theorem qo {p:PV}:KM (.pv p)=some p:=rfl
theorem qp {r:List (List PV)}:KM (.AE r)=some (.list r):=rfl
theorem qq {t:Nat} {r:List (List PV)}:KM (.own t r)=some (.list r):=rfl
theorem GX {bs:List (List AV)} {n m:Nat} {p:PV}:close bs n m (.pv p)=some (.pv p):=AR
theorem qt {bs:List (List AV)} {n m:Nat} {r:List (List PV)}:close bs n m (.AE r)=some (.AE r):=AR
theorem mD {bs:List (List AV)} {n t:Nat} {r:List (List PV)}:close bs n 0 (.own t r)=some (.pv (.list r)):=AR
theorem qu {bs:List (List AV)} {n m:Nat} {f:Fn}:close bs n m (.func f [] [])=some (.func f [] []):=AR
theorem qv {bs:List (List AV)} {n m:Nat} {cs:List AV}:close bs n m (.agg cs)=(BK bs n m cs).map .agg:=by grind[close]
theorem qw {bs:List (List AV)} {n m:Nat} {cs:List AV}:close bs n m (.tuple cs)=(BK bs n m cs).map .tuple:=by grind[close]
theorem qx {bs:List (List AV)} {n m:Nat}:BK bs n m []=some []:=AR
theorem qy {bs:List (List AV)} {n m:Nat} {c:AV} {cs:List AV}:BK bs n m (c::cs)=(close bs n m c).bind λc=>(BK bs n m cs).map (c::·):=by
 rw[BK];cases close bs n m c <;> cases BK bs n m cs <;> rfl
theorem rA {p:PV}:Jk (.pv p)=true:=AR
theorem rC {r:List (List PV)}:Jk (.AE r)=true:=AR
theorem rD {t:Nat} {r:List (List PV)}:Jk (.own t r)=true:=AR
theorem rF:I2 []=true:=AR
theorem rH {c:AV} {cs:List AV}:I2 (c::cs)=(Jk c&&I2 cs):=AR
theorem TQ {α:Type} (l m:List α) (k:Nat):(l++m)[l.length+k]?=m[k]?:=AB
theorem TR {α:Type} (l m:List α) (k:Nat) (v:α):(l++m).set (l.length+k) v=l++m.set k v:=AD
theorem UK {α:Type} (l m:List α):(l++m)[l.length]?=m[0]?:=TQ l m 0
theorem UL {α:Type} (l m:List α) (v:α):(l++m).set l.length v=l++m.set 0 v:=TR l m 0 v
def BP (s:AQ):Prop:=∀b∈s.bs,Ag s.bs.length b=true
def BF (a:AV) (rows:List (List PV)):Prop:=A0 a rows\/∃t,a=.own t rows
theorem BF.ok {a:AV} {rows:List (List PV)} (h:BF a rows):A7 a=true:=by
 rcases h with h|⟨t,rfl⟩
 .exact h.ok
 rfl
theorem BF.Jk {a:AV} {rows:List (List PV)} (h:BF a rows):Jk a=true:=by
 rcases h with h|⟨t,rfl⟩
 .exact h.Jk
 rfl
theorem BF.KM {a:AV} {rows:List (List PV)} (h:BF a rows):KM a=some (.list rows):=by
 rcases h with h|⟨t,rfl⟩
 .exact h.KM
 rfl
theorem BF.Ax {a:AV} {rows:List (List PV)} (h:BF a rows) (n:Nat):Ax n a=true:=by
 rcases h with h|⟨t,rfl⟩
 .exact h.Ax n
 rfl
theorem BF.BD {a:AV} {rows:List (List PV)} (h:BF a rows) (s:AQ):BD s a=some rows.length:=by
 rcases h with h|⟨t,rfl⟩
 .exact h.BD s
 rfl
theorem BF.rowsOf {a:AV} {rows:List (List PV)} (h:BF a rows):rowsOf a=some rows:=by
 rcases h with h|⟨t,rfl⟩
 .exact h.rowsOf
 rfl
theorem BF.cells {a:AV} {rows:List (List PV)} (h:BF a rows):cellsOf a=[a]:=by
 rcases h with h|⟨t,rfl⟩
 .exact h.cells
 rfl
theorem BF.closed {a:AV} {rows:List (List PV)} (h:BF a rows) (bs:List (List AV)) (n:Nat):∃a',close bs n 0 a=some a'/\A0 a' rows:=by
 rcases h with h|⟨t,rfl⟩
 .exact⟨a,h.close _ _ _,h⟩
 .exact⟨_,mD,.list _⟩
theorem BF.close {a:AV} {rows:List (List PV)} (h:BF a rows) (bs:List (List AV)) (n m:Nat):∃a',close bs n m a=some a'/\BF a' rows:=by
 rcases h with h|⟨t,rfl⟩
 .exact⟨a,h.close _ _ _,.inl h⟩
 .by_cases ht:t<m
  .exact⟨.own t rows,by grind[Tel.close],.inr ⟨t,rfl⟩⟩
  .exact⟨.pv (.list rows),by grind[Tel.close],.inl (.list _)⟩
theorem AEA {rr:Bool} {n:Nat} {Post:AV->AQ->Prop} {p:PV} {s:AQ} (hok:((s.bs.take n).all (Ag n))=true) (h:Post (.pv p) ⟨s.bs.take n,s.ts⟩):QM rr n Post (.pv p) s:=
 ⟨_,_,by grind[Hy,IC,Tel.close],h⟩
theorem aM {rr:Bool} {n:Nat} {Post:AV->AQ->Prop} {cs ds:List AV} {s:AQ} (hok:((s.bs.take n).all (Ag n))=true) (hc:BK s.bs n s.ts.length cs=some ds) (h:Post (.agg ds) ⟨s.bs.take n,s.ts⟩):QM rr n Post (.agg cs) s:=
 ⟨_,_,by grind[Hy,IC,Tel.close],h⟩
theorem J7 {rr:Bool} {n:Nat} {Post:AV->AQ->Prop} {cs ds:List AV} {s:AQ} (hok:((s.bs.take n).all (Ag n))=true) (hc:BK s.bs n s.ts.length cs=some ds) (h:Post (.tuple ds) ⟨s.bs.take n,s.ts⟩):QM rr n Post (.tuple cs) s:=
 ⟨_,_,by grind[Hy,IC,Tel.close],h⟩
def Ad (l:List Int):List (List PV):=l.map λn=>[.sc (.int .i64 n)]
theorem BU (l:List Int):(Ad l).length=l.length:=by simp[Ad]
structure Src where
 ints:List Int
 cell:AV
 rows:BF cell (Ad ints)
def Src.length (l:Src):Nat:=l.ints.length
def Src.of (l:List Int):Src:=⟨l,.pv (.list (Ad l)),.inl (.list _)⟩
theorem Src.Ym (l:List Int):(Src.of l).length=l.length:=rfl
theorem Src.ASQ (l:Src) (s:AQ):BD s l.cell=some l.length:=by rw[l.rows.BD,BU]; rfl
theorem Src.iG (l:Src):A7 l.cell=true:=l.rows.ok
theorem Src.Acv (l:Src) (n:Nat):Ax n l.cell=true:=l.rows.Ax n
theorem BX {s:AQ} {k:Nat} {x:AV} {rows:List (List PV)} {i:Int} {row:List PV} {K:AV->Prop} (hx:BF x rows) (h0:0<=i) (hr:rows[i.toNat]?=some row) (hl:row.length=k) (hk:k≠0) (h:K (.Ct row 0)):ND s k x (AG i) K:=by
 rcases hx with hx|⟨t,rfl⟩
 .grind[BR]
 .exact⟨h0,row,hr,hl,hk,h⟩
def K5 (l:Src) (k:Nat):List AV:=[l.cell,AG k]
structure NM (bs:List (List AV)) (id:Nat) (l:Src):Prop where
 lt:id<bs.length
 ok:∀b∈bs,Ag bs.length b=true
 len:l.length<2 ^ 61
def ST (bs:List (List AV)) (id:Nat) (l:Src) (k:Nat):List (List AV):=bs.set id (K5 l k)
theorem Fc {bs:List (List AV)} {id:Nat} {l:Src} {k:Nat}:(ST bs id l k).length=bs.length:=by simp[ST]
theorem Rf {bs:List (List AV)} {id:Nat} {l:Src} {k:Nat} (h:id<bs.length) (m:List (List AV)):(ST bs id l k++m)[id]?=some (K5 l k):=by grind[ST]
theorem AKT {bs:List (List AV)} {id:Nat} {l:Src} {k k':Nat} (h:id<bs.length) (m:List (List AV)):(ST bs id l k++m).set id (K5 l k')=ST bs id l k'++m:=by simp[*,ST]
mutual
theorem WO {n m:Nat} (h:n<=m):∀(v:AV),Ax n v=true->Ax m v=true
 | .ptr id _,hv=>by simp[Ax] at hv ⊢; omega
 | .ref id _ _ _,hv=>by simp[Ax] at hv ⊢; omega
 | .HY id,hv=>by simp[Ax] at hv ⊢; omega
 | .bz id _ _,hv=>by simp[Ax] at hv ⊢; omega
 | .func _ a b,hv=>by
  simp[Ax] at hv ⊢;exact⟨Bg h a hv.1,Bg h b hv.2⟩
 | .iface _ v,hv=>by
  simp[Ax] at hv ⊢;exact WO h v hv
 | .agg cs,hv=>by
  simp[Ax] at hv ⊢;exact Bg h cs hv
 | .tuple cs,hv=>by
  simp[Ax] at hv ⊢;exact Bg h cs hv
 | .pv _,_=>by rfl
 | .Dt _ _,_=>by rfl
 | .Ct _ _,_=>by rfl
 | .AE _,_=>by rfl
 | .own _ _,_=>by rfl
 | .Gm,_=>by rfl
 | .PN _ _,_=>by rfl
theorem Bg {n m:Nat} (h:n<=m):∀(l:List AV),Ag n l=true->Ag m l=true
 | [],_=>by rfl
 | c::cs,hv=>by
  simp[Ag] at hv ⊢;exact⟨WO h c hv.1,Bg h cs hv.2⟩
end
theorem bM (l:Src) (k n:Nat):Ag n (K5 l k)=true:=by simp[K5,Ag,Ax,l.Acv]
def KT (bs m:List (List AV)):Prop:=∀b∈m,Ag (bs.length+m.length) b=true
theorem NM.all {bs:List (List AV)} {id:Nat} {l:Src} (h:NM bs id l) {m:List (List AV)} (hm:KT bs m) (k:Nat):((ST bs id l k++m).all (Ag (bs.length+m.length)))=true:=by
 rw[DE];intro b hb;rcases B7.1 hb with h1|h1
 .rcases ZD h1 with h2|h2
  .exact Bg AA b (h.ok b h2)
  grind[bM]
 .exact hm b h1
def Dn (lo:Nat) (ts:List (Nat×TypeId)) (k:TypeId) (a:AV) (rows:List (List PV)):Prop:=a=.AE rows\/∃t,a=.own t rows/\ts[t]?=some (rows.length,k)/\lo<=t
theorem Dn.A4 {lo:Nat} {ts:List (Nat×Nat)} {k:Nat} {a:AV} {rows:List (List PV)} (h:Dn lo ts k a rows):BF a rows:=by
 rcases h with rfl|⟨t,rfl,_⟩
 .exact .inl (.AE _)
 .exact .inr ⟨t,rfl⟩
theorem Dn.grow {lo:Nat} {ts x:List (Nat×Nat)} {k:Nat} {a:AV} {rows:List (List PV)} (h:Dn lo ts k a rows):Dn lo (ts++x) k a rows:=by
 rcases h with rfl|⟨t,rfl,h1,h2⟩
 .exact .inl rfl
 .refine .inr ⟨t,rfl,?_,h2⟩
  grind
theorem IP:∀row:List PV,CD (row.map .pv)=some row
 | []=>rfl
 | p::row=>by simp[CD,KM,IP row]
theorem M9 {L:BI} {bs:List (List AV)} {ts x:List (Nat×TypeId)} {e:TypeId} {k bytes:Nat} {a:AV} {rows:List (List PV)} {row:List PV} {K:AV->AQ->Prop} (ha:Dn ts.length (ts++x) e a rows) (El:L.rt<=ts.length) (hrows:∀r∈rows,r.length=k) (hrow:row.length=k) (hk:0<k)
  (hok:(row.map AV.pv).all A7=true) (hb:(rows.length+1)*bytes<=2 ^ 45) (Mk:rows.length+1<=2 ^ 45) (h:∀a' x',Dn ts.length (ts++x') e a' (rows++[row])->K a' ⟨bs,ts++x'⟩) :
  HB false L ⟨bs,ts++x⟩ e k bytes a (.AE [row]) K:=by
 have hsrc:Cz ⟨bs,ts++x⟩ k (.AE [row])=some (row.map .pv):=by grind[Cz,rowsOf]
 have hall:(rows.all λr=>r.length==k)=true:=AB;have hdiv:row.length / k=1:=by simp[*]
 have hby:CJ k 1 row=[row]:=by grind[CJ]
 unfold HB;rw[hsrc]
 obtain⟨c,cs,hc⟩:∃c cs,row=c::cs:=by
  cases row with
  | nil=>grind
  | cons c cs=>simp
 have hmap:row.map AV.pv=.pv c::cs.map .pv:=AB;have hl:(AV.pv c::cs.map .pv).length / k=1:=AB;have htp:CD (AV.pv c::cs.map .pv)=some row:=by grind[IP]
 rw[hmap] at hok;simp only[wO,hmap,hok,hl,htp,hby];refine⟨Ai,?_⟩;rcases ha with rfl|⟨t,rfl,h1,h2⟩
 .refine⟨⟨hb,Mk,hall⟩,?_⟩
  have:=h (.own (ts++x).length (rows++[row])) (x++[(rows.length+1,e)]) (.inr ⟨_,rfl,AD,AD⟩)
  grind
 .refine⟨⟨hb,Mk,h1,AA,hall⟩,?_⟩
  have hlt:t<(ts++x).length:=(BA.1 h1).1;have es:(ts++x).set t (rows.length+1,e)=ts++x.set (t-ts.length) (rows.length+1,e):=ZF _ _ h2;have:=h (.own t (rows++[row])) (x.set (t-ts.length) (rows.length+1,e)) (.inr ⟨_,rfl,AB,h2⟩)
  grind
theorem lM (n:Int):bl n n=true:=by cases n <;> simp[bl]
theorem bT (l:List UInt8):Fv l l=true:=by grind[R2]
theorem Fa (k:IntKind) (n:Int):eqV (.int k n) (.int k n)=true:=by simp[eqV,lM]
theorem Ic (b:ByteArray):eqV (.string b) (.string b)=true:=by simp[eqV,bT]
end Go.Tel
