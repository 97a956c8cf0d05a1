/-
  Helpers for proofs about unknown arguments.
-/
import Derived.Test.YtpgfpakdnijngaaGreatDoorWvC
set_option linter.all false
namespace Go.Tel
theorem wrap64 {n:Int} (h1:-9223372036854775808<=n) (h2:n<9223372036854775808):IntKind.wrap .i64 n=n:=by grind[IntKind.wrap,IntKind.signed,IntKind.bits]
theorem B7 {n:Int} {K:AV->Prop} (h1:-9223372036854775808<=n) (h2:n<9223372036854775808) (h:K (AA n)):eu .i64 n K:=by grind[eu,wrap64]
def Aq (a:AV) (rows:List (List PV)):Prop:=a=.pv (.list rows)\/a=.AB rows
theorem Aq.list (rows:List (List PV)):Aq (.pv (.list rows)) rows:=.inl rfl
theorem Aq.AB (rows:List (List PV)):Aq (.AB rows) rows:=.inr rfl
theorem Aq.rowsOf {a:AV} {rows:List (List PV)} (h:Aq a rows):rowsOf a=some rows:=by rcases h with rfl|rfl <;> rfl
theorem Aq.ok {a:AV} {rows:List (List PV)} (h:Aq a rows):A9 a=true:=by rcases h with rfl|rfl <;> rfl
theorem Aq.JA {a:AV} {rows:List (List PV)} (h:Aq a rows):JA a=true:=by rcases h with rfl|rfl <;> rfl
theorem Aq.F1 {a:AV} {rows:List (List PV)} (h:Aq a rows):F1 a=true:=by rcases h with rfl|rfl <;> rfl
theorem Aq.Jg {a:AV} {rows:List (List PV)} (h:Aq a rows):Jg a=some (.list rows):=by rcases h with rfl|rfl <;> rfl
theorem Aq.close {a:AV} {rows:List (List PV)} (h:Aq a rows) (bs:List (List AV)) (n m:Nat):close bs n m a=some a:=by rcases h with rfl|rfl <;> rfl
theorem Aq.cells {a:AV} {rows:List (List PV)} (h:Aq a rows):cellsOf a=[a]:=by rcases h with rfl|rfl <;> rfl
theorem Aq.A7 {a:AV} {rows:List (List PV)} (h:Aq a rows) (s:AM):A7 s a=some rows.length:=by rcases h with rfl|rfl <;> rfl
theorem Aq.Ar {a:AV} {rows:List (List PV)} (h:Aq a rows) (n:Nat):Ar n a=true:=by rcases h with rfl|rfl <;> rfl
theorem BI {s:AM} {k:Nat} {x:AV} {rows:List (List PV)} {i:Int} {row:List PV} {K:AV->Prop} (hx:Aq x rows) (h0:0<=i) (hr:rows[i.toNat]?=some row) (hl:row.length=k) (hk:k≠0) (h:K (.Cq row 0)):Bh s k x (AA i) K:=by
 rcases hx with rfl|rfl
 .exact⟨h0,row,hr,hl,hk,h⟩
 .exact⟨h0,row,hr,hl,hk,h⟩
theorem si {k:IntKind} {n:Int}:A9 (.pv (.sc (.int k n)))=true:=rfl
theorem qd {k:IntKind} {n:Int}:cellsOf (.pv (.sc (.int k n)))=[.pv (.sc (.int k n))]:=rfl
theorem okB {b:Bool}:A9 (.pv (.sc (.bool b)))=true:=rfl
theorem sj {b:Bool}:cellsOf (.pv (.sc (.bool b)))=[.pv (.sc (.bool b))]:=rfl
theorem sk {b:ByteArray}:A9 (.pv (.sc (.string b)))=true:=rfl
theorem sq {b:ByteArray}:cellsOf (.pv (.sc (.string b)))=[.pv (.sc (.string b))]:=rfl
theorem sr {r:List (List PV)}:A9 (.pv (.list r))=true:=rfl
theorem su {r:List (List PV)}:cellsOf (.pv (.list r))=[.pv (.list r)]:=rfl
theorem jh {r:List (List PV)}:A9 (.AB r)=true:=rfl
theorem sw {r:List (List PV)}:cellsOf (.AB r)=[.AB r]:=rfl
theorem sx {t:Nat} {r:List (List PV)}:A9 (.own t r)=true:=rfl
theorem sy {t:Nat} {r:List (List PV)}:cellsOf (.own t r)=[.own t r]:=rfl
theorem s7 {i o:Nat}:A9 (.ptr i o)=true:=rfl
theorem s8 {i o:Nat}:cellsOf (.ptr i o)=[.ptr i o]:=rfl
theorem s9 {i o:Nat}:A9 (.DS i o)=true:=rfl
theorem tA {i o:Nat}:cellsOf (.DS i o)=[.DS i o]:=rfl
theorem tB {r:List PV} {o:Nat}:A9 (.Cq r o)=true:=rfl
theorem tC {r:List PV} {o:Nat}:cellsOf (.Cq r o)=[.Cq r o]:=rfl
theorem tD {i o l z:Nat}:A9 (.ref i o l z)=true:=rfl
theorem tE {i o l z:Nat}:cellsOf (.ref i o l z)=[.ref i o l z]:=rfl
theorem okF {f:Fn} {a b:List AV}:A9 (.func f a b)=true:=rfl
theorem tF {f:Fn} {a b:List AV}:cellsOf (.func f a b)=[.func f a b]:=rfl
theorem tG {t:TypeId} {v:AV}:A9 (.iface t v)=true:=rfl
theorem tH {t:TypeId} {v:AV}:cellsOf (.iface t v)=[.iface t v]:=rfl
theorem tI {i:Nat}:A9 (.G8 i)=true:=rfl
theorem tJ {i:Nat}:cellsOf (.G8 i)=[.G8 i]:=rfl
theorem Xs :A9 (.pv (.sc (.pointer none)))=true:=rfl
theorem tK :cellsOf (.pv (.sc (.pointer none)))=[.pv (.sc (.pointer none))]:=rfl
theorem SR :A9 (.pv (.sc .nilFunc))=true:=rfl
theorem SU :cellsOf (.pv (.sc .nilFunc))=[.pv (.sc .nilFunc)]:=rfl
theorem SV :A9 (.pv (.sc .nilIface))=true:=rfl
theorem SW :cellsOf (.pv (.sc .nilIface))=[.pv (.sc .nilIface)]:=rfl
theorem tL {cs:List AV}:cellsOf (.agg cs)=cs:=rfl
theorem tM {r:List (List PV)}:rowsOf (.pv (.list r))=some r:=rfl
theorem tQ {r:List (List PV)} (s:AM):A7 s (.pv (.list r))=some r.length:=rfl
theorem tN {r:List (List PV)}:rowsOf (.AB r)=some r:=rfl
theorem tR {r:List (List PV)} (s:AM):A7 s (.AB r)=some r.length:=rfl
theorem tP {t:Nat} {r:List (List PV)}:rowsOf (.own t r)=some r:=rfl
theorem tS {t:Nat} {r:List (List PV)} (s:AM):A7 s (.own t r)=some r.length:=rfl
theorem tT {p:PV}:Jg (.pv p)=some p:=rfl
theorem tU {r:List (List PV)}:Jg (.AB r)=some (.list r):=rfl
theorem tV {t:Nat} {r:List (List PV)}:Jg (.own t r)=some (.list r):=rfl
theorem Fw {bs:List (List AV)} {n m:Nat} {p:PV}:close bs n m (.pv p)=some (.pv p):=by rfl
theorem tW {bs:List (List AV)} {n m:Nat} {r:List (List PV)}:close bs n m (.AB r)=some (.AB r):=by rfl
theorem qe {bs:List (List AV)} {n t:Nat} {r:List (List PV)}:close bs n 0 (.own t r)=some (.pv (.list r)):=by rfl
theorem tX {bs:List (List AV)} {n m:Nat} {f:Fn}:close bs n m (.func f [] [])=some (.func f [] []):=by rfl
theorem tY {bs:List (List AV)} {n m:Nat} {cs:List AV}:close bs n m (.agg cs)=(AY bs n m cs).map .agg:=by grind[close]
theorem tZ {bs:List (List AV)} {n m:Nat} {cs:List AV}:close bs n m (.tuple cs)=(AY bs n m cs).map .tuple:=by grind[close]
theorem td {bs:List (List AV)} {n m:Nat}:AY bs n m []=some []:=by rfl
theorem th {bs:List (List AV)} {n m:Nat} {c:AV} {cs:List AV}:AY bs n m (c::cs)=(close bs n m c).bind λc=>(AY bs n m cs).map (c::·):=by
 rw[AY];cases close bs n m c <;> cases AY bs n m cs <;> rfl
theorem tj {p:PV}:JA (.pv p)=true:=by rfl
theorem tq {r:List (List PV)}:JA (.AB r)=true:=by rfl
theorem uA {t:Nat} {r:List (List PV)}:JA (.own t r)=true:=by rfl
theorem uB:IG []=true:=by rfl
theorem uC {c:AV} {cs:List AV}:IG (c::cs)=(JA c&&IG cs):=by rfl
theorem Rc {α:Type} (l m:List α) (k:Nat):(l++m)[l.length+k]?=m[k]?:=by grind
theorem Re {α:Type} (l m:List α) (k:Nat) (v:α):(l++m).set (l.length+k) v=l++m.set k v:=by simp
theorem SY {α:Type} (l m:List α):(l++m)[l.length]?=m[0]?:=Rc l m 0
theorem SZ {α:Type} (l m:List α) (v:α):(l++m).set l.length v=l++m.set 0 v:=Re l m 0 v
def BM (s:AM):Prop:=∀b∈s.bs,Ab s.bs.length b=true
def BF (a:AV) (rows:List (List PV)):Prop:=Aq a rows\/∃t,a=.own t rows
theorem BF.ok {a:AV} {rows:List (List PV)} (h:BF a rows):A9 a=true:=by
 rcases h with h|⟨t,rfl⟩
 .exact h.ok
 rfl
theorem BF.JA {a:AV} {rows:List (List PV)} (h:BF a rows):JA a=true:=by
 rcases h with h|⟨t,rfl⟩
 .exact h.JA
 rfl
theorem BF.Jg {a:AV} {rows:List (List PV)} (h:BF a rows):Jg a=some (.list rows):=by
 rcases h with h|⟨t,rfl⟩
 .exact h.Jg
 rfl
theorem BF.Ar {a:AV} {rows:List (List PV)} (h:BF a rows) (n:Nat):Ar n a=true:=by
 rcases h with h|⟨t,rfl⟩
 .exact h.Ar n
 rfl
theorem BF.A7 {a:AV} {rows:List (List PV)} (h:BF a rows) (s:AM):A7 s a=some rows.length:=by
 rcases h with h|⟨t,rfl⟩
 .exact h.A7 s
 rfl
theorem BF.rowsOf {a:AV} {rows:List (List PV)} (h:BF a rows):rowsOf a=some rows:=by
 rcases h with h|⟨t,rfl⟩
 .exact h.rowsOf
 rfl
theorem BF.cells {a:AV} {rows:List (List PV)} (h:BF a rows):cellsOf a=[a]:=by
 rcases h with h|⟨t,rfl⟩
 .exact h.cells
 rfl
theorem BF.closed {a:AV} {rows:List (List PV)} (h:BF a rows) (bs:List (List AV)) (n:Nat):∃a',close bs n 0 a=some a'/\Aq a' rows:=by
 rcases h with h|⟨t,rfl⟩
 .exact⟨a,h.close _ _ _,h⟩
 .exact⟨_,qe,.list _⟩
theorem BF.close {a:AV} {rows:List (List PV)} (h:BF a rows) (bs:List (List AV)) (n m:Nat):∃a',close bs n m a=some a'/\BF a' rows:=by
 rcases h with h|⟨t,rfl⟩
 .exact⟨a,h.close _ _ _,.inl h⟩
 .by_cases ht:t<m
  .exact⟨.own t rows,by grind[Tel.close],.inr ⟨t,rfl⟩⟩
  .exact⟨.pv (.list rows),by grind[Tel.close],.inl (.list _)⟩
theorem AEs {rr:Bool} {n:Nat} {Post:AV->AM->Prop} {p:PV} {s:AM} (hok:((s.bs.take n).all (Ab n))=true) (h:Post (.pv p) ⟨s.bs.take n,s.ts⟩):QM rr n Post (.pv p) s:=
 ⟨_,_,by grind[HP,HV,Tel.close],h⟩
theorem YO {rr:Bool} {n:Nat} {Post:AV->AM->Prop} {cs ds:List AV} {s:AM} (hok:((s.bs.take n).all (Ab n))=true) (hc:AY s.bs n s.ts.length cs=some ds) (h:Post (.agg ds) ⟨s.bs.take n,s.ts⟩):QM rr n Post (.agg cs) s:=
 ⟨_,_,by grind[HP,HV,Tel.close],h⟩
theorem JW {rr:Bool} {n:Nat} {Post:AV->AM->Prop} {cs ds:List AV} {s:AM} (hok:((s.bs.take n).all (Ab n))=true) (hc:AY s.bs n s.ts.length cs=some ds) (h:Post (.tuple ds) ⟨s.bs.take n,s.ts⟩):QM rr n Post (.tuple cs) s:=
 ⟨_,_,by grind[HP,HV,Tel.close],h⟩
def AX (l:List Int):List (List PV):=l.map λn=>[.sc (.int .i64 n)]
theorem BV (l:List Int):(AX l).length=l.length:=by simp[AX]
structure Src where
 ints:List Int
 cell:AV
 rows:BF cell (AX ints)
def Src.length (l:Src):Nat:=l.ints.length
def Src.of (l:List Int):Src:=⟨l,.pv (.list (AX l)),.inl (.list _)⟩
theorem Src.pF (l:List Int):(Src.of l).length=l.length:=rfl
theorem Src.ASc (l:Src) (s:AM):A7 s l.cell=some l.length:=by rw[l.rows.A7,BV]; rfl
theorem Src.jh (l:Src):A9 l.cell=true:=l.rows.ok
theorem Src.AZ7 (l:Src) (n:Nat):Ar n l.cell=true:=l.rows.Ar n
theorem BQ {s:AM} {k:Nat} {x:AV} {rows:List (List PV)} {i:Int} {row:List PV} {K:AV->Prop} (hx:BF x rows) (h0:0<=i) (hr:rows[i.toNat]?=some row) (hl:row.length=k) (hk:k≠0) (h:K (.Cq row 0)):Bh s k x (AA i) K:=by
 rcases hx with hx|⟨t,rfl⟩
 .grind[BI]
 .exact⟨h0,row,hr,hl,hk,h⟩
def Mk (l:Src) (k:Nat):List AV:=[l.cell,AA k]
structure Nj (bs:List (List AV)) (id:Nat) (l:Src):Prop where
 lt:id<bs.length
 ok:∀b∈bs,Ab bs.length b=true
 len:l.length<2 ^ 61
def ST (bs:List (List AV)) (id:Nat) (l:Src) (k:Nat):List (List AV):=bs.set id (Mk l k)
theorem Ft {bs:List (List AV)} {id:Nat} {l:Src} {k:Nat}:(ST bs id l k).length=bs.length:=by simp[ST]
theorem QH {bs:List (List AV)} {id:Nat} {l:Src} {k:Nat} (h:id<bs.length) (m:List (List AV)):(ST bs id l k++m)[id]?=some (Mk l k):=by grind[ST]
theorem AMZ {bs:List (List AV)} {id:Nat} {l:Src} {k k':Nat} (h:id<bs.length) (m:List (List AV)):(ST bs id l k++m).set id (Mk l k')=ST bs id l k'++m:=by simp[*,ST]
mutual
theorem UR {n m:Nat} (h:n<=m):∀(v:AV),Ar n v=true->Ar m v=true
 | .ptr id _,hv=>by simp[Ar] at hv ⊢; omega
 | .ref id _ _ _,hv=>by simp[Ar] at hv ⊢; omega
 | .G8 id,hv=>by simp[Ar] at hv ⊢; omega
 | .bz id _ _,hv=>by simp[Ar] at hv ⊢; omega
 | .func _ a b,hv=>by
  simp[Ar] at hv ⊢;exact⟨Bn h a hv.1,Bn h b hv.2⟩
 | .iface _ v,hv=>by
  simp[Ar] at hv ⊢;exact UR h v hv
 | .agg cs,hv=>by
  simp[Ar] at hv ⊢;exact Bn h cs hv
 | .tuple cs,hv=>by
  simp[Ar] at hv ⊢;exact Bn h cs hv
 | .pv _,_=>by rfl
 | .DS _ _,_=>by rfl
 | .Cq _ _,_=>by rfl
 | .AB _,_=>by rfl
 | .own _ _,_=>by rfl
 | .Gw,_=>by rfl
 | .N8 _ _,_=>by rfl
theorem Bn {n m:Nat} (h:n<=m):∀(l:List AV),Ab n l=true->Ab m l=true
 | [],_=>by rfl
 | c::cs,hv=>by
  simp[Ab] at hv ⊢;exact⟨UR h c hv.1,Bn h cs hv.2⟩
end
theorem Y2 (l:Src) (k n:Nat):Ab n (Mk l k)=true:=by simp[Mk,Ab,Ar,l.AZ7]
def Kk (bs m:List (List AV)):Prop:=∀b∈m,Ab (bs.length+m.length) b=true
theorem Nj.all {bs:List (List AV)} {id:Nat} {l:Src} (h:Nj bs id l) {m:List (List AV)} (hm:Kk bs m) (k:Nat):((ST bs id l k++m).all (Ab (bs.length+m.length)))=true:=by
 rw[Cz];intro b hb;rcases CG.1 hb with h1|h1
 .rcases jL h1 with h2|h2
  .exact Bn (by omega) b (h.ok b h2)
  grind[Y2]
 .exact hm b h1
def Dg (lo:Nat) (ts:List (Nat×TypeId)) (k:TypeId) (a:AV) (rows:List (List PV)):Prop:=a=.AB rows\/∃t,a=.own t rows/\ts[t]?=some (rows.length,k)/\lo<=t
theorem Dg.Ax {lo:Nat} {ts:List (Nat×Nat)} {k:Nat} {a:AV} {rows:List (List PV)} (h:Dg lo ts k a rows):BF a rows:=by
 rcases h with rfl|⟨t,rfl,_⟩
 .exact .inl (.AB _)
 .exact .inr ⟨t,rfl⟩
theorem Dg.grow {lo:Nat} {ts x:List (Nat×Nat)} {k:Nat} {a:AV} {rows:List (List PV)} (h:Dg lo ts k a rows):Dg lo (ts++x) k a rows:=by
 rcases h with rfl|⟨t,rfl,h1,h2⟩
 .exact .inl rfl
 .refine .inr ⟨t,rfl,?_,h2⟩
  grind
theorem Kf:∀row:List PV,Cm (row.map .pv)=some row
 | []=>rfl
 | p::row=>by simp[Cm,Jg,Kf row]
theorem L5 {L:A8} {bs:List (List AV)} {ts x:List (Nat×TypeId)} {e:TypeId} {k bytes:Nat} {a:AV} {rows:List (List PV)} {row:List PV} {K:AV->AM->Prop} (ha:Dg ts.length (ts++x) e a rows) (EU:L.rt<=ts.length) (hrows:∀r∈rows,r.length=k) (hrow:row.length=k) (hk:0<k)
  (hok:(row.map AV.pv).all A9=true) (hb:(rows.length+1)*bytes<=2 ^ 45) (Lf:rows.length+1<=2 ^ 45) (h:∀a' x',Dg ts.length (ts++x') e a' (rows++[row])->K a' ⟨bs,ts++x'⟩) :
  Ct false L ⟨bs,ts++x⟩ e k bytes a (.AB [row]) K:=by
 have hsrc:Cx ⟨bs,ts++x⟩ k (.AB [row])=some (row.map .pv):=by grind[Cx,rowsOf]
 have hall:(rows.all λr=>r.length==k)=true:=by grind
 have hdiv:row.length / k=1:=by simp[*]
 have hby:CB k 1 row=[row]:=by grind[CB]
 unfold Ct;rw[hsrc]
 obtain⟨c,cs,hc⟩:∃c cs,row=c::cs:=by
  cases row with
  | nil=>grind
  | cons c cs=>simp
 have hmap:row.map AV.pv=.pv c::cs.map .pv:=by grind
 have hl:(AV.pv c::cs.map .pv).length / k=1:=by grind
 have htp:Cm (AV.pv c::cs.map .pv)=some row:=by grind[Kf]
 rw[hmap] at hok;simp only[wO,hmap,hok,hl,htp,hby];refine⟨Ae,?_⟩;rcases ha with rfl|⟨t,rfl,h1,h2⟩
 .refine⟨⟨hb,Lf,hall⟩,?_⟩
  have:=h (.own (ts++x).length (rows++[row])) (x++[(rows.length+1,e)]) (.inr ⟨_,rfl,by simp,by simp⟩)
  grind
 .refine⟨⟨hb,Lf,h1,by omega,hall⟩,?_⟩
  have hlt:t<(ts++x).length:=(BL.1 h1).1;have es:(ts++x).set t (rows.length+1,e)=ts++x.set (t-ts.length) (rows.length+1,e):=XD _ _ h2;have:=h (.own t (rows++[row])) (x.set (t-ts.length) (rows.length+1,e)) (.inr ⟨_,rfl,by grind,h2⟩)
  grind
theorem jH (n:Int):ZL n n=true:=by cases n <;> simp[ZL]
theorem ZA (l:List UInt8):FU l l=true:=by grind[Qb]
theorem FX (k:IntKind) (n:Int):eqV (.int k n) (.int k n)=true:=by simp[eqV,jH]
theorem Ht (b:ByteArray):eqV (.string b) (.string b)=true:=by simp[eqV,ZA]
end Go.Tel
