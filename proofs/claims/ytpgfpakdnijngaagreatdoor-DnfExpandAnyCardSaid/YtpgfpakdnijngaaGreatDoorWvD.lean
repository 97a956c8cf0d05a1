/-
  Helpers for proofs about unknown arguments.
-/
import Derived.Test.YtpgfpakdnijngaaGreatDoorWvC
set_option linter.all false
namespace Go.Tel
theorem wrap64 {n:Int} (h1:-9223372036854775808<=n) (h2:n<9223372036854775808):IntKind.wrap .i64 n=n:=by grind[IntKind.wrap,IntKind.signed,IntKind.bits]
theorem B8 {n:Int} {K:AV->Prop} (h1:-9223372036854775808<=n) (h2:n<9223372036854775808) (h:K (AB n)):fT .i64 n K:=by grind[fT,wrap64]
def Ao (a:AV) (rows:List (List PV)):Prop:=a=.pv (.list rows)\/a=.AA rows
theorem Ao.list (rows:List (List PV)):Ao (.pv (.list rows)) rows:=.inl rfl
theorem Ao.AA (rows:List (List PV)):Ao (.AA rows) rows:=.inr rfl
theorem Ao.rowsOf {a:AV} {rows:List (List PV)} (h:Ao a rows):rowsOf a=some rows:=by rcases h with rfl|rfl <;> rfl
theorem Ao.ok {a:AV} {rows:List (List PV)} (h:Ao a rows):BE a=true:=by rcases h with rfl|rfl <;> rfl
theorem Ao.Jm {a:AV} {rows:List (List PV)} (h:Ao a rows):Jm a=true:=by rcases h with rfl|rfl <;> rfl
theorem Ao.GO {a:AV} {rows:List (List PV)} (h:Ao a rows):GO a=true:=by rcases h with rfl|rfl <;> rfl
theorem Ao.Ls {a:AV} {rows:List (List PV)} (h:Ao a rows):Ls a=some (.list rows):=by rcases h with rfl|rfl <;> rfl
theorem Ao.close {a:AV} {rows:List (List PV)} (h:Ao a rows) (bs:List (List AV)) (n m:Nat):close bs n m a=some a:=by rcases h with rfl|rfl <;> rfl
theorem Ao.cells {a:AV} {rows:List (List PV)} (h:Ao a rows):cellsOf a=[a]:=by rcases h with rfl|rfl <;> rfl
theorem Ao.A9 {a:AV} {rows:List (List PV)} (h:Ao a rows) (s:AL):A9 s a=some rows.length:=by rcases h with rfl|rfl <;> rfl
theorem Ao.Ar {a:AV} {rows:List (List PV)} (h:Ao a rows) (n:Nat):Ar n a=true:=by rcases h with rfl|rfl <;> rfl
theorem BK {s:AL} {k:Nat} {x:AV} {rows:List (List PV)} {i:Int} {row:List PV} {K:AV->Prop} (hx:Ao x rows) (h0:0<=i) (hr:rows[i.toNat]?=some row) (hl:row.length=k) (hk:k≠0) (h:K (.Cn row 0)):Bj s k x (AB i) K:=by
 rcases hx with rfl|rfl
 .exact⟨h0,row,hr,hl,hk,h⟩
 .exact⟨h0,row,hr,hl,hk,h⟩
theorem tM {k:IntKind} {n:Int}:BE (.pv (.sc (.int k n)))=true:=rfl
theorem oV {k:IntKind} {n:Int}:cellsOf (.pv (.sc (.int k n)))=[.pv (.sc (.int k n))]:=rfl
theorem okB {b:Bool}:BE (.pv (.sc (.bool b)))=true:=rfl
theorem tN {b:Bool}:cellsOf (.pv (.sc (.bool b)))=[.pv (.sc (.bool b))]:=rfl
theorem tP {b:ByteArray}:BE (.pv (.sc (.string b)))=true:=rfl
theorem tQ {b:ByteArray}:cellsOf (.pv (.sc (.string b)))=[.pv (.sc (.string b))]:=rfl
theorem tR {r:List (List PV)}:BE (.pv (.list r))=true:=rfl
theorem tS {r:List (List PV)}:cellsOf (.pv (.list r))=[.pv (.list r)]:=rfl
theorem eC {r:List (List PV)}:BE (.AA r)=true:=rfl
theorem tT {r:List (List PV)}:cellsOf (.AA r)=[.AA r]:=rfl
theorem tU {t:Nat} {r:List (List PV)}:BE (.own t r)=true:=rfl
theorem tV {t:Nat} {r:List (List PV)}:cellsOf (.own t r)=[.own t r]:=rfl
theorem tW {i o:Nat}:BE (.ptr i o)=true:=rfl
theorem tX {i o:Nat}:cellsOf (.ptr i o)=[.ptr i o]:=rfl
theorem tY {i o:Nat}:BE (.DX i o)=true:=rfl
theorem tZ {i o:Nat}:cellsOf (.DX i o)=[.DX i o]:=rfl
theorem td {r:List PV} {o:Nat}:BE (.Cn r o)=true:=rfl
theorem th {r:List PV} {o:Nat}:cellsOf (.Cn r o)=[.Cn r o]:=rfl
theorem tj {i o l z:Nat}:BE (.ref i o l z)=true:=rfl
theorem tq {i o l z:Nat}:cellsOf (.ref i o l z)=[.ref i o l z]:=rfl
theorem okF {f:Fn} {a b:List AV}:BE (.func f a b)=true:=rfl
theorem uA {f:Fn} {a b:List AV}:cellsOf (.func f a b)=[.func f a b]:=rfl
theorem uB {t:TypeId} {v:AV}:BE (.iface t v)=true:=rfl
theorem uC {t:TypeId} {v:AV}:cellsOf (.iface t v)=[.iface t v]:=rfl
theorem uD {i:Nat}:BE (.FL i)=true:=rfl
theorem uE {i:Nat}:cellsOf (.FL i)=[.FL i]:=rfl
theorem YE :BE (.pv (.sc (.pointer none)))=true:=rfl
theorem uF :cellsOf (.pv (.sc (.pointer none)))=[.pv (.sc (.pointer none))]:=rfl
theorem S0 :BE (.pv (.sc .nilFunc))=true:=rfl
theorem S1 :cellsOf (.pv (.sc .nilFunc))=[.pv (.sc .nilFunc)]:=rfl
theorem S2 :BE (.pv (.sc .nilIface))=true:=rfl
theorem S3 :cellsOf (.pv (.sc .nilIface))=[.pv (.sc .nilIface)]:=rfl
theorem uG {cs:List AV}:cellsOf (.agg cs)=cs:=rfl
theorem uH {r:List (List PV)}:rowsOf (.pv (.list r))=some r:=rfl
theorem rG {r:List (List PV)} (s:AL):A9 s (.pv (.list r))=some r.length:=rfl
theorem uI {r:List (List PV)}:rowsOf (.AA r)=some r:=rfl
theorem uK {r:List (List PV)} (s:AL):A9 s (.AA r)=some r.length:=rfl
theorem uJ {t:Nat} {r:List (List PV)}:rowsOf (.own t r)=some r:=rfl
theorem uL {t:Nat} {r:List (List PV)} (s:AL):A9 s (.own t r)=some r.length:=rfl
theorem uM {p:PV}:Ls (.pv p)=some p:=rfl
theorem uN {r:List (List PV)}:Ls (.AA r)=some (.list r):=rfl
theorem uO {t:Nat} {r:List (List PV)}:Ls (.own t r)=some (.list r):=rfl
theorem Fz {bs:List (List AV)} {n m:Nat} {p:PV}:close bs n m (.pv p)=some (.pv p):=by rfl
theorem uP {bs:List (List AV)} {n m:Nat} {r:List (List PV)}:close bs n m (.AA r)=some (.AA r):=by rfl
theorem rH {bs:List (List AV)} {n t:Nat} {r:List (List PV)}:close bs n 0 (.own t r)=some (.pv (.list r)):=by rfl
theorem uQ {bs:List (List AV)} {n m:Nat} {f:Fn}:close bs n m (.func f [] [])=some (.func f [] []):=by rfl
theorem uR {bs:List (List AV)} {n m:Nat} {cs:List AV}:close bs n m (.agg cs)=(AX bs n m cs).map .agg:=by grind[close]
theorem uS {bs:List (List AV)} {n m:Nat} {cs:List AV}:close bs n m (.tuple cs)=(AX bs n m cs).map .tuple:=by grind[close]
theorem uT {bs:List (List AV)} {n m:Nat}:AX bs n m []=some []:=by rfl
theorem uU {bs:List (List AV)} {n m:Nat} {c:AV} {cs:List AV}:AX bs n m (c::cs)=(close bs n m c).bind λc=>(AX bs n m cs).map (c::·):=by
 rw[AX];cases close bs n m c <;> cases AX bs n m cs <;> rfl
theorem uV {p:PV}:Jm (.pv p)=true:=by rfl
theorem uW {r:List (List PV)}:Jm (.AA r)=true:=by rfl
theorem uX {t:Nat} {r:List (List PV)}:Jm (.own t r)=true:=by rfl
theorem uY:II []=true:=by rfl
theorem uZ {c:AV} {cs:List AV}:II (c::cs)=(Jm c&&II cs):=by rfl
theorem R4 {α:Type} (l m:List α) (k:Nat):(l++m)[l.length+k]?=m[k]?:=by grind
theorem R5 {α:Type} (l m:List α) (k:Nat) (v:α):(l++m).set (l.length+k) v=l++m.set k v:=by simp
theorem S5 {α:Type} (l m:List α):(l++m)[l.length]?=m[0]?:=R4 l m 0
theorem S6 {α:Type} (l m:List α) (v:α):(l++m).set l.length v=l++m.set 0 v:=R5 l m 0 v
def BM (s:AL):Prop:=∀b∈s.bs,Ah s.bs.length b=true
def BJ (a:AV) (rows:List (List PV)):Prop:=Ao a rows\/∃t,a=.own t rows
theorem BJ.ok {a:AV} {rows:List (List PV)} (h:BJ a rows):BE a=true:=by
 rcases h with h|⟨t,rfl⟩
 .exact h.ok
 rfl
theorem BJ.Jm {a:AV} {rows:List (List PV)} (h:BJ a rows):Jm a=true:=by
 rcases h with h|⟨t,rfl⟩
 .exact h.Jm
 rfl
theorem BJ.Ls {a:AV} {rows:List (List PV)} (h:BJ a rows):Ls a=some (.list rows):=by
 rcases h with h|⟨t,rfl⟩
 .exact h.Ls
 rfl
theorem BJ.Ar {a:AV} {rows:List (List PV)} (h:BJ a rows) (n:Nat):Ar n a=true:=by
 rcases h with h|⟨t,rfl⟩
 .exact h.Ar n
 rfl
theorem BJ.A9 {a:AV} {rows:List (List PV)} (h:BJ a rows) (s:AL):A9 s a=some rows.length:=by
 rcases h with h|⟨t,rfl⟩
 .exact h.A9 s
 rfl
theorem BJ.rowsOf {a:AV} {rows:List (List PV)} (h:BJ a rows):rowsOf a=some rows:=by
 rcases h with h|⟨t,rfl⟩
 .exact h.rowsOf
 rfl
theorem BJ.cells {a:AV} {rows:List (List PV)} (h:BJ a rows):cellsOf a=[a]:=by
 rcases h with h|⟨t,rfl⟩
 .exact h.cells
 rfl
theorem BJ.closed {a:AV} {rows:List (List PV)} (h:BJ a rows) (bs:List (List AV)) (n:Nat):∃a',close bs n 0 a=some a'/\Ao a' rows:=by
 rcases h with h|⟨t,rfl⟩
 .exact⟨a,h.close _ _ _,h⟩
 .exact⟨_,rH,.list _⟩
theorem BJ.close {a:AV} {rows:List (List PV)} (h:BJ a rows) (bs:List (List AV)) (n m:Nat):∃a',close bs n m a=some a'/\BJ a' rows:=by
 rcases h with h|⟨t,rfl⟩
 .exact⟨a,h.close _ _ _,.inl h⟩
 .by_cases ht:t<m
  .exact⟨.own t rows,by grind[Tel.close],.inr ⟨t,rfl⟩⟩
  .exact⟨.pv (.list rows),by grind[Tel.close],.inl (.list _)⟩
theorem AE7 {rr:Bool} {n:Nat} {Post:AV->AL->Prop} {p:PV} {s:AL} (hok:((s.bs.take n).all (Ah n))=true) (h:Post (.pv p) ⟨s.bs.take n,s.ts⟩):QM rr n Post (.pv p) s:=
 ⟨_,_,by grind[HR,HX,Tel.close],h⟩
theorem Yi {rr:Bool} {n:Nat} {Post:AV->AL->Prop} {cs ds:List AV} {s:AL} (hok:((s.bs.take n).all (Ah n))=true) (hc:AX s.bs n s.ts.length cs=some ds) (h:Post (.agg ds) ⟨s.bs.take n,s.ts⟩):QM rr n Post (.agg cs) s:=
 ⟨_,_,by grind[HR,HX,Tel.close],h⟩
theorem JU {rr:Bool} {n:Nat} {Post:AV->AL->Prop} {cs ds:List AV} {s:AL} (hok:((s.bs.take n).all (Ah n))=true) (hc:AX s.bs n s.ts.length cs=some ds) (h:Post (.tuple ds) ⟨s.bs.take n,s.ts⟩):QM rr n Post (.tuple cs) s:=
 ⟨_,_,by grind[HR,HX,Tel.close],h⟩
def AW (l:List Int):List (List PV):=l.map λn=>[.sc (.int .i64 n)]
theorem BW (l:List Int):(AW l).length=l.length:=by simp[AW]
structure Src where
 ints:List Int
 cell:AV
 rows:BJ cell (AW ints)
def Src.length (l:Src):Nat:=l.ints.length
def Src.of (l:List Int):Src:=⟨l,.pv (.list (AW l)),.inl (.list _)⟩
theorem Src.pZ (l:List Int):(Src.of l).length=l.length:=rfl
theorem Src.AD5 (l:Src) (s:AL):A9 s l.cell=some l.length:=by rw[l.rows.A9,BW]; rfl
theorem Src.eC (l:Src):BE l.cell=true:=l.rows.ok
theorem Src.AZT (l:Src) (n:Nat):Ar n l.cell=true:=l.rows.Ar n
theorem BR {s:AL} {k:Nat} {x:AV} {rows:List (List PV)} {i:Int} {row:List PV} {K:AV->Prop} (hx:BJ x rows) (h0:0<=i) (hr:rows[i.toNat]?=some row) (hl:row.length=k) (hk:k≠0) (h:K (.Cn row 0)):Bj s k x (AB i) K:=by
 rcases hx with hx|⟨t,rfl⟩
 .grind[BK]
 .exact⟨h0,row,hr,hl,hk,h⟩
def KL (l:Src) (k:Nat):List AV:=[l.cell,AB k]
structure Qj (bs:List (List AV)) (id:Nat) (l:Src):Prop where
 lt:id<bs.length
 ok:∀b∈bs,Ah bs.length b=true
 len:l.length<2 ^ 61
def ST (bs:List (List AV)) (id:Nat) (l:Src) (k:Nat):List (List AV):=bs.set id (KL l k)
theorem KJ {bs:List (List AV)} {id:Nat} {l:Src} {k:Nat}:(ST bs id l k).length=bs.length:=by simp[ST]
theorem JY {bs:List (List AV)} {id:Nat} {l:Src} {k:Nat} (h:id<bs.length) (m:List (List AV)):(ST bs id l k++m)[id]?=some (KL l k):=by grind[ST]
theorem yW {bs:List (List AV)} {id:Nat} {l:Src} {k k':Nat} (h:id<bs.length) (m:List (List AV)):(ST bs id l k++m).set id (KL l k')=ST bs id l k'++m:=by simp[*,ST]
mutual
theorem Ut {n m:Nat} (h:n<=m):∀(v:AV),Ar n v=true->Ar m v=true
 | .ptr id _,hv=>by simp[Ar] at hv ⊢; omega
 | .ref id _ _ _,hv=>by simp[Ar] at hv ⊢; omega
 | .FL id,hv=>by simp[Ar] at hv ⊢; omega
 | .bz id _ _,hv=>by simp[Ar] at hv ⊢; omega
 | .func _ a b,hv=>by
  simp[Ar] at hv ⊢;exact⟨Bn h a hv.1,Bn h b hv.2⟩
 | .iface _ v,hv=>by
  simp[Ar] at hv ⊢;exact Ut h v hv
 | .agg cs,hv=>by
  simp[Ar] at hv ⊢;exact Bn h cs hv
 | .tuple cs,hv=>by
  simp[Ar] at hv ⊢;exact Bn h cs hv
 | .pv _,_=>by rfl
 | .DX _ _,_=>by rfl
 | .Cn _ _,_=>by rfl
 | .AA _,_=>by rfl
 | .own _ _,_=>by rfl
 | .G2,_=>by rfl
 | .K7 _ _,_=>by rfl
theorem Bn {n m:Nat} (h:n<=m):∀(l:List AV),Ah n l=true->Ah m l=true
 | [],_=>by rfl
 | c::cs,hv=>by
  simp[Ah] at hv ⊢;exact⟨Ut h c hv.1,Bn h cs hv.2⟩
end
theorem ZJ (l:Src) (k n:Nat):Ah n (KL l k)=true:=by simp[KL,Ah,Ar,l.AZT]
def KI (bs m:List (List AV)):Prop:=∀b∈m,Ah (bs.length+m.length) b=true
theorem Qj.all {bs:List (List AV)} {id:Nat} {l:Src} (h:Qj bs id l) {m:List (List AV)} (hm:KI bs m) (k:Nat):((ST bs id l k++m).all (Ah (bs.length+m.length)))=true:=by
 rw[C2];intro b hb;rcases B9.1 hb with h1|h1
 .rcases jY h1 with h2|h2
  .exact Bn (by omega) b (h.ok b h2)
  grind[ZJ]
 .exact hm b h1
def Dr (lo:Nat) (ts:List (Nat×TypeId)) (k:TypeId) (a:AV) (rows:List (List PV)):Prop:=a=.AA rows\/∃t,a=.own t rows/\ts[t]?=some (rows.length,k)/\lo<=t
theorem Dr.A1 {lo:Nat} {ts:List (Nat×Nat)} {k:Nat} {a:AV} {rows:List (List PV)} (h:Dr lo ts k a rows):BJ a rows:=by
 rcases h with rfl|⟨t,rfl,_⟩
 .exact .inl (.AA _)
 .exact .inr ⟨t,rfl⟩
theorem Dr.grow {lo:Nat} {ts x:List (Nat×Nat)} {k:Nat} {a:AV} {rows:List (List PV)} (h:Dr lo ts k a rows):Dr lo (ts++x) k a rows:=by
 rcases h with rfl|⟨t,rfl,h1,h2⟩
 .exact .inl rfl
 .refine .inr ⟨t,rfl,?_,h2⟩
  grind
theorem Kr:∀row:List PV,Co (row.map .pv)=some row
 | []=>rfl
 | p::row=>by simp[Co,Ls,Kr row]
theorem O8 {L:A3} {bs:List (List AV)} {ts x:List (Nat×TypeId)} {e:TypeId} {k bytes:Nat} {a:AV} {rows:List (List PV)} {row:List PV} {K:AV->AL->Prop} (ha:Dr ts.length (ts++x) e a rows) (Eb:L.rt<=ts.length) (hrows:∀r∈rows,r.length=k) (hrow:row.length=k) (hk:0<k)
  (hok:(row.map AV.pv).all BE=true) (hb:(rows.length+1)*bytes<=2 ^ 45) (Ll:rows.length+1<=2 ^ 45) (h:∀a' x',Dr ts.length (ts++x') e a' (rows++[row])->K a' ⟨bs,ts++x'⟩) :
  Cx false L ⟨bs,ts++x⟩ e k bytes a (.AA [row]) K:=by
 have hsrc:C0 ⟨bs,ts++x⟩ k (.AA [row])=some (row.map .pv):=by grind[C0,rowsOf]
 have hall:(rows.all λr=>r.length==k)=true:=by grind
 have hdiv:row.length / k=1:=by simp[*]
 have hby:CR k 1 row=[row]:=by grind[CR]
 unfold Cx;rw[hsrc]
 obtain⟨c,cs,hc⟩:∃c cs,row=c::cs:=by
  cases row with
  | nil=>grind
  | cons c cs=>simp
 have hmap:row.map AV.pv=.pv c::cs.map .pv:=by grind
 have hl:(AV.pv c::cs.map .pv).length / k=1:=by grind
 have htp:Co (AV.pv c::cs.map .pv)=some row:=by grind[Kr]
 rw[hmap] at hok;simp only[wO,hmap,hok,hl,htp,hby];refine⟨Ab,?_⟩;rcases ha with rfl|⟨t,rfl,h1,h2⟩
 .refine⟨⟨hb,Ll,hall⟩,?_⟩
  have:=h (.own (ts++x).length (rows++[row])) (x++[(rows.length+1,e)]) (.inr ⟨_,rfl,by simp,by simp⟩)
  grind
 .refine⟨⟨hb,Ll,h1,by omega,hall⟩,?_⟩
  have hlt:t<(ts++x).length:=(BL.1 h1).1;have es:(ts++x).set t (rows.length+1,e)=ts++x.set (t-ts.length) (rows.length+1,e):=Xc _ _ h2;have:=h (.own t (rows++[row])) (x.set (t-ts.length) (rows.length+1,e)) (.inr ⟨_,rfl,by grind,h2⟩)
  grind
theorem jU (n:Int):Za n n=true:=by cases n <;> simp[Za]
theorem ZP (l:List UInt8):Ek l l=true:=by grind[L5]
theorem GF (k:IntKind) (n:Int):eqV (.int k n) (.int k n)=true:=by simp[eqV,jU]
theorem Ir (b:ByteArray):eqV (.string b) (.string b)=true:=by simp[eqV,ZP]
end Go.Tel
