/-
  Helpers for proofs about unknown arguments.
-/
import Derived.Test.YtpgfpakdnijngaaGreatDoorWvC
set_option linter.all false
namespace Go.Tel
theorem wrap64 {n:Int} (h1:-9223372036854775808<=n) (h2:n<9223372036854775808):IntKind.wrap .i64 n=n:=by grind[IntKind.wrap,IntKind.signed,IntKind.bits]
theorem B9 {n:Int} {K:AV->Prop} (h1:-9223372036854775808<=n) (h2:n<9223372036854775808) (h:K (AA n)):fV .i64 n K:=by grind[fV,wrap64]
def Av (a:AV) (rows:List (List PV)):Prop:=a=.pv (.list rows)\/a=.AB rows
theorem Av.list (rows:List (List PV)):Av (.pv (.list rows)) rows:=.inl rfl
theorem Av.AB (rows:List (List PV)):Av (.AB rows) rows:=.inr rfl
theorem Av.rowsOf {a:AV} {rows:List (List PV)} (h:Av a rows):rowsOf a=some rows:=by rcases h with rfl|rfl <;> rfl
theorem Av.ok {a:AV} {rows:List (List PV)} (h:Av a rows):A1 a=true:=by rcases h with rfl|rfl <;> rfl
theorem Av.I7 {a:AV} {rows:List (List PV)} (h:Av a rows):I7 a=true:=by rcases h with rfl|rfl <;> rfl
theorem Av.Ep {a:AV} {rows:List (List PV)} (h:Av a rows):Ep a=true:=by rcases h with rfl|rfl <;> rfl
theorem Av.Ja {a:AV} {rows:List (List PV)} (h:Av a rows):Ja a=some (.list rows):=by rcases h with rfl|rfl <;> rfl
theorem Av.close {a:AV} {rows:List (List PV)} (h:Av a rows) (bs:List (List AV)) (n m:Nat):close bs n m a=some a:=by rcases h with rfl|rfl <;> rfl
theorem Av.cells {a:AV} {rows:List (List PV)} (h:Av a rows):cellsOf a=[a]:=by rcases h with rfl|rfl <;> rfl
theorem Av.BN {a:AV} {rows:List (List PV)} (h:Av a rows) (s:AM):BN s a=some rows.length:=by rcases h with rfl|rfl <;> rfl
theorem Av.Ai {a:AV} {rows:List (List PV)} (h:Av a rows) (n:Nat):Ai n a=true:=by rcases h with rfl|rfl <;> rfl
theorem BO {s:AM} {k:Nat} {x:AV} {rows:List (List PV)} {i:Int} {row:List PV} {K:AV->Prop} (hx:Av x rows) (h0:0<=i) (hr:rows[i.toNat]?=some row) (hl:row.length=k) (hk:k≠0) (h:K (.C8 row 0)):Cl s k x (AA i) K:=by
 rcases hx with rfl|rfl
 .exact⟨h0,row,hr,hl,hk,h⟩
 .exact⟨h0,row,hr,hl,hk,h⟩
theorem qY {k:IntKind} {n:Int}:A1 (.pv (.sc (.int k n)))=true:=rfl
theorem oO {k:IntKind} {n:Int}:cellsOf (.pv (.sc (.int k n)))=[.pv (.sc (.int k n))]:=rfl
theorem okB {b:Bool}:A1 (.pv (.sc (.bool b)))=true:=rfl
theorem qZ {b:Bool}:cellsOf (.pv (.sc (.bool b)))=[.pv (.sc (.bool b))]:=rfl
theorem qa {b:ByteArray}:A1 (.pv (.sc (.string b)))=true:=rfl
theorem qb {b:ByteArray}:cellsOf (.pv (.sc (.string b)))=[.pv (.sc (.string b))]:=rfl
theorem qc {r:List (List PV)}:A1 (.pv (.list r))=true:=rfl
theorem qd {r:List (List PV)}:cellsOf (.pv (.list r))=[.pv (.list r)]:=rfl
theorem fK {r:List (List PV)}:A1 (.AB r)=true:=rfl
theorem qe {r:List (List PV)}:cellsOf (.AB r)=[.AB r]:=rfl
theorem qf {t:Nat} {r:List (List PV)}:A1 (.own t r)=true:=rfl
theorem qg {t:Nat} {r:List (List PV)}:cellsOf (.own t r)=[.own t r]:=rfl
theorem qh {i o:Nat}:A1 (.ptr i o)=true:=rfl
theorem qi {i o:Nat}:cellsOf (.ptr i o)=[.ptr i o]:=rfl
theorem qj {i o:Nat}:A1 (.DM i o)=true:=rfl
theorem qm {i o:Nat}:cellsOf (.DM i o)=[.DM i o]:=rfl
theorem qo {r:List PV} {o:Nat}:A1 (.C8 r o)=true:=rfl
theorem qp {r:List PV} {o:Nat}:cellsOf (.C8 r o)=[.C8 r o]:=rfl
theorem qt {i o l z:Nat}:A1 (.ref i o l z)=true:=rfl
theorem qu {i o l z:Nat}:cellsOf (.ref i o l z)=[.ref i o l z]:=rfl
theorem okF {f:Fn} {a b:List AV}:A1 (.func f a b)=true:=rfl
theorem qv {f:Fn} {a b:List AV}:cellsOf (.func f a b)=[.func f a b]:=rfl
theorem qw {t:TypeId} {v:AV}:A1 (.iface t v)=true:=rfl
theorem qx {t:TypeId} {v:AV}:cellsOf (.iface t v)=[.iface t v]:=rfl
theorem qy {i:Nat}:A1 (.G9 i)=true:=rfl
theorem rC {i:Nat}:cellsOf (.G9 i)=[.G9 i]:=rfl
theorem U2 :A1 (.pv (.sc (.pointer none)))=true:=rfl
theorem rD :cellsOf (.pv (.sc (.pointer none)))=[.pv (.sc (.pointer none))]:=rfl
theorem RJ :A1 (.pv (.sc .nilFunc))=true:=rfl
theorem RK :cellsOf (.pv (.sc .nilFunc))=[.pv (.sc .nilFunc)]:=rfl
theorem RL :A1 (.pv (.sc .nilIface))=true:=rfl
theorem RM :cellsOf (.pv (.sc .nilIface))=[.pv (.sc .nilIface)]:=rfl
theorem rE {cs:List AV}:cellsOf (.agg cs)=cs:=rfl
theorem rF {r:List (List PV)}:rowsOf (.pv (.list r))=some r:=rfl
theorem rI {r:List (List PV)} (s:AM):BN s (.pv (.list r))=some r.length:=rfl
theorem rG {r:List (List PV)}:rowsOf (.AB r)=some r:=rfl
theorem rJ {r:List (List PV)} (s:AM):BN s (.AB r)=some r.length:=rfl
theorem rH {t:Nat} {r:List (List PV)}:rowsOf (.own t r)=some r:=rfl
theorem rK {t:Nat} {r:List (List PV)} (s:AM):BN s (.own t r)=some r.length:=rfl
theorem rL {p:PV}:Ja (.pv p)=some p:=rfl
theorem rM {r:List (List PV)}:Ja (.AB r)=some (.list r):=rfl
theorem rN {t:Nat} {r:List (List PV)}:Ja (.own t r)=some (.list r):=rfl
theorem Gu {bs:List (List AV)} {n m:Nat} {p:PV}:close bs n m (.pv p)=some (.pv p):=by rfl
theorem rO {bs:List (List AV)} {n m:Nat} {r:List (List PV)}:close bs n m (.AB r)=some (.AB r):=by rfl
theorem oP {bs:List (List AV)} {n t:Nat} {r:List (List PV)}:close bs n 0 (.own t r)=some (.pv (.list r)):=by rfl
theorem rP {bs:List (List AV)} {n m:Nat} {f:Fn}:close bs n m (.func f [] [])=some (.func f [] []):=by rfl
theorem rQ {bs:List (List AV)} {n m:Nat} {cs:List AV}:close bs n m (.agg cs)=(AU bs n m cs).map .agg:=by grind[close]
theorem rR {bs:List (List AV)} {n m:Nat} {cs:List AV}:close bs n m (.tuple cs)=(AU bs n m cs).map .tuple:=by grind[close]
theorem rS {bs:List (List AV)} {n m:Nat}:AU bs n m []=some []:=by rfl
theorem rT {bs:List (List AV)} {n m:Nat} {c:AV} {cs:List AV}:AU bs n m (c::cs)=(close bs n m c).bind λc=>(AU bs n m cs).map (c::·):=by
 rw[AU];cases close bs n m c <;> cases AU bs n m cs <;> rfl
theorem rU {p:PV}:I7 (.pv p)=true:=by rfl
theorem rV {r:List (List PV)}:I7 (.AB r)=true:=by rfl
theorem rW {t:Nat} {r:List (List PV)}:I7 (.own t r)=true:=by rfl
theorem rX:IM []=true:=by rfl
theorem rY {c:AV} {cs:List AV}:IM (c::cs)=(I7 c&&IM cs):=by rfl
theorem Rw {α:Type} (l m:List α) (k:Nat):(l++m)[l.length+k]?=m[k]?:=by grind
theorem Rx {α:Type} (l m:List α) (k:Nat) (v:α):(l++m).set (l.length+k) v=l++m.set k v:=by simp
theorem Sx {α:Type} (l m:List α):(l++m)[l.length]?=m[0]?:=Rw l m 0
theorem Sy {α:Type} (l m:List α) (v:α):(l++m).set l.length v=l++m.set 0 v:=Rx l m 0 v
def Bj (s:AM):Prop:=∀b∈s.bs,Ab s.bs.length b=true
def BG (a:AV) (rows:List (List PV)):Prop:=Av a rows\/∃t,a=.own t rows
theorem BG.ok {a:AV} {rows:List (List PV)} (h:BG a rows):A1 a=true:=by
 rcases h with h|⟨t,rfl⟩
 .exact h.ok
 rfl
theorem BG.I7 {a:AV} {rows:List (List PV)} (h:BG a rows):I7 a=true:=by
 rcases h with h|⟨t,rfl⟩
 .exact h.I7
 rfl
theorem BG.Ja {a:AV} {rows:List (List PV)} (h:BG a rows):Ja a=some (.list rows):=by
 rcases h with h|⟨t,rfl⟩
 .exact h.Ja
 rfl
theorem BG.Ai {a:AV} {rows:List (List PV)} (h:BG a rows) (n:Nat):Ai n a=true:=by
 rcases h with h|⟨t,rfl⟩
 .exact h.Ai n
 rfl
theorem BG.BN {a:AV} {rows:List (List PV)} (h:BG a rows) (s:AM):BN s a=some rows.length:=by
 rcases h with h|⟨t,rfl⟩
 .exact h.BN s
 rfl
theorem BG.rowsOf {a:AV} {rows:List (List PV)} (h:BG a rows):rowsOf a=some rows:=by
 rcases h with h|⟨t,rfl⟩
 .exact h.rowsOf
 rfl
theorem BG.cells {a:AV} {rows:List (List PV)} (h:BG a rows):cellsOf a=[a]:=by
 rcases h with h|⟨t,rfl⟩
 .exact h.cells
 rfl
theorem BG.closed {a:AV} {rows:List (List PV)} (h:BG a rows) (bs:List (List AV)) (n:Nat):∃a',close bs n 0 a=some a'/\Av a' rows:=by
 rcases h with h|⟨t,rfl⟩
 .exact⟨a,h.close _ _ _,h⟩
 .exact⟨_,oP,.list _⟩
theorem BG.close {a:AV} {rows:List (List PV)} (h:BG a rows) (bs:List (List AV)) (n m:Nat):∃a',close bs n m a=some a'/\BG a' rows:=by
 rcases h with h|⟨t,rfl⟩
 .exact⟨a,h.close _ _ _,.inl h⟩
 .by_cases ht:t<m
  .exact⟨.own t rows,by grind[Tel.close],.inr ⟨t,rfl⟩⟩
  .exact⟨.pv (.list rows),by grind[Tel.close],.inl (.list _)⟩
theorem AD5 {rr:Bool} {n:Nat} {Post:AV->AM->Prop} {p:PV} {s:AM} (hok:((s.bs.take n).all (Ab n))=true) (h:Post (.pv p) ⟨s.bs.take n,s.ts⟩):QM rr n Post (.pv p) s:=
 ⟨_,_,by grind[M8,SK,Tel.close],h⟩
theorem gT {rr:Bool} {n:Nat} {Post:AV->AM->Prop} {cs ds:List AV} {s:AM} (hok:((s.bs.take n).all (Ab n))=true) (hc:AU s.bs n s.ts.length cs=some ds) (h:Post (.agg ds) ⟨s.bs.take n,s.ts⟩):QM rr n Post (.agg cs) s:=
 ⟨_,_,by grind[M8,SK,Tel.close],h⟩
theorem JU {rr:Bool} {n:Nat} {Post:AV->AM->Prop} {cs ds:List AV} {s:AM} (hok:((s.bs.take n).all (Ab n))=true) (hc:AU s.bs n s.ts.length cs=some ds) (h:Post (.tuple ds) ⟨s.bs.take n,s.ts⟩):QM rr n Post (.tuple cs) s:=
 ⟨_,_,by grind[M8,SK,Tel.close],h⟩
def AY (l:List Int):List (List PV):=l.map λn=>[.sc (.int .i64 n)]
theorem CS (l:List Int):(AY l).length=l.length:=by simp[AY]
structure Src where
 ints:List Int
 cell:AV
 rows:BG cell (AY ints)
def Src.length (l:Src):Nat:=l.ints.length
def Src.of (l:List Int):Src:=⟨l,.pv (.list (AY l)),.inl (.list _)⟩
theorem Src.Wy (l:List Int):(Src.of l).length=l.length:=rfl
theorem Src.APr (l:Src) (s:AM):BN s l.cell=some l.length:=by rw[l.rows.BN,CS]; rfl
theorem Src.fK (l:Src):A1 l.cell=true:=l.rows.ok
theorem Src.AYA (l:Src) (n:Nat):Ai n l.cell=true:=l.rows.Ai n
theorem CH {s:AM} {k:Nat} {x:AV} {rows:List (List PV)} {i:Int} {row:List PV} {K:AV->Prop} (hx:BG x rows) (h0:0<=i) (hr:rows[i.toNat]?=some row) (hl:row.length=k) (hk:k≠0) (h:K (.C8 row 0)):Cl s k x (AA i) K:=by
 rcases hx with hx|⟨t,rfl⟩
 .grind[BO]
 .exact⟨h0,row,hr,hl,hk,h⟩
def RX (l:Src) (k:Nat):List AV:=[l.cell,AA k]
structure Nx (bs:List (List AV)) (id:Nat) (l:Src):Prop where
 lt:id<bs.length
 ok:∀b∈bs,Ab bs.length b=true
 len:l.length<2 ^ 61
def ST (bs:List (List AV)) (id:Nat) (l:Src) (k:Nat):List (List AV):=bs.set id (RX l k)
theorem Fp {bs:List (List AV)} {id:Nat} {l:Src} {k:Nat}:(ST bs id l k).length=bs.length:=by simp[ST]
theorem QU {bs:List (List AV)} {id:Nat} {l:Src} {k:Nat} (h:id<bs.length) (m:List (List AV)):(ST bs id l k++m)[id]?=some (RX l k):=by grind[ST]
theorem AKX {bs:List (List AV)} {id:Nat} {l:Src} {k k':Nat} (h:id<bs.length) (m:List (List AV)):(ST bs id l k++m).set id (RX l k')=ST bs id l k'++m:=by simp[*,ST]
mutual
theorem Uf {n m:Nat} (h:n<=m):∀(v:AV),Ai n v=true->Ai m v=true
 | .ptr id _,hv=>by simp[Ai] at hv ⊢; omega
 | .ref id _ _ _,hv=>by simp[Ai] at hv ⊢; omega
 | .G9 id,hv=>by simp[Ai] at hv ⊢; omega
 | .bz id _ _,hv=>by simp[Ai] at hv ⊢; omega
 | .func _ a b,hv=>by
  simp[Ai] at hv ⊢;exact⟨Bt h a hv.1,Bt h b hv.2⟩
 | .iface _ v,hv=>by
  simp[Ai] at hv ⊢;exact Uf h v hv
 | .agg cs,hv=>by
  simp[Ai] at hv ⊢;exact Bt h cs hv
 | .tuple cs,hv=>by
  simp[Ai] at hv ⊢;exact Bt h cs hv
 | .pv _,_=>by rfl
 | .DM _ _,_=>by rfl
 | .C8 _ _,_=>by rfl
 | .AB _,_=>by rfl
 | .own _ _,_=>by rfl
 | .Gz,_=>by rfl
 | .OI _ _,_=>by rfl
theorem Bt {n m:Nat} (h:n<=m):∀(l:List AV),Ab n l=true->Ab m l=true
 | [],_=>by rfl
 | c::cs,hv=>by
  simp[Ab] at hv ⊢;exact⟨Uf h c hv.1,Bt h cs hv.2⟩
end
theorem ZO (l:Src) (k n:Nat):Ab n (RX l k)=true:=by simp[RX,Ab,Ai,l.AYA]
def Kk (bs m:List (List AV)):Prop:=∀b∈m,Ab (bs.length+m.length) b=true
theorem Nx.all {bs:List (List AV)} {id:Nat} {l:Src} (h:Nx bs id l) {m:List (List AV)} (hm:Kk bs m) (k:Nat):((ST bs id l k++m).all (Ab (bs.length+m.length)))=true:=by
 rw[De];intro b hb;rcases CM.1 hb with h1|h1
 .rcases jS h1 with h2|h2
  .exact Bt (by omega) b (h.ok b h2)
  grind[ZO]
 .exact hm b h1
def EM (lo:Nat) (ts:List (Nat×TypeId)) (k:TypeId) (a:AV) (rows:List (List PV)):Prop:=a=.AB rows\/∃t,a=.own t rows/\ts[t]?=some (rows.length,k)/\lo<=t
theorem EM.A9 {lo:Nat} {ts:List (Nat×Nat)} {k:Nat} {a:AV} {rows:List (List PV)} (h:EM lo ts k a rows):BG a rows:=by
 rcases h with rfl|⟨t,rfl,_⟩
 .exact .inl (.AB _)
 .exact .inr ⟨t,rfl⟩
theorem EM.grow {lo:Nat} {ts x:List (Nat×Nat)} {k:Nat} {a:AV} {rows:List (List PV)} (h:EM lo ts k a rows):EM lo (ts++x) k a rows:=by
 rcases h with rfl|⟨t,rfl,h1,h2⟩
 .exact .inl rfl
 .refine .inr ⟨t,rfl,?_,h2⟩
  grind
theorem Kh:∀row:List PV,Cm (row.map .pv)=some row
 | []=>rfl
 | p::row=>by simp[Cm,Ja,Kh row]
theorem MG {L:A3} {bs:List (List AV)} {ts x:List (Nat×TypeId)} {e:TypeId} {k bytes:Nat} {a:AV} {rows:List (List PV)} {row:List PV} {K:AV->AM->Prop} (ha:EM ts.length (ts++x) e a rows) (GZ:L.rt<=ts.length) (hrows:∀r∈rows,r.length=k) (hrow:row.length=k) (hk:0<k)
  (hok:(row.map AV.pv).all A1=true) (hb:(rows.length+1)*bytes<=2 ^ 45) (M9:rows.length+1<=2 ^ 45) (h:∀a' x',EM ts.length (ts++x') e a' (rows++[row])->K a' ⟨bs,ts++x'⟩) :
  EL false L ⟨bs,ts++x⟩ e k bytes a (.AB [row]) K:=by
 have hsrc:DN ⟨bs,ts++x⟩ k (.AB [row])=some (row.map .pv):=by grind[DN,rowsOf]
 have hall:(rows.all λr=>r.length==k)=true:=by grind
 have hdiv:row.length / k=1:=by simp[*]
 have hby:CD k 1 row=[row]:=by grind[CD]
 unfold EL;rw[hsrc]
 obtain⟨c,cs,hc⟩:∃c cs,row=c::cs:=by
  cases row with
  | nil=>grind
  | cons c cs=>simp
 have hmap:row.map AV.pv=.pv c::cs.map .pv:=by grind
 have hl:(AV.pv c::cs.map .pv).length / k=1:=by grind
 have htp:Cm (AV.pv c::cs.map .pv)=some row:=by grind[Kh]
 rw[hmap] at hok;simp only[wO,hmap,hok,hl,htp,hby];refine⟨AZ,?_⟩;rcases ha with rfl|⟨t,rfl,h1,h2⟩
 .refine⟨⟨hb,M9,hall⟩,?_⟩
  have:=h (.own (ts++x).length (rows++[row])) (x++[(rows.length+1,e)]) (.inr ⟨_,rfl,by simp,by simp⟩)
  grind
 .refine⟨⟨hb,M9,h1,by omega,hall⟩,?_⟩
  have hlt:t<(ts++x).length:=(BL.1 h1).1;have es:(ts++x).set t (rows.length+1,e)=ts++x.set (t-ts.length) (rows.length+1,e):=XU _ _ h2;have:=h (.own t (rows++[row])) (x.set (t-ts.length) (rows.length+1,e)) (.inr ⟨_,rfl,by grind,h2⟩)
  grind
theorem jO (n:Int):Zc n n=true:=by cases n <;> simp[Zc]
theorem ZV (l:List UInt8):FN l l=true:=by grind[Qp]
theorem F5 (k:IntKind) (n:Int):eqV (.int k n) (.int k n)=true:=by simp[eqV,jO]
theorem Ht (b:ByteArray):eqV (.string b) (.string b)=true:=by simp[eqV,ZV]
end Go.Tel
