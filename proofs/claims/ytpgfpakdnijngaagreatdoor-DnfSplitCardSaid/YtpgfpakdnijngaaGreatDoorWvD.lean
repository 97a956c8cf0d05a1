/-
  Helpers for proofs about unknown arguments.
-/
import Derived.Test.YtpgfpakdnijngaaGreatDoorWvC
set_option linter.all false
namespace Go.Tel
theorem wrap64 {n:Int} (h1:-9223372036854775808<=n) (h2:n<9223372036854775808):IntKind.wrap .i64 n=n:=by grind[IntKind.wrap,IntKind.signed,IntKind.bits]
theorem CS {n:Int} {K:AV->Prop} (h1:-9223372036854775808<=n) (h2:n<9223372036854775808) (h:K (AG n)):gu .i64 n K:=by grind[gu,wrap64]
def A2 (a:AV) (rows:List (List PV)):Prop:=a=.pv (.list rows)\/a=.AE rows
theorem A2.list (rows:List (List PV)):A2 (.pv (.list rows)) rows:=.inl rfl
theorem A2.AE (rows:List (List PV)):A2 (.AE rows) rows:=.inr rfl
theorem A2.rowsOf {a:AV} {rows:List (List PV)} (h:A2 a rows):rowsOf a=some rows:=by rcases h with rfl|rfl <;> rfl
theorem A2.ok {a:AV} {rows:List (List PV)} (h:A2 a rows):BD a=true:=by rcases h with rfl|rfl <;> rfl
theorem A2.Jf {a:AV} {rows:List (List PV)} (h:A2 a rows):Jf a=true:=by rcases h with rfl|rfl <;> rfl
theorem A2.Fx {a:AV} {rows:List (List PV)} (h:A2 a rows):Fx a=true:=by rcases h with rfl|rfl <;> rfl
theorem A2.KB {a:AV} {rows:List (List PV)} (h:A2 a rows):KB a=some (.list rows):=by rcases h with rfl|rfl <;> rfl
theorem A2.close {a:AV} {rows:List (List PV)} (h:A2 a rows) (bs:List (List AV)) (n m:Nat):close bs n m a=some a:=by rcases h with rfl|rfl <;> rfl
theorem A2.cells {a:AV} {rows:List (List PV)} (h:A2 a rows):cellsOf a=[a]:=by rcases h with rfl|rfl <;> rfl
theorem A2.BA {a:AV} {rows:List (List PV)} (h:A2 a rows) (s:AQ):BA s a=some rows.length:=by rcases h with rfl|rfl <;> rfl
theorem A2.Aw {a:AV} {rows:List (List PV)} (h:A2 a rows) (n:Nat):Aw n a=true:=by rcases h with rfl|rfl <;> rfl
theorem BM {s:AQ} {k:Nat} {x:AV} {rows:List (List PV)} {i:Int} {row:List PV} {K:AV->Prop} (hx:A2 x rows) (h0:0<=i) (hr:rows[i.toNat]?=some row) (hl:row.length=k) (hk:k≠0) (h:K (.Cw row 0)):NC s k x (AG i) K:=by
 rcases hx with rfl|rfl
 .exact⟨h0,row,hr,hl,hk,h⟩
 .exact⟨h0,row,hr,hl,hk,h⟩
theorem oY {k:IntKind} {n:Int}:BD (.pv (.sc (.int k n)))=true:=rfl
theorem kj {k:IntKind} {n:Int}:cellsOf (.pv (.sc (.int k n)))=[.pv (.sc (.int k n))]:=rfl
theorem okB {b:Bool}:BD (.pv (.sc (.bool b)))=true:=rfl
theorem oZ {b:Bool}:cellsOf (.pv (.sc (.bool b)))=[.pv (.sc (.bool b))]:=rfl
theorem oa {b:ByteArray}:BD (.pv (.sc (.string b)))=true:=rfl
theorem oc {b:ByteArray}:cellsOf (.pv (.sc (.string b)))=[.pv (.sc (.string b))]:=rfl
theorem od {r:List (List PV)}:BD (.pv (.list r))=true:=rfl
theorem og {r:List (List PV)}:cellsOf (.pv (.list r))=[.pv (.list r)]:=rfl
theorem fP {r:List (List PV)}:BD (.AE r)=true:=rfl
theorem oh {r:List (List PV)}:cellsOf (.AE r)=[.AE r]:=rfl
theorem oo {t:Nat} {r:List (List PV)}:BD (.own t r)=true:=rfl
theorem oq {t:Nat} {r:List (List PV)}:cellsOf (.own t r)=[.own t r]:=rfl
theorem ot {i o:Nat}:BD (.ptr i o)=true:=rfl
theorem ou {i o:Nat}:cellsOf (.ptr i o)=[.ptr i o]:=rfl
theorem ow {i o:Nat}:BD (.Dt i o)=true:=rfl
theorem oz {i o:Nat}:cellsOf (.Dt i o)=[.Dt i o]:=rfl
theorem o5 {r:List PV} {o:Nat}:BD (.Cw r o)=true:=rfl
theorem o6 {r:List PV} {o:Nat}:cellsOf (.Cw r o)=[.Cw r o]:=rfl
theorem o7 {i o l z:Nat}:BD (.ref i o l z)=true:=rfl
theorem o8 {i o l z:Nat}:cellsOf (.ref i o l z)=[.ref i o l z]:=rfl
theorem okF {f:Fn} {a b:List AV}:BD (.func f a b)=true:=rfl
theorem o9 {f:Fn} {a b:List AV}:cellsOf (.func f a b)=[.func f a b]:=rfl
theorem pE {t:TypeId} {v:AV}:BD (.iface t v)=true:=rfl
theorem pF {t:TypeId} {v:AV}:cellsOf (.iface t v)=[.iface t v]:=rfl
theorem pG {i:Nat}:BD (.HQ i)=true:=rfl
theorem pH {i:Nat}:cellsOf (.HQ i)=[.HQ i]:=rfl
theorem V7 :BD (.pv (.sc (.pointer none)))=true:=rfl
theorem pI :cellsOf (.pv (.sc (.pointer none)))=[.pv (.sc (.pointer none))]:=rfl
theorem Qm :BD (.pv (.sc .nilFunc))=true:=rfl
theorem Qn :cellsOf (.pv (.sc .nilFunc))=[.pv (.sc .nilFunc)]:=rfl
theorem Qo :BD (.pv (.sc .nilIface))=true:=rfl
theorem Qp :cellsOf (.pv (.sc .nilIface))=[.pv (.sc .nilIface)]:=rfl
theorem pJ {cs:List AV}:cellsOf (.agg cs)=cs:=rfl
theorem pK {r:List (List PV)}:rowsOf (.pv (.list r))=some r:=rfl
theorem pN {r:List (List PV)} (s:AQ):BA s (.pv (.list r))=some r.length:=rfl
theorem pL {r:List (List PV)}:rowsOf (.AE r)=some r:=rfl
theorem pO {r:List (List PV)} (s:AQ):BA s (.AE r)=some r.length:=rfl
theorem pM {t:Nat} {r:List (List PV)}:rowsOf (.own t r)=some r:=rfl
theorem pP {t:Nat} {r:List (List PV)} (s:AQ):BA s (.own t r)=some r.length:=rfl
theorem pQ {p:PV}:KB (.pv p)=some p:=rfl
theorem pR {r:List (List PV)}:KB (.AE r)=some (.list r):=rfl
theorem pS {t:Nat} {r:List (List PV)}:KB (.own t r)=some (.list r):=rfl
theorem Hu {bs:List (List AV)} {n m:Nat} {p:PV}:close bs n m (.pv p)=some (.pv p):=AR
theorem pT {bs:List (List AV)} {n m:Nat} {r:List (List PV)}:close bs n m (.AE r)=some (.AE r):=AR
theorem kn {bs:List (List AV)} {n t:Nat} {r:List (List PV)}:close bs n 0 (.own t r)=some (.pv (.list r)):=AR
theorem pU {bs:List (List AV)} {n m:Nat} {f:Fn}:close bs n m (.func f [] [])=some (.func f [] []):=AR
theorem pV {bs:List (List AV)} {n m:Nat} {cs:List AV}:close bs n m (.agg cs)=(BR bs n m cs).map .agg:=by grind[close]
theorem pW {bs:List (List AV)} {n m:Nat} {cs:List AV}:close bs n m (.tuple cs)=(BR bs n m cs).map .tuple:=by grind[close]
theorem pX {bs:List (List AV)} {n m:Nat}:BR bs n m []=some []:=AR
theorem pY {bs:List (List AV)} {n m:Nat} {c:AV} {cs:List AV}:BR bs n m (c::cs)=(close bs n m c).bind λc=>(BR bs n m cs).map (c::·):=by
 rw[BR];cases close bs n m c <;> cases BR bs n m cs <;> rfl
theorem pZ {p:PV}:Jf (.pv p)=true:=AR
theorem pg {r:List (List PV)}:Jf (.AE r)=true:=AR
theorem pn {t:Nat} {r:List (List PV)}:Jf (.own t r)=true:=AR
theorem pq:Iq []=true:=AR
theorem pz {c:AV} {cs:List AV}:Iq (c::cs)=(Jf c&&Iq cs):=AR
theorem S0 {α:Type} (l m:List α) (k:Nat):(l++m)[l.length+k]?=m[k]?:=AB
theorem S1 {α:Type} (l m:List α) (k:Nat) (v:α):(l++m).set (l.length+k) v=l++m.set k v:=AD
theorem Tp {α:Type} (l m:List α):(l++m)[l.length]?=m[0]?:=S0 l m 0
theorem Tq {α:Type} (l m:List α) (v:α):(l++m).set l.length v=l++m.set 0 v:=S1 l m 0 v
def BI (s:AQ):Prop:=∀b∈s.bs,Ah s.bs.length b=true
def BE (a:AV) (rows:List (List PV)):Prop:=A2 a rows\/∃t,a=.own t rows
theorem BE.ok {a:AV} {rows:List (List PV)} (h:BE a rows):BD a=true:=by
 rcases h with h|⟨t,rfl⟩
 .exact h.ok
 rfl
theorem BE.Jf {a:AV} {rows:List (List PV)} (h:BE a rows):Jf a=true:=by
 rcases h with h|⟨t,rfl⟩
 .exact h.Jf
 rfl
theorem BE.KB {a:AV} {rows:List (List PV)} (h:BE a rows):KB a=some (.list rows):=by
 rcases h with h|⟨t,rfl⟩
 .exact h.KB
 rfl
theorem BE.Aw {a:AV} {rows:List (List PV)} (h:BE a rows) (n:Nat):Aw n a=true:=by
 rcases h with h|⟨t,rfl⟩
 .exact h.Aw n
 rfl
theorem BE.BA {a:AV} {rows:List (List PV)} (h:BE a rows) (s:AQ):BA s a=some rows.length:=by
 rcases h with h|⟨t,rfl⟩
 .exact h.BA s
 rfl
theorem BE.rowsOf {a:AV} {rows:List (List PV)} (h:BE a rows):rowsOf a=some rows:=by
 rcases h with h|⟨t,rfl⟩
 .exact h.rowsOf
 rfl
theorem BE.cells {a:AV} {rows:List (List PV)} (h:BE a rows):cellsOf a=[a]:=by
 rcases h with h|⟨t,rfl⟩
 .exact h.cells
 rfl
theorem BE.closed {a:AV} {rows:List (List PV)} (h:BE a rows) (bs:List (List AV)) (n:Nat):∃a',close bs n 0 a=some a'/\A2 a' rows:=by
 rcases h with h|⟨t,rfl⟩
 .exact⟨a,h.close _ _ _,h⟩
 .exact⟨_,kn,.list _⟩
theorem BE.close {a:AV} {rows:List (List PV)} (h:BE a rows) (bs:List (List AV)) (n m:Nat):∃a',close bs n m a=some a'/\BE a' rows:=by
 rcases h with h|⟨t,rfl⟩
 .exact⟨a,h.close _ _ _,.inl h⟩
 .by_cases ht:t<m
  .exact⟨.own t rows,by grind[Tel.close],.inr ⟨t,rfl⟩⟩
  .exact⟨.pv (.list rows),by grind[Tel.close],.inl (.list _)⟩
theorem ADF {rr:Bool} {n:Nat} {Post:AV->AQ->Prop} {p:PV} {s:AQ} (hok:((s.bs.take n).all (Ah n))=true) (h:Post (.pv p) ⟨s.bs.take n,s.ts⟩):QM rr n Post (.pv p) s:=
 ⟨_,_,by grind[Hs,Hz,Tel.close],h⟩
theorem ZY {rr:Bool} {n:Nat} {Post:AV->AQ->Prop} {cs ds:List AV} {s:AQ} (hok:((s.bs.take n).all (Ah n))=true) (hc:BR s.bs n s.ts.length cs=some ds) (h:Post (.agg ds) ⟨s.bs.take n,s.ts⟩):QM rr n Post (.agg cs) s:=
 ⟨_,_,by grind[Hs,Hz,Tel.close],h⟩
theorem J0 {rr:Bool} {n:Nat} {Post:AV->AQ->Prop} {cs ds:List AV} {s:AQ} (hok:((s.bs.take n).all (Ah n))=true) (hc:BR s.bs n s.ts.length cs=some ds) (h:Post (.tuple ds) ⟨s.bs.take n,s.ts⟩):QM rr n Post (.tuple cs) s:=
 ⟨_,_,by grind[Hs,Hz,Tel.close],h⟩
def Ab (l:List Int):List (List PV):=l.map λn=>[.sc (.int .i64 n)]
theorem BF (l:List Int):(Ab l).length=l.length:=by simp[Ab]
structure Src where
 ints:List Int
 cell:AV
 rows:BE cell (Ab ints)
def Src.length (l:Src):Nat:=l.ints.length
def Src.of (l:List Int):Src:=⟨l,.pv (.list (Ab l)),.inl (.list _)⟩
theorem Src.rF (l:List Int):(Src.of l).length=l.length:=rfl
theorem Src.ARS (l:Src) (s:AQ):BA s l.cell=some l.length:=by rw[l.rows.BA,BF]; rfl
theorem Src.fP (l:Src):BD l.cell=true:=l.rows.ok
theorem Src.Aa4 (l:Src) (n:Nat):Aw n l.cell=true:=l.rows.Aw n
theorem BS {s:AQ} {k:Nat} {x:AV} {rows:List (List PV)} {i:Int} {row:List PV} {K:AV->Prop} (hx:BE x rows) (h0:0<=i) (hr:rows[i.toNat]?=some row) (hl:row.length=k) (hk:k≠0) (h:K (.Cw row 0)):NC s k x (AG i) K:=by
 rcases hx with hx|⟨t,rfl⟩
 .grind[BM]
 .exact⟨h0,row,hr,hl,hk,h⟩
def VM (l:Src) (k:Nat):List AV:=[l.cell,AG k]
structure Oj (bs:List (List AV)) (id:Nat) (l:Src):Prop where
 lt:id<bs.length
 ok:∀b∈bs,Ah bs.length b=true
 len:l.length<2 ^ 61
def ST (bs:List (List AV)) (id:Nat) (l:Src) (k:Nat):List (List AV):=bs.set id (VM l k)
theorem GC {bs:List (List AV)} {id:Nat} {l:Src} {k:Nat}:(ST bs id l k).length=bs.length:=by simp[ST]
theorem RM {bs:List (List AV)} {id:Nat} {l:Src} {k:Nat} (h:id<bs.length) (m:List (List AV)):(ST bs id l k++m)[id]?=some (VM l k):=by grind[ST]
theorem AJa {bs:List (List AV)} {id:Nat} {l:Src} {k k':Nat} (h:id<bs.length) (m:List (List AV)):(ST bs id l k++m).set id (VM l k')=ST bs id l k'++m:=by simp[*,ST]
mutual
theorem Vk {n m:Nat} (h:n<=m):∀(v:AV),Aw n v=true->Aw m v=true
 | .ptr id _,hv=>by simp[Aw] at hv ⊢; omega
 | .ref id _ _ _,hv=>by simp[Aw] at hv ⊢; omega
 | .HQ id,hv=>by simp[Aw] at hv ⊢; omega
 | .bz id _ _,hv=>by simp[Aw] at hv ⊢; omega
 | .func _ a b,hv=>by
  simp[Aw] at hv ⊢;exact⟨Bp h a hv.1,Bp h b hv.2⟩
 | .iface _ v,hv=>by
  simp[Aw] at hv ⊢;exact Vk h v hv
 | .agg cs,hv=>by
  simp[Aw] at hv ⊢;exact Bp h cs hv
 | .tuple cs,hv=>by
  simp[Aw] at hv ⊢;exact Bp h cs hv
 | .pv _,_=>by rfl
 | .Dt _ _,_=>by rfl
 | .Cw _ _,_=>by rfl
 | .AE _,_=>by rfl
 | .own _ _,_=>by rfl
 | .Gh,_=>by rfl
 | .O9 _ _,_=>by rfl
theorem Bp {n m:Nat} (h:n<=m):∀(l:List AV),Ah n l=true->Ah m l=true
 | [],_=>by rfl
 | c::cs,hv=>by
  simp[Ah] at hv ⊢;exact⟨Vk h c hv.1,Bp h cs hv.2⟩
end
theorem nU (l:Src) (k n:Nat):Ah n (VM l k)=true:=by simp[VM,Ah,Aw,l.Aa4]
def LV (bs m:List (List AV)):Prop:=∀b∈m,Ah (bs.length+m.length) b=true
theorem Oj.all {bs:List (List AV)} {id:Nat} {l:Src} (h:Oj bs id l) {m:List (List AV)} (hm:LV bs m) (k:Nat):((ST bs id l k++m).all (Ah (bs.length+m.length)))=true:=by
 rw[C3];intro b hb;rcases B4.1 hb with h1|h1
 .rcases kD h1 with h2|h2
  .exact Bp AA b (h.ok b h2)
  grind[nU]
 .exact hm b h1
def Dl (lo:Nat) (ts:List (Nat×TypeId)) (k:TypeId) (a:AV) (rows:List (List PV)):Prop:=a=.AE rows\/∃t,a=.own t rows/\ts[t]?=some (rows.length,k)/\lo<=t
theorem Dl.A1 {lo:Nat} {ts:List (Nat×Nat)} {k:Nat} {a:AV} {rows:List (List PV)} (h:Dl lo ts k a rows):BE a rows:=by
 rcases h with rfl|⟨t,rfl,_⟩
 .exact .inl (.AE _)
 .exact .inr ⟨t,rfl⟩
theorem Dl.grow {lo:Nat} {ts x:List (Nat×Nat)} {k:Nat} {a:AV} {rows:List (List PV)} (h:Dl lo ts k a rows):Dl lo (ts++x) k a rows:=by
 rcases h with rfl|⟨t,rfl,h1,h2⟩
 .exact .inl rfl
 .refine .inr ⟨t,rfl,?_,h2⟩
  grind
theorem LN:∀row:List PV,Cp (row.map .pv)=some row
 | []=>rfl
 | p::row=>by simp[Cp,KB,LN row]
theorem M6 {L:BL} {bs:List (List AV)} {ts x:List (Nat×TypeId)} {e:TypeId} {k bytes:Nat} {a:AV} {rows:List (List PV)} {row:List PV} {K:AV->AQ->Prop} (ha:Dl ts.length (ts++x) e a rows) (Ee:L.rt<=ts.length) (hrows:∀r∈rows,r.length=k) (hrow:row.length=k) (hk:0<k)
  (hok:(row.map AV.pv).all BD=true) (hb:(rows.length+1)*bytes<=2 ^ 45) (MU:rows.length+1<=2 ^ 45) (h:∀a' x',Dl ts.length (ts++x') e a' (rows++[row])->K a' ⟨bs,ts++x'⟩) :
  Ik false L ⟨bs,ts++x⟩ e k bytes a (.AE [row]) K:=by
 have hsrc:C6 ⟨bs,ts++x⟩ k (.AE [row])=some (row.map .pv):=by grind[C6,rowsOf]
 have hall:(rows.all λr=>r.length==k)=true:=AB;have hdiv:row.length / k=1:=by simp[*]
 have hby:CI k 1 row=[row]:=by grind[CI]
 unfold Ik;rw[hsrc]
 obtain⟨c,cs,hc⟩:∃c cs,row=c::cs:=by
  cases row with
  | nil=>grind
  | cons c cs=>simp
 have hmap:row.map AV.pv=.pv c::cs.map .pv:=AB;have hl:(AV.pv c::cs.map .pv).length / k=1:=AB;have htp:Cp (AV.pv c::cs.map .pv)=some row:=by grind[LN]
 rw[hmap] at hok;simp only[wO,hmap,hok,hl,htp,hby];refine⟨Ap,?_⟩;rcases ha with rfl|⟨t,rfl,h1,h2⟩
 .refine⟨⟨hb,MU,hall⟩,?_⟩
  have:=h (.own (ts++x).length (rows++[row])) (x++[(rows.length+1,e)]) (.inr ⟨_,rfl,AD,AD⟩)
  grind
 .refine⟨⟨hb,MU,h1,AA,hall⟩,?_⟩
  have hlt:t<(ts++x).length:=(BH.1 h1).1;have es:(ts++x).set t (rows.length+1,e)=ts++x.set (t-ts.length) (rows.length+1,e):=YV _ _ h2;have:=h (.own t (rows++[row])) (x.set (t-ts.length) (rows.length+1,e)) (.inr ⟨_,rfl,AB,h2⟩)
  grind
theorem j6 (n:Int):aV n n=true:=by cases n <;> simp[aV]
theorem aJ (l:List UInt8):Fq l l=true:=by grind[Rj]
theorem FQ (k:IntKind) (n:Int):eqV (.int k n) (.int k n)=true:=by simp[eqV,j6]
theorem IP (b:ByteArray):eqV (.string b) (.string b)=true:=by simp[eqV,aJ]
end Go.Tel
