/-
  Declarations; plainOver.
-/
import Derived.Test.YtcmeadgdojfhnaaGreatDoorTB
set_option linter.unusedSimpArgs false
set_option linter.unusedVariables false
namespace Go.Proofs.YtcmeadgdojfhnaaGreatDoor
open Go.Tel
attribute [local simp] wNew wBox wBoxZ markT wCond wBuild fillS wO setCells wSt wLd wPart LFE wFad alive wInt wStr wGK wGd wPick wExt wLen wSlen wNot wNil okI ceI okB ceB okS ceS okL ceL okC ceC okO ceO okP ceP okG ceG okE ceE okR ceR okF ceF okX ceX okM ceM okN ceN okNf ceNf okNi ceNi ceA roL roC roO leL leC leO tpP tpC tpO clP clC clO clF clA clT clN clL nbP nbC nbO nbN nbL toPVs
theorem ldp_of {E : Env} {s : Sto} {id off k : Nat} {cs ds : List AV} {K : AV → Prop} (hb : s.bs[id]? = some cs) (hk : off + k ≤ cs.length) (hd : (cs.drop off).take k = ds) (h : K (.agg ds)) : wLd E s (some k) (.ptr id off) K := by
  simp only [wLd, hb, wO, wPart]
  exact ⟨hk, by rw [hd]; exact h⟩
theorem stp_of {L : Lim} {s : Sto} {id off k : Nat} {v : AV} {cs old ds : List AV} {K : Sto → Prop} (hb : s.bs[id]? = some old) (hc : cellsOf v = cs) (hk : cs.length = k) (ho : off + k ≤ old.length) (h0 : 0 < k) (hro : L.ro ≤ id) (hok : cs.all okCell = true) (hn : L.n0 ≤ id ∨ noBlkL cs = true) (hd : setCells old off cs = ds) (h : K ⟨s.bs.set id ds, s.ts⟩) : wSt L s k (.ptr id off) v K := by
  simp only [wSt, hb, wO, hc]
  exact ⟨⟨hk, by omega, hro, hok, hn, by omega⟩, by rw [hd]; exact h⟩
theorem ldrow {E : Env} {s : Sto} {r : List PV} {k : Nat} {K : AV → Prop} (hr : r.length = k) (h : K (.agg (r.map .pv))) : wLd E s (some k) (.eptr r 0) K := by
  simp only [wLd, wPart, List.drop_zero]
  refine ⟨by simp [hr], ?_⟩
  rw [List.take_of_length_le (by simp [hr])]
  exact h
abbrev Fd := List UInt8 × Ty
def rowF (f : Fd) : List PV := .sc (.string ⟨f.1.toArray⟩) :: rowT f.2
def rowsF (l : List Fd) : List (List PV) := l.map rowF
theorem rowF_len (f : Fd) : (rowF f).length = 5 := by simp [rowF, rowT_len]
theorem rowsF_len (l : List Fd) : (rowsF l).length = l.length := by simp [rowsF]
theorem rowsF_get {l : List Fd} {i : Nat} {f : Fd} (h : l[i]? = some f) : (rowsF l)[i]? = some (rowF f) := by simp [rowsF, h]
structure Dc where
  nm : List UInt8
  ar : Nat
  su : Ty
  co : Bool
  fs : List Fd
def rowD (d : Dc) : List PV := .sc (.string ⟨d.nm.toArray⟩) :: .sc (.int .i64 d.ar) :: (rowT d.su ++ [.sc (.bool d.co), .list (rowsF d.fs)])
def rowsD (l : List Dc) : List (List PV) := l.map rowD
theorem rowD_len (d : Dc) : (rowD d).length = 8 := by simp [rowD, rowT_len]
theorem rowsD_len (l : List Dc) : (rowsD l).length = l.length := by simp [rowsD]
theorem rowsD_get {l : List Dc} {i : Nat} {d : Dc} (h : l[i]? = some d) : (rowsD l)[i]? = some (rowD d) := by simp [rowsD, h]
theorem rowsD_row {l : List Dc} {r : List PV} (h : r ∈ rowsD l) : r.length = 8 := by
  simp only [rowsD, List.mem_map] at h
  obtain ⟨d, _, rfl⟩ := h
  exact rowD_len d
theorem rowsD_app (l m : List Dc) : rowsD (l ++ m) = rowsD l ++ rowsD m := by simp [rowsD]
def DcC (d : Dc) (cs : List AV) : Prop := match d.su with
  | .mk k n i ts => ∃ a fl, cs = [SS d.nm, I64 d.ar, I64 k, SS n, I64 i, a, BB d.co, fl] ∧ RowsA a (rowsT ts) ∧ RowsA fl (rowsF d.fs)
def DRep (d : Dc) (x : AV) : Prop := ∃ cs, x = .agg cs ∧ DcC d cs
theorem DRep.of_row (d : Dc) : DRep d (.agg ((rowD d).map .pv)) := by
  obtain ⟨nm, ar, ⟨k, n, i, ts⟩, co, fs⟩ := d
  exact ⟨_, rfl, .pv (.list (rowsT ts)), .pv (.list (rowsF fs)), by simp [rowD, rowT], .list _, .list _⟩
theorem DcC.ok {d : Dc} {cs : List AV} (h : DcC d cs) : cs.all okCell = true ∧ cs.length = 8 ∧ (∀ n, idsLtL n cs = true) ∧ closeL [] 0 0 cs = some cs ∧ (∀ bs n m, closeL bs n m cs = some cs) := by
  obtain ⟨nm, ar, ⟨k, n, i, ts⟩, co, fs⟩ := d
  obtain ⟨a, fl, rfl, ha, hf⟩ := h
  have hb : okCell (BB co) = true := by cases co <;> rfl
  refine ⟨by simp [ha.ok, hf.ok, hb], rfl, fun n => by simp [idsLtL, idsLt, ha.idsLt, hf.idsLt], by simp [closeL, close, ha.close, hf.close], fun bs n m => by simp [closeL, close, ha.close, hf.close]⟩
structure NT (ar : Nat) (t : Ty) : Prop where
  vd : verdict t = 0
  pl : plain t = true
  fv : ∀ w ∈ fvs 0 t, w < ar
  ok : okT t
  vo : vok t = true
  ix : ixs t = true
theorem NT.sz {ar : Nat} {t : Ty} (h : NT ar t) : size t ≤ 200 := by
  have := h.vd
  unfold verdict at this
  by_cases h2 : 200 < size t
  · simp [h2] at this
  · omega
theorem nodup_le : ∀ (l m : List Int), l.Nodup → (∀ w ∈ l, w ∈ m) → l.length ≤ m.length
  | [], m, _, _ => Nat.zero_le _
  | a :: l, m, hn, hs => by
    have ham := hs a (by simp)
    have := nodup_le l (m.erase a) (List.nodup_cons.1 hn).2 (fun w hw => (List.mem_erase_of_ne (by rintro rfl; exact (List.nodup_cons.1 hn).1 hw)).2 (hs w (by simp [hw])))
    rw [List.length_erase_of_mem ham] at this
    have := List.length_pos_of_mem ham
    simp; omega
section
variable {R : RT}
theorem idx_ints {f : FuncId} {cs : List AV} {g : Int → Bool} {l : List Int} {y : AV} (hy : RowsA y (intRows l)) (hl : l.length < 2 ^ 60) {s : Sto} (hf : ∀ w ∈ l, ∀ L, CallE (env R) L f (I64 w :: cs) s (BB (g w)) s) {n0 ro rt : Nat} {QR : QT} :
    ∀ (j q : Nat), q + j = l.length → (∀ i : Int, decide (0 ≤ i) = (l.drop q).any g → QR (I64 i) s) → P124_1 R n0 ro rt y (.func (.func f) [] cs) (I64 l.length) (I64 q) s QR := by
  intro j
  induction j with
  | zero =>
    intro q hi hP
    refine p124_1 (in_lss ?_)
    rw [decide_eq_false (by omega)]
    refine co_f (p124_3 ?_)
    rw [List.drop_of_length_le (by omega)] at hP
    exact hP (-1) (by simp)
  | succ j ihj =>
    intro q hi hP
    refine p124_1 (in_lss ?_)
    rw [decide_eq_true (by omega)]
    obtain ⟨w, hw⟩ : ∃ w, l[q]? = some w := ⟨_, List.getElem?_eq_getElem (by omega)⟩
    have hd := drop_cons hw
    rw [hd] at hP
    refine co_t (p124_2 (wIdx_rows hy (row := [.sc (.int .i64 w)]) (by omega) (by simpa using intRows_get hw) rfl (by omega) ?_))
    refine (show wLd (env R) s none (.eptr [.sc (.int .i64 w)] 0) _ from ?_)
    simp only [wLd, wPart, wO, List.map_cons, List.map_nil, List.getElem?_cons_zero]
    refine ⟨BB (g w), s, hf w (List.mem_of_getElem? hw) _, ?_⟩
    cases hg : g w with
    | true => exact co_t (hP q (by simp [hg]))
    | false =>
      refine co_f (p124_4 (in_add (by omega) (by omega) ?_))
      simp only [List.any_cons, hg, Bool.false_or] at hP
      have := ihj (q + 1) (by omega) hP
      simpa using this
theorem contains_ints {f : FuncId} {cs : List AV} {g : Int → Bool} {l : List Int} {y : AV} (hy : RowsA y (intRows l)) (hl : l.length < 2 ^ 60) {s : Sto} (hs : OkS s) (hcs : noIdL cs = false) (hf : ∀ w ∈ l, ∀ L, CallE (env R) L f (I64 w :: cs) s (BB (g w)) s) (L : Lim) :
    CallE (env R) L 91 [y, .func (.func f) [] cs] s (BB (l.any g)) s := by
  have hi : ∀ L, ∃ i : Int, decide (0 ≤ i) = l.any g ∧ CallE (env R) L 124 [y, .func (.func f) [] cs] s (I64 i) s := by
    intro L
    obtain ⟨v, s', ⟨i, rfl, rfl, h⟩, hc⟩ := m124 (R := R) (L := L) (s := s) (t0 := y) (t1 := .func (.func f) [] cs) (Post := fun v s' => ∃ i : Int, v = I64 i ∧ s' = s ∧ decide (0 ≤ i) = l.any g) (by simp [noIdL, noId, hcs]) (p124_0 (len_of (n := l.length) (by rw [hy.lenA, intRows_len]) (idx_ints hy hl hf l.length 0 (by omega) fun i h => by
      have := QM_read (rr := L.rr 124) hs (m := []) (p := .sc (.int .i64 i)) (Post := fun v s' => ∃ i : Int, v = I64 i ∧ s' = s ∧ decide (0 ≤ i) = l.any g) ⟨i, rfl, rfl, by grind⟩
      simpa using this)))
    exact ⟨i, h, hc⟩
  obtain ⟨v, s', ⟨rfl, rfl⟩, hc⟩ := m91 (R := R) (L := L) (s := s) (t0 := y) (t1 := .func (.func f) [] cs) (Post := fun v s' => v = BB (l.any g) ∧ s' = s) (by simp [noIdL, noId, hcs]) (p91_0 (by
    obtain ⟨i, h, hc⟩ := hi (LFE (env R) 91 0 L.ro L.rt)
    refine ⟨I64 i, s, hc, in_geq ?_⟩
    have := QM_read (rr := L.rr 91) hs (m := []) (p := .sc (.bool (l.any g))) (Post := fun v s' => v = BB (l.any g) ∧ s' = s) ⟨rfl, rfl⟩
    rw [show decide (i ≥ 0) = l.any g from h]
    simpa using this))
  exact hc
theorem over_call {p : Nat} {ar : Nat} (w : Int) {s : Sto} (hs : OkS s) (hp : s.bs[p]? = some [I64 ar]) (L : Lim) : CallE (env R) L 92 [I64 w, .ptr p 0] s (BB (decide ((ar : Int) ≤ w))) s := by
  obtain ⟨v, s', ⟨rfl, rfl⟩, hc⟩ := m92 (R := R) (L := L) (s := s) (t0 := I64 w) (t1 := .ptr p 0) (Post := fun v s' => v = BB (decide ((ar : Int) ≤ w)) ∧ s' = s) (by rfl) (p92_0 (ld_of hp rfl (in_geq (by
    have := QM_read (rr := L.rr 92) hs (m := []) (p := .sc (.bool (decide ((ar : Int) ≤ w)))) (Post := fun v s' => v = BB (decide ((ar : Int) ≤ w)) ∧ s' = s) ⟨rfl, rfl⟩
    simpa using this))))
  exact hc
theorem plainOver_spec {ar : Nat} {t : Ty} (h : NT ar t) {x : AV} (hx : TRep t x) : PureC (env R) 54 [x, I64 ar] fun r => r = BB true := by
  have hsz := h.sz
  have V := validate_spec (R := R) (t := t) (by omega) h.ok hx
  have P := isPlain_spec (R := R) t (by omega) x hx
  have F := freeVars_spec (R := R) (t := t) (by omega) h.ix hx
  have hfl := fvs_le t 0
  rw [h.vd] at V
  rw [h.pl] at P
  have hfv := h.fv
  clear h
  generalize fvs 0 t = fv at F hfv hfl
  obtain ⟨k, n, i, ts⟩ := t
  obtain ⟨a, rfl, ha⟩ := hx
  refine e54 (u0 := .agg [I64 k, SS n, I64 i, a]) (u1 := I64 ar) (by simp [ha.close, closeL]) (p54_0 ?_)
  refine bx_of (cs := [I64 k, SS n, I64 i, a]) rfl (by simp [ha.ok]) (bx_of (cs := [I64 ar]) rfl (by simp) (ldk_of (cs := [I64 k, SS n, I64 i, a]) rfl rfl (wCall_pure V ?_)))
  rintro _ rfl
  refine in_eql (gk_t (ldk_of (cs := [I64 k, SS n, I64 i, a]) rfl rfl (gk_t (wCall_pure P ?_))))
  rintro _ rfl
  refine pk (gk_t (ldk_of (cs := [I64 k, SS n, I64 i, a]) rfl rfl (gk_t (wCall_pure F ?_))))
  rintro y ⟨l, hy, hso, hm⟩
  have hs : OkS ⟨[[I64 k, SS n, I64 i, a], [I64 ar]], []⟩ := by
    intro c hc
    simp only [List.mem_cons, List.not_mem_nil, or_false] at hc
    rcases hc with rfl | rfl <;> simp [idsLtL, idsLt, ha.idsLt]
  have hll : l.length < 2 ^ 60 := by
    have hnd : l.Nodup := hso.imp (fun h => by omega)
    have := nodup_le l fv hnd fun w hw => (hm w).1 hw
    omega
  refine gk_t (gk_t ⟨_, _, contains_ints (R := R) (f := 92) (cs := [.ptr 1 0]) (g := fun w => decide ((ar : Int) ≤ w)) hy hll hs rfl (fun w _ L => over_call w hs rfl L) _, ?_⟩)
  have e : (l.any fun w => decide ((ar : Int) ≤ w)) = false := by
    rw [List.any_eq_false]
    intro w hw
    have := hfv w ((hm w).1 hw)
    simp; omega
  rw [e]
  exact gk_t (nt (pk ⟨_, clP, rfl⟩))
end
end Go.Proofs.YtcmeadgdojfhnaaGreatDoor
/-
  Maps whose keys are names; wellFormed.
-/
namespace Go.Proofs.YtcmeadgdojfhnaaGreatDoor
open Go.Tel
attribute [local simp] wNew wBox wBoxZ markT wCond wBuild fillS wO setCells wSt wLd wPart LFE wFad alive wInt wStr wGK wGd wPick wExt wLen wSlen wNot wNil okI ceI okB ceB okS ceS okL ceL okC ceC okO ceO okP ceP okG ceG okE ceE okR ceR okF ceF okX ceX okM ceM okN ceN okNf ceNf okNi ceNi ceA roL roC roO leL leC leO tpP tpC tpO clP clC clO clF clA clT clN clL nbP nbC nbO nbN nbL toPVs
theorem wAnyT_upd {E : Env} {L : Lim} {s : Sto} {lk : Lk} {o : Oper} {K : AV → Sto → Prop} {t kt el : TypeId} {m k x : Operand} {es : List MapEntry} {clock id : Nat} {w : List UInt8} {xv : AV} {v : Value} (ho : o.op = .mapUpdate t m k x) (ht : E.P.underlying t = some (.map kt el)) (hkt : E.P.underlying kt = some .string)
    (hm : evL lk m = some (.mref id)) (hk : evL lk k = some (SS w)) (hx : evL lk x = some xv) (hv : concE xv = some v) (hb : s.bs[id]? = some [.mobj es clock]) (hf : findStr w es 0 = some none) (hro : L.ro ≤ id)
    (h : K (.tuple []) ⟨s.bs.set id [.mobj (es ++ [{ key := .string ⟨w.toArray⟩, val := v, born := clock }]) (clock + 1)], s.ts⟩) : wAnyT E L s lk o K := by
  refine ⟨.tuple [], _, fun ρ hA => ?_, h⟩
  have e1 := evL_eq hA hm
  have e2 := evL_eq hA hk
  have e3 := evL_eq hA hx
  have hl : lookMap s (.mref id) = some (es, clock) := by simp [lookMap, hb]
  have hc : conc (SS w) = some (.string ⟨w.toArray⟩) := rfl
  have hfa : findA E.P kt (.string ⟨w.toArray⟩) es = some none := by simp only [findA, hkt]; exact hf
  have hs : setMap L s (es ++ [{ key := .string ⟨w.toArray⟩, val := v, born := clock }]) (clock + 1) (.mref id) = some ⟨s.bs.set id [.mobj (es ++ [{ key := .string ⟨w.toArray⟩, val := v, born := clock }]) (clock + 1)], s.ts⟩ := by
    simp [setMap, Nat.ble_eq_true_of_le hro]
  unfold opA
  rw [ho]
  simp only [e1, e2, e3, mapUpdateA, ht, hl, hc, hv, hfa, hs]
def mkE (val : Nat → Value) : Nat → List (List UInt8) → List MapEntry
  | _, [] => []
  | i, w :: l => { key := .string ⟨w.toArray⟩, val := val i, born := i } :: mkE val (i + 1) l
theorem mkE_none {val : Nat → Value} {w : List UInt8} : ∀ (l : List (List UInt8)) (i j : Nat), w ∉ l → findStr w (mkE val i l) j = some none
  | [], _, _, _ => rfl
  | u :: l, i, j, h => by
    simp only [List.mem_cons, not_or] at h
    have : bytesEq w u = false := by rw [bytesEq_iff]; simpa using h.1
    simp only [mkE, findStr, this, cond_false]
    exact mkE_none l _ _ h.2
theorem mkE_some {val : Nat → Value} {w : List UInt8} : ∀ (l : List (List UInt8)) (i j q : Nat), l[q]? = some w → l.Nodup → findStr w (mkE val i l) j = some (some (j + q, val (i + q)))
  | [], _, _, _, h, _ => by simp at h
  | u :: l, i, j, 0, h, hn => by
    simp only [List.getElem?_cons_zero, Option.some.injEq] at h
    have : bytesEq w u = true := by rw [bytesEq_iff]; simp [h]
    simp only [mkE, findStr, this, cond_true, Nat.add_zero]
  | u :: l, i, j, q + 1, h, hn => by
    simp only [List.getElem?_cons_succ] at h
    obtain ⟨h1, h2⟩ := List.nodup_cons.1 hn
    have : bytesEq w u = false := by
      rw [bytesEq_iff]
      have : w ≠ u := fun e => h1 (e ▸ List.mem_of_getElem? h)
      simpa using this
    simp only [mkE, findStr, this, cond_false]
    rw [mkE_some l (i + 1) (j + 1) q h h2]
    congr 3
    · omega
    · congr 1; omega
theorem mkE_snoc {val : Nat → Value} {w : List UInt8} : ∀ (l : List (List UInt8)) (i : Nat), mkE val i (l ++ [w]) = mkE val i l ++ [{ key := .string ⟨w.toArray⟩, val := val (i + l.length), born := i + l.length }]
  | [], i => by simp [mkE]
  | u :: l, i => by
    simp only [List.cons_append, mkE, mkE_snoc l (i + 1), List.length_cons]
    rw [show i + 1 + l.length = i + (l.length + 1) by omega]
def MapAt (bs : List (List AV)) (b : Nat) (val : Nat → Value) (l : List (List UInt8)) : Prop := bs[b]? = some [.mobj (mkE val 0 l) l.length]
theorem look_none {s : Sto} {b : Nat} {val : Nat → Value} {l : List (List UInt8)} (hm : MapAt s.bs b val l) {w : List UInt8} (hw : w ∉ l) {z : AV} {ok : Bool} {K : AV → Prop} (h : K (bif ok then .tuple [z, BB false] else z)) : wLook s .string z (.mref b) (SS w) ok K := by
  have hl : lookMap s (.mref b) = some (mkE val 0 l, l.length) := by simp only [lookMap]; rw [hm]
  simp only [wLook, hl, wO]
  show wO (findStr w (mkE val 0 l) 0) _
  rw [mkE_none l 0 0 hw]
  exact h
theorem look_some {s : Sto} {b : Nat} {val : Nat → Value} {l : List (List UInt8)} (hm : MapAt s.bs b val l) (hn : l.Nodup) {w : List UInt8} {q : Nat} (hw : l[q]? = some w) {z : AV} {ok : Bool} {K : AV → Prop} (h : K (bif ok then .tuple [ofEl (val q), BB true] else ofEl (val q))) : wLook s .string z (.mref b) (SS w) ok K := by
  have hl : lookMap s (.mref b) = some (mkE val 0 l, l.length) := by simp only [lookMap]; rw [hm]
  simp only [wLook, hl, wO]
  show wO (findStr w (mkE val 0 l) 0) _
  rw [mkE_some l 0 0 q hw hn, Nat.zero_add]
  exact h
abbrev hresv : List (List UInt8) := [[65, 110, 121], [78, 101, 118, 101, 114], [116, 117, 112, 108, 101], [117, 110, 105, 111, 110], [101, 120, 105, 115, 116, 115]]
section
variable {R : RT}
theorem env_G1 : (env R).G 1 = some (strRow hresv) := rfl
structure IdOk (R : RT) (n : List UInt8) : Prop where
  id : PureC (env R) 52 [SS n] fun r => r = BB true
  rid : PureC (env R) 96 [SS n] fun r => r = BB true
structure NameOk (R : RT) (n : List UInt8) : Prop extends IdOk R n where
  re : PureC (env R) 53 [.pv (.list (strRows hresv)), SS n] fun r => r = BB false
  kw : PureC (env R) 97 [SS n] fun r => r = BB false
structure DW (R : RT) (d : Dc) : Prop where
  nm : NameOk R d.nm
  ar : d.ar ≤ 2
  su : NT d.ar d.su
  sk : d.su = .mk 0 [] 0 [] ∨ ∃ n ts, d.su = .mk 2 n 0 ts
  fs : ∀ f ∈ d.fs, IdOk R f.1 ∧ NT d.ar f.2
  fd : (d.fs.map (·.1)).Nodup
  fl : d.fs.length ≤ 2
  co : d.co = true ∨ d.fs = []
abbrev Zf : List AV := [SS [], I64 0, SS [], I64 0, .capped []]
theorem ld_glob' {g : Nat} {T : List (List UInt8)} (hG : (env R).G g = some (strRow T)) {s : Sto} {K : AV → Prop} (h : K (.pv (.list (strRows T)))) : wLd (env R) s none (.gptr g 0) K := by
  simp [wLd, hG, wO, wPart, strRow]
  exact h
theorem wlf_loop {d : Dc} (hw : DW R d) {cs : List AV} (hc : DcC d cs) {fl : AV} (hf : RowsA fl (rowsF d.fs)) :
    ∀ (j q : Nat) (s : Sto), q + j = d.fs.length → OkS s → s.bs[0]? = some cs → MapAt s.bs 1 (fun _ => .bool true) ((d.fs.take q).map (·.1)) → P28_3 R 0 0 0 (.ptr 0 0) (.mref 1) fl (I64 d.fs.length) (I64 q) s (QP fun r => r = BB true) := by
  have hfl := hw.fl
  intro j
  induction j with
  | zero =>
    intro q s hq hs h0 h1
    refine p28_3 (in_lss ?_)
    rw [decide_eq_false (by omega)]
    exact co_f (p28_5 ⟨_, clP, rfl⟩)
  | succ j ih =>
    intro q s hq hs h0 h1
    refine p28_3 (in_lss ?_)
    rw [decide_eq_true (by omega)]
    obtain ⟨f, hfq⟩ : ∃ f, d.fs[q]? = some f := ⟨_, List.getElem?_eq_getElem (by omega)⟩
    obtain ⟨⟨hi1, _⟩, hnt⟩ := hw.fs f (List.mem_of_getElem? hfq)
    have hP := plainOver_spec (R := R) hnt (TRep.of_row f.2)
    obtain ⟨w, ⟨k, n, i, ts⟩⟩ := f
    refine co_t (p28_4 (wIdx_rows hf (row := rowF (w, .mk k n i ts)) (by omega) (by simpa using rowsF_get hfq) (rowF_len _) (by omega) (ldrow (rowF_len _) ?_)))
    have l0 := (List.getElem?_eq_some_iff.1 h0).1
    have l1 := (List.getElem?_eq_some_iff.1 h1).1
    obtain ⟨bs, ts'⟩ := s
    simp only at l0 l1 h0 h1 hs
    generalize hB : (rowF (w, .mk k n i ts)).map AV.pv = B
    have eB : B = [SS w, I64 k, SS n, I64 i, .pv (.list (rowsT ts))] := by rw [← hB]; simp [rowF, rowT]
    clear hB
    subst eB
    refine new_of (st_all (old := Zf) (get_last _ _) rfl rfl (by decide) (Nat.zero_le _) (by simp) (.inl (Nat.zero_le _)) ?_)
    have e : (bs ++ [Zf]).set bs.length [SS w, I64 k, SS n, I64 i, .pv (.list (rowsT ts))] = bs ++ [[SS w, I64 k, SS n, I64 i, .pv (.list (rowsT ts))]] := by simp
    simp only [e]
    generalize hB : [SS w, I64 k, SS n, I64 i, .pv (.list (rowsT ts))] = B
    have g0 := get_push h0 B
    have g1 : MapAt (bs ++ [B]) 1 (fun _ => .bool true) ((d.fs.take q).map (·.1)) := get_push h1 B
    have g2 := get_last bs B
    have al : alive ⟨bs ++ [B], ts'⟩ bs.length = true := by subst hB; exact al_of g2
    obtain ⟨c0, cr, hcs⟩ : ∃ c r, cs = c :: r := by
      obtain ⟨nm, ar, ⟨k, n, i, ts⟩, co, fs⟩ := d
      obtain ⟨a, fl, rfl, _⟩ := hc
      exact ⟨_, _, rfl⟩
    have al0 : alive ⟨bs ++ [B], ts'⟩ 0 = true := by rw [hcs] at g0; exact al_of g0
    have har : cs[1]? = some (I64 d.ar) := by
      obtain ⟨nm, ar, ⟨k, n, i, ts⟩, co, fs⟩ := d
      obtain ⟨a, fl, rfl, _⟩ := hc
      rfl
    have hB0 : B[0]? = some (SS w) := by rw [← hB]; rfl
    have hnw : w ∉ (d.fs.take q).map (·.1) := by
      have hn := hw.fd
      have e : d.fs = d.fs.take q ++ (w, .mk k n i ts) :: d.fs.drop (q + 1) := by
        rw [← drop_cons hfq, List.take_append_drop]
      rw [e, List.map_append, List.nodup_append] at hn
      intro hm
      exact hn.2.2 w hm w (by simp) rfl
    refine fad_of al (ld_of g2 hB0 (wCall_pure hi1 ?_))
    rintro _ rfl
    refine nt (gk_t (gk_t (fad_of al (gk_t (ld_of g2 hB0 (gk_t (look_none g1 hnw (pk ?_))))))))
    refine gk_t (fad_of al (gk_t (ldp_of (ds := (rowT (.mk k n i ts)).map .pv) g2 (by rw [← hB]; simp) (by rw [← hB]; rfl) (gk_t (fad_of al0 (gk_t (ld_of g0 har (gk_t (wCall_pure hP ?_)))))))))
    rintro _ rfl
    refine gk_t (nt (pk (co_f (p28_6 (fad_of al (ld_of g2 hB0 ?_))))))
    refine wAnyT_upd (w := w) (id := 1) (xv := BB true) (t := 97) (m := .tmp 76) (k := .tmp 78) (x := .const (.bool true)) (by kernel_rfl) (kt := 9) (el := 4) (by kernel_rfl) (by kernel_rfl) rfl rfl rfl rfl g1 (mkE_none _ _ _ hnw) (Nat.zero_le _) ?_
    refine p28_7 (in_add (by omega) (by omega) ?_)
    have hid : ∀ n, idsLtL n B = true := fun n => by rw [← hB]; rfl
    have hs' : OkS ⟨bs ++ [B], ts'⟩ := OkS.app (s := ⟨bs, ts'⟩) hs (hid _)
    have := ih (q + 1) ⟨(bs ++ [B]).set 1 [.mobj (mkE (fun _ => .bool true) 0 ((d.fs.take q).map (·.1)) ++ [{ key := .string ⟨w.toArray⟩, val := .bool true, born := ((d.fs.take q).map (·.1)).length }]) (((d.fs.take q).map (·.1)).length + 1)], ts'⟩ (by omega) (OkS.set (s := ⟨bs ++ [B], ts'⟩) hs' (by rfl) _) (get_set g0 (by omega)) ?_
    · simpa using this
    · have et : d.fs.take (q + 1) = d.fs.take q ++ [(w, .mk k n i ts)] := by rw [List.take_add_one, hfq]; rfl
      unfold MapAt
      rw [et, List.map_append, List.map_cons, List.map_nil, mkE_snoc]
      have hlq : ((d.fs.take q).map (·.1)).length = q := by simp; omega
      simp only [List.length_append, List.length_cons, List.length_nil, hlq, Nat.zero_add]
      exact get_self g1
end
end Go.Proofs.YtcmeadgdojfhnaaGreatDoor
/-
  wellFormed.
-/
namespace Go.Proofs.YtcmeadgdojfhnaaGreatDoor
open Go.Tel
section
variable {R : RT}
theorem mk_of {s : Sto} {K : AV → Sto → Prop} (h : K (.mref s.bs.length) ⟨s.bs ++ [[.mobj [] 0]], s.ts⟩) : wMk s K := h
theorem wellFormed_spec {d : Dc} (hw : DW R d) {x : AV} (hx : DRep d x) : PureC (env R) 28 [x] fun r => r = BB true := by
  obtain ⟨cs, rfl, hc⟩ := hx
  obtain ⟨hok, hl8, hid, hcl, _⟩ := hc.ok
  have hlp := @wlf_loop R d hw cs hc
  have W := hw
  obtain ⟨nm, ar, ⟨k, n, i, ts⟩, co, fs⟩ := d
  obtain ⟨a, fl, rfl, ha, hf⟩ := hc
  have hP := plainOver_spec (R := R) hw.su ⟨a, rfl, ha⟩
  have hsk : k = 0 ∨ k = 2 := by
    rcases hw.sk with h | ⟨n', ts', h⟩
    · simp only [Ty.mk.injEq] at h; exact .inl h.1
    · simp only [Ty.mk.injEq] at h; exact .inr h.1
  have hsi : i = 0 := by
    rcases hw.sk with h | ⟨n', ts', h⟩ <;> simp only [Ty.mk.injEq] at h
    · exact h.2.2.1
    · exact h.2.2.1
  subst hsi
  have h0 : (⟨[] ++ [[SS nm, I64 ar, I64 k, SS n, I64 0, a, BB co, fl]], []⟩ : Sto).bs[0]? = some [SS nm, I64 ar, I64 k, SS n, I64 0, a, BB co, fl] := rfl
  have hco := hw.co
  simp only at hP hco
  refine e28 (u0 := .agg [SS nm, I64 ar, I64 k, SS n, I64 0, a, BB co, fl]) (by simp [closeL, close, ha.close, hf.close]) (p28_0 ?_)
  refine bx_of (cs := [SS nm, I64 ar, I64 k, SS n, I64 0, a, BB co, fl]) rfl hok (fad_of rfl (ld_of h0 rfl (wCall_pure hw.nm.id ?_)))
  rintro _ rfl
  refine nt (gk_t (ld_glob' env_G1 (gk_t (fad_of rfl (gk_t (ld_of h0 rfl (gk_t (wCall_pure hw.nm.re ?_))))))))
  rintro _ rfl
  refine pk (gk_t (fad_of rfl (gk_t (ld_of h0 rfl (gk_t (in_lss (pk ?_)))))))
  have e1 : decide ((ar : Int) < 0) = false := by simp
  simp only [e1, cond_false, cond_true, Bool.not_true]
  have rest : P28_1 R 0 0 0 (.ptr 0 0) ⟨[] ++ [[SS nm, I64 ar, I64 k, SS n, I64 0, a, BB co, fl]], []⟩ (QP fun r => r = BB true) := by
    refine p28_1 (fad_of rfl (fad_of rfl (ld_of h0 rfl (in_neq ?_))))
    have tail : P28_2 R 0 0 0 (.ptr 0 0) ⟨[] ++ [[SS nm, I64 ar, I64 k, SS n, I64 0, a, BB co, fl]], []⟩ (QP fun r => r = BB true) := by
      refine p28_2 (mk_of ?_)
      refine fad_of rfl (ld_of (cs := [SS nm, I64 ar, I64 k, SS n, I64 0, a, BB co, fl]) rfl rfl (len_of (n := fs.length) (by rw [hf.lenA, rowsF_len]) ?_))
      refine hlp hf fs.length 0 _ (by simp) ?_ rfl rfl
      intro c hc
      have hc : c ∈ [[SS nm, I64 ar, I64 k, SS n, I64 0, a, BB co, fl], [.mobj [] 0]] := hc
      rcases List.mem_cons.1 hc with h | h
      · rw [h]; exact hid _
      · rw [List.mem_singleton.1 h]; rfl
    have go : ∀ s, s = (⟨[] ++ [[SS nm, I64 ar, I64 k, SS n, I64 0, a, BB co, fl]], []⟩ : Sto) → wGK (BB false) false s (fun K => wFad s (.ptr 0 0) 2 fun a43 => K a43 s) fun a43x8 s1x9 =>
      wGK (BB false) false s1x9 (fun K => wLd (env R) s1x9 (some 4) a43x8 fun a44 => K a44 s1x9) fun a44x10 s1x11 =>
      wGK (BB false) false s1x11 (fun K => wFad s1x11 (.ptr 0 0) 1 fun a45 => K a45 s1x11) fun a45x12 s1x13 =>
      wGK (BB false) false s1x13 (fun K => wLd (env R) s1x13 none a45x12 fun a46 => K a46 s1x13) fun a46x14 s1x15 =>
      wGK (BB false) false s1x15 (fun K => wCall (env R) (LFE (env R) 28 0 0 0) (.func (.func 54) [] []) [a44x10, a46x14] s1x15 fun a47 s1x16 => K a47 s1x16) fun a47x17 s1x18 =>
      wGK (BB false) false s1x18 (fun K => wNot a47x17 fun a48 => K a48 s1x18) fun a48x19 s1x20 =>
      wPick (BB false) (BB true) a48x19 fun a49 =>
      wCond a49 (QP (fun r => r = BB true) (BB false) s1x20) (P28_2 R 0 0 0 (.ptr 0 0) s1x20 (QP fun r => r = BB true)) := by
      rintro _ rfl
      refine gk_t (fad_of rfl (gk_t (ldp_of (ds := [I64 k, SS n, I64 0, a]) h0 (by simp) rfl (gk_t (fad_of rfl (gk_t (ld_of h0 rfl (gk_t (wCall_pure hP ?_)))))))))
      rintro _ rfl
      exact gk_t (nt (pk (co_f tail)))
    rcases hsk with rfl | rfl
    · exact gk_ft (gk_ft (gk_ft (gk_ft (pk (go _ rfl)))))
    · exact gk_t (fad_of rfl (gk_t (fad_of rfl (gk_t (ld_of h0 rfl (gk_t (in_neq (pk (go _ rfl)))))))))
  cases co with
  | true =>
    refine gk_t (fad_of rfl ?_)
    refine gk_t (ld_of h0 rfl ?_)
    refine gk_t (nt ?_)
    refine gk_t ?_
    exact gk_ft (gk_ft (gk_ft (gk_ft (gk_t (pk (pk (co_f rest)))))))
  | false =>
    have hfs : fs = [] := by simpa using hco
    subst hfs
    refine gk_t (fad_of rfl ?_)
    refine gk_t (ld_of h0 rfl ?_)
    refine gk_t (nt ?_)
    refine gk_t ?_
    refine gk_t (fad_of rfl ?_)
    refine gk_t (ld_of h0 rfl ?_)
    refine gk_t (len_of (n := 0) (by rw [hf.lenA]; rfl) ?_)
    refine gk_t (in_gtr ?_)
    exact gk_t (pk (pk (co_f rest)))
end
end Go.Proofs.YtcmeadgdojfhnaaGreatDoor
/-
  The program's hierarchy in memory; find, declares, Knows.
-/
namespace Go.Proofs.YtcmeadgdojfhnaaGreatDoor
open Go.Tel
attribute [local simp] wNew wBox wBoxZ markT wCond wBuild fillS wO setCells wSt wLd wPart LFE wFad alive wInt wStr wGK wGd wPick wExt wLen wSlen wNot wNil okI ceI okB ceB okS ceS okL ceL okC ceC okO ceO okP ceP okG ceG okE ceE okR ceR okF ceF okX ceX okM ceM okN ceN okNf ceNf okNi ceNi ceA roL roC roO leL leC leO tpP tpC tpO clP clC clO clF clA clT clN clL nbP nbC nbO nbN nbL toPVs
abbrev Z8 : List AV := [SS [], I64 0, I64 0, SS [], I64 0, .capped [], BB false, .capped []]
structure HS (s : Sto) (p b : Nat) (Ds : List Dc) (a : AV) : Prop where
  hb : s.bs[p]? = some [a, .mref b]
  ap : Apd 0 s.ts 36 a (rowsD Ds)
  mp : MapAt s.bs b (fun i => .int .i64 i) (Ds.map (·.nm))
  nd : (Ds.map (·.nm)).Nodup
  ne : p ≠ b
  ok : OkS s
  ln : Ds.length ≤ 60
theorem HS.push {s : Sto} {p b : Nat} {Ds : List Dc} {a : AV} (h : HS s p b Ds a) {c : List AV} (hc : idsLtL (s.bs.length + 1) c = true) : HS ⟨s.bs ++ [c], s.ts⟩ p b Ds a :=
  ⟨get_push h.hb c, h.ap, get_push h.mp c, h.nd, h.ne, OkS.app h.ok hc, h.ln⟩
mutual
def kn (Ds : List Dc) : Ty → Prop
  | .mk k n _ ts => (k = 2 → ∃ (q : Nat) (d : Dc), Ds[q]? = some d ∧ d.nm = n ∧ d.ar = ts.length) ∧ knL Ds ts
def knL (Ds : List Dc) : List Ty → Prop
  | [] => True
  | t :: l => kn Ds t ∧ knL Ds l
end
mutual
theorem kn_app {Ds : List Dc} (d : Dc) : ∀ t : Ty, kn Ds t → kn (Ds ++ [d]) t
  | .mk k n i ts, h => by
    rw [kn] at h ⊢
    refine ⟨fun hk => ?_, knL_app d ts h.2⟩
    obtain ⟨q, e, h1, h2⟩ := h.1 hk
    exact ⟨q, e, by rw [List.getElem?_append_left (List.getElem?_eq_some_iff.1 h1).1]; exact h1, h2⟩
theorem knL_app {Ds : List Dc} (d : Dc) : ∀ l : List Ty, knL Ds l → knL (Ds ++ [d]) l
  | [], _ => by rw [knL]; trivial
  | t :: l, h => by
    rw [knL] at h ⊢
    exact ⟨kn_app d t h.1, knL_app d l h.2⟩
end
section
variable {R : RT}
theorem QM_tup {rr : Bool} {s : Sto} (hs : OkS s) {m : List (List AV)} {x y x' y' : AV} {Post : AV → Sto → Prop} (hcl : closeL (s.bs ++ m) s.bs.length s.ts.length [x, y] = some [x', y']) (h : Post (.tuple [x', y']) s) : QM rr s.bs.length Post (.tuple [x, y]) ⟨s.bs ++ m, s.ts⟩ := by
  have e : (s.bs ++ m).take s.bs.length = s.bs := by simp
  refine QM_tuple (ds := [x', y']) ?_ hcl ?_
  · simp only [e]
    rw [List.all_eq_true]
    exact hs
  · simp only [e]
    exact h
theorem closePV : ∀ (r : List PV) (bs : List (List AV)) (n m : Nat), closeL bs n m (r.map .pv) = some (r.map .pv)
  | [], _, _, _ => rfl
  | p :: r, bs, n, m => by simp [closeL, close, closePV r bs n m]
theorem set_last (bs : List (List AV)) (c d : List AV) : (bs ++ [c]).set bs.length d = bs ++ [d] := by simp
theorem rdc {L : Lim} {f : FuncId} {args : List AV} {s : Sto} {v : AV} (hm : ∃ v' s', (v' = v ∧ s' = s) ∧ CallE (env R) L f args s v' s') : CallE (env R) L f args s v s := by
  obtain ⟨_, _, ⟨rfl, rfl⟩, h⟩ := hm
  exact h
variable {p b : Nat} {Ds : List Dc} {a : AV}
theorem find_none {s : Sto} (h : HS s p b Ds a) {n : List UInt8} (hn : n ∉ Ds.map (·.nm)) {L : Lim} (hro : L.ro ≤ s.bs.length) : CallE (env R) L 26 [.ptr p 0, SS n] s (.tuple [.agg Z8, BB false]) s := by
  have h' := h.push (c := Z8) (by rfl)
  have hp := h'.hb
  have g := get_last s.bs Z8
  refine rdc (m26 (R := R) (L := L) (s := s) (t0 := .ptr p 0) (t1 := SS n) (Post := fun v s' => v = .tuple [.agg Z8, BB false] ∧ s' = s) (by rfl) (p26_0 (new_of (nil_of (al_of hp) (fad_of (al_of hp) (ld_of hp rfl (look_none h'.mp hn (ex_of rfl (ex_of rfl (nt (co_t ?_)))))))))) )
  refine bd_of (cs := Z8) rfl (st_all g rfl rfl (by decide) (by simpa [LFE] using hro) (by rfl) (.inl (Nat.zero_le _)) ?_)
  simp only [set_last]
  refine ldk_of g rfl (QM_tup h.ok (x' := .agg Z8) (y' := BB false) (by rfl) ⟨rfl, rfl⟩)
theorem find_some {s : Sto} (h : HS s p b Ds a) {q : Nat} {d : Dc} (hq : Ds[q]? = some d) {L : Lim} (hro : L.ro ≤ s.bs.length) : CallE (env R) L 26 [.ptr p 0, SS d.nm] s (.tuple [.agg ((rowD d).map .pv), BB true]) s := by
  have h' := h.push (c := Z8) (by rfl)
  have hp := h'.hb
  have g := get_last s.bs Z8
  have hl := rowD_len d
  have hok := (DRep.of_row d)
  obtain ⟨cs, hcs, hd⟩ := hok
  cases hcs
  obtain ⟨k1, k2, k3, k4, k5⟩ := hd.ok
  refine rdc (m26 (R := R) (L := L) (s := s) (t0 := .ptr p 0) (t1 := SS d.nm) (Post := fun v s' => v = .tuple [.agg ((rowD d).map .pv), BB true] ∧ s' = s) (by rfl) (p26_0 (new_of (nil_of (al_of hp) (fad_of (al_of hp) (ld_of hp rfl (look_some h'.mp h.nd (q := q) (by simp [hq]) (ex_of rfl (ex_of rfl (nt (co_f ?_)))))))))) )
  refine p26_1 (nil_of (al_of hp) (fad_of (al_of hp) (ld_of hp rfl ?_)))
  refine wIdx_rowsO (h'.ap.rowsO) (row := rowD d) (i := (q : Int)) (by omega) (by simpa using rowsD_get hq) hl (by omega) (ldrow hl ?_)
  refine st_all g k2 rfl (by decide) (by simpa [LFE] using hro) k1 (.inl (Nat.zero_le _)) ?_
  simp only [set_last]
  refine ldk_of (get_last _ _) k2 (QM_tup h.ok (x' := .agg ((rowD d).map .pv)) (y' := BB true) ?_ ⟨rfl, rfl⟩)
  simp only [closeL, close, closePV]
theorem declares_spec {s : Sto} (h : HS s p b Ds a) {q : Nat} {d : Dc} (hq : Ds[q]? = some d) {ts : List Ty} (har : d.ar = ts.length) {i : Int} {x : AV} (hx : TRep (.mk 2 d.nm i ts) x) {L : Lim} (hro : L.ro ≤ s.bs.length) : CallE (env R) L 58 [.ptr p 0, x] s (BB true) s := by
  obtain ⟨y, rfl, hy⟩ := hx
  have h1 := h.push (c := [I64 2, SS d.nm, I64 i, y]) (by simp [idsLtL, idsLt, hy.idsLt])
  have h2 := h1.push (c := Z8) (by rfl)
  have hok := (DRep.of_row d)
  obtain ⟨cs, hcs, hd⟩ := hok
  cases hcs
  obtain ⟨k1, k2, k3, k4, k5⟩ := hd.ok
  have e1 : ((rowD d).map AV.pv)[1]? = some (I64 d.ar) := by simp [rowD]
  obtain ⟨c0, cr, hcons⟩ : ∃ c r, (rowD d).map AV.pv = c :: r := ⟨_, _, rfl⟩
  refine rdc (m58 (R := R) (L := L) (s := s) (t0 := .ptr p 0) (t1 := .agg [I64 2, SS d.nm, I64 i, y]) (Post := fun v s' => v = BB true ∧ s' = s) (by rfl) (p58_0 (bx_of (cs := [I64 2, SS d.nm, I64 i, y]) rfl (by simp [hy.ok]) ?_)))
  have g := get_last s.bs [I64 2, SS d.nm, I64 i, y]
  refine fad_of (al_of g) (ld_of g rfl ⟨_, _, find_some h1 hq (by simp [LFE]; omega), ex_of rfl (ex_of rfl (new_of ?_))⟩)
  refine st_all (get_last _ _) k2 rfl (by decide) (by simp [LFE]; omega) k1 (.inl (Nat.zero_le _)) ?_
  simp only [set_last]
  have g0 := get_push g ((rowD d).map AV.pv)
  have g1 := get_last (s.bs ++ [[I64 2, SS d.nm, I64 i, y]]) ((rowD d).map AV.pv)
  have al1 : alive ⟨s.bs ++ [[I64 2, SS d.nm, I64 i, y]] ++ [(rowD d).map AV.pv], s.ts⟩ (s.bs ++ [[I64 2, SS d.nm, I64 i, y]]).length = true := by
    rw [hcons] at g1 ⊢
    exact al_of g1
  refine gk_t (fad_of al1 (gk_t (ld_of g1 e1 (gk_t (fad_of (al_of g0) (gk_t (ld_of g0 rfl (gk_t (len_of (n := ts.length) (by rw [hy.lenA, rowsT_len]) (gk_t (in_eql (pk ?_))))))))))))
  have := QM_read (rr := L.rr 58) h.ok (m := [[I64 2, SS d.nm, I64 i, y], (rowD d).map AV.pv]) (p := .sc (.bool true)) (Post := fun v s' => v = BB true ∧ s' = s) ⟨rfl, rfl⟩
  rw [har]
  simpa using this
theorem idx_all {f : FuncId} {cs : List AV} {ts : List Ty} {y : AV} (hy : RowsA y (rowsT ts)) (hl : ts.length < 2 ^ 60) {s : Sto} {n0 rt : Nat} (hf : ∀ t ∈ ts, ∀ L : Lim, L.ro = 0 → CallE (env R) L f (.agg ((rowT t).map .pv) :: cs) s (BB false) s) {QR : QT} (hP : QR (I64 (-1)) s) :
    ∀ (j q : Nat), q + j = ts.length → P94_1 R n0 0 rt y (.func (.func f) [] cs) (I64 ts.length) (I64 q) s QR := by
  intro j
  induction j with
  | zero =>
    intro q hi
    refine p94_1 (in_lss ?_)
    rw [decide_eq_false (by omega)]
    exact co_f (p94_3 hP)
  | succ j ihj =>
    intro q hi
    refine p94_1 (in_lss ?_)
    rw [decide_eq_true (by omega)]
    obtain ⟨t, ht⟩ : ∃ t, ts[q]? = some t := ⟨_, List.getElem?_eq_getElem (by omega)⟩
    refine co_t (p94_2 (wIdx_rows hy (row := rowT t) (by omega) (by simpa using rowsT_get ht) (rowT_len t) (by omega) (ld_row ⟨BB false, s, hf t (List.mem_of_getElem? ht) _ rfl, ?_⟩)))
    refine co_f (p94_4 (in_add (by omega) (by omega) ?_))
    have := ihj (q + 1) (by omega)
    simpa using this
theorem contains_no {f : FuncId} {cs : List AV} {ts : List Ty} {y : AV} (hy : RowsA y (rowsT ts)) (hl : ts.length < 2 ^ 60) {s : Sto} (hs : OkS s) (hcs : noIdL cs = false) (hf : ∀ t ∈ ts, ∀ L : Lim, L.ro = 0 → CallE (env R) L f (.agg ((rowT t).map .pv) :: cs) s (BB false) s) {L : Lim} (hro : L.ro = 0) :
    CallE (env R) L 59 [y, .func (.func f) [] cs] s (BB false) s := by
  have hi : ∀ L : Lim, L.ro = 0 → CallE (env R) L 94 [y, .func (.func f) [] cs] s (I64 (-1)) s := by
    intro L hL
    obtain ⟨v, s', ⟨rfl, rfl⟩, hc⟩ := m94 (R := R) (L := L) (s := s) (t0 := y) (t1 := .func (.func f) [] cs) (Post := fun v s' => v = I64 (-1) ∧ s' = s) (by simp [noIdL, noId, hcs]) (p94_0 (len_of (n := ts.length) (by rw [hy.lenA, rowsT_len]) (by
      rw [hL]
      refine idx_all hy hl hf ?_ ts.length 0 (by omega)
      have := QM_read (rr := L.rr 94) hs (m := []) (p := .sc (.int .i64 (-1))) (Post := fun v s' => v = I64 (-1) ∧ s' = s) ⟨rfl, rfl⟩
      simpa using this)))
    exact hc
  obtain ⟨v, s', ⟨rfl, rfl⟩, hc⟩ := m59 (R := R) (L := L) (s := s) (t0 := y) (t1 := .func (.func f) [] cs) (Post := fun v s' => v = BB false ∧ s' = s) (by simp [noIdL, noId, hcs]) (p59_0 ⟨_, _, hi _ hro, in_geq (by
    have := QM_read (rr := L.rr 59) hs (m := []) (p := .sc (.bool false)) (Post := fun v s' => v = BB false ∧ s' = s) ⟨rfl, rfl⟩
    simpa using this)⟩)
  exact hc
mutual
theorem knows_spec : ∀ (t : Ty), kn Ds t → size t < 2 ^ 38 → ∀ (x : AV), TRep t x → ∀ (s : Sto), HS s p b Ds a → ∀ L : Lim, L.ro = 0 → CallE (env R) L 30 [.ptr p 0, x] s (BB true) s
  | .mk k n i ts, hk, hz, x, hx, s, h, L, hro => by
    rw [kn] at hk
    have hx' := hx
    obtain ⟨y, rfl, hy⟩ := hx
    simp only [size] at hz
    have h60 := sizeL_len ts
    have hp := (List.getElem?_eq_some_iff.1 h.hb).1
    have h1 := h.push (c := [.ptr p 0]) (by simp [idsLtL, idsLt]; omega)
    have h2 := h1.push (c := [I64 k, SS n, I64 i, y]) (by simp [idsLtL, idsLt, hy.idsLt])
    have g1 := get_last s.bs [.ptr p 0]
    have g2 := get_last (s.bs ++ [[.ptr p 0]]) [I64 k, SS n, I64 i, y]
    have g1' := get_push g1 [I64 k, SS n, I64 i, y]
    refine rdc (m30 (R := R) (L := L) (s := s) (t0 := .ptr p 0) (t1 := .agg [I64 k, SS n, I64 i, y]) (Post := fun v s' => v = BB true ∧ s' = s) (by rfl) (p30_0 (bx_of (cs := [.ptr p 0]) rfl (by rfl) (bx_of (cs := [I64 k, SS n, I64 i, y]) rfl (by simp [hy.ok]) ?_))))
    have fin : P30_1 R 0 L.ro L.rt (.ptr s.bs.length 0) (.ptr (s.bs ++ [[AV.ptr p 0]]).length 0) ⟨s.bs ++ [[AV.ptr p 0]] ++ [[I64 k, SS n, I64 i, y]], s.ts⟩ (QM (L.rr 30) s.bs.length fun v s' => v = BB true ∧ s' = s) := by
      refine p30_1 (fad_of (al_of g2) (ld_of g2 rfl ⟨_, _, contains_no (R := R) (f := 60) (cs := [.ptr s.bs.length 0]) hy (by omega) h2.ok rfl (fun t ht L hL => knowsL_spec ts hk.2 (by omega) t ht _ _ h2 g1' L hL) hro, nt ?_⟩))
      have := QM_read (rr := L.rr 30) h.ok (m := [[.ptr p 0], [I64 k, SS n, I64 i, y]]) (p := .sc (.bool true)) (Post := fun v s' => v = BB true ∧ s' = s) ⟨rfl, rfl⟩
      simpa using this
    refine fad_of (al_of g2) (ld_of g2 rfl (in_eql ?_))
    by_cases h2k : k = 2
    · subst h2k
      obtain ⟨q, d, hq, rfl, har⟩ := hk.1 rfl
      refine gk_t (ld_of g1' rfl (gk_t (ldk_of g2 rfl (gk_t ⟨_, _, declares_spec h2 hq har hx' (by simp [LFE, hro]), gk_t (nt (pk (co_f fin)))⟩))))
    · have b2 : (k == 2) = false := by simpa using h2k
      rw [b2]
      exact gk_ft (gk_ft (gk_ft (gk_ft (pk (co_f fin)))))
theorem knowsL_spec : ∀ (l : List Ty), knL Ds l → sizeL l < 2 ^ 38 → ∀ t ∈ l, ∀ (s : Sto) (N : Nat), HS s p b Ds a → s.bs[N]? = some [.ptr p 0] → ∀ L : Lim, L.ro = 0 → CallE (env R) L 60 [.agg ((rowT t).map .pv), .ptr N 0] s (BB false) s
  | [], _, _, _, h, _, _, _, _, _, _ => by cases h
  | e :: l, hk, hz, t, hm, s, N, h, hN, L, hro => by
    rw [knL] at hk
    simp only [sizeL] at hz
    rcases List.mem_cons.1 hm with h' | h'
    · rw [h']
      have hc := knows_spec e hk.1 (by omega) _ (TRep.of_row e)
      have hrl : ((rowT e).map AV.pv).length = 4 := by simp [rowT_len]
      have hri : idsLtL (s.bs.length + 1) ((rowT e).map AV.pv) = true := by cases e; rfl
      have hok := rowT_ok e
      generalize (rowT e).map AV.pv = row at hc hrl hri hok
      have h1 := h.push hri
      have g := get_last s.bs row
      obtain ⟨v, s', ⟨rfl, rfl⟩, hc'⟩ := m60 (R := R) (L := L) (s := s) (t0 := .agg row) (t1 := .ptr N 0) (Post := fun v s' => v = BB false ∧ s' = s) (by simp [noIdL, noId]) (p60_0 (bx_of (cs := row) rfl hok (ld_of (get_push hN row) rfl (ldk_of g hrl ⟨_, _, hc _ h1 _ hro, nt (by
        have := QM_read (rr := L.rr 60) h.ok (m := [row]) (p := .sc (.bool false)) (Post := fun v s' => v = BB false ∧ s' = s) ⟨rfl, rfl⟩
        simpa using this)⟩))))
      exact hc'
    · exact knowsL_spec l hk.2 (by omega) t h' s N h hN L hro
end
end
end Go.Proofs.YtcmeadgdojfhnaaGreatDoor
/-
  cloneDecl.
-/
namespace Go.Proofs.YtcmeadgdojfhnaaGreatDoor
open Go.Tel
attribute [local simp] wNew wBox wBoxZ markT wCond wBuild fillS wO setCells wSt wLd wPart LFE wFad alive wInt wStr wGK wGd wPick wExt wLen wSlen wNot wNil okI ceI okB ceB okS ceS okL ceL okC ceC okO ceO okP ceP okG ceG okE ceE okR ceR okF ceF okX ceX okM ceM okN ceN okNf ceNf okNi ceNi ceA roL roC roO leL leC leO tpP tpC tpO clP clC clO clF clA clT clN clL nbP nbC nbO nbN nbL toPVs
theorem bsl_row {n : Nat} {z b : List AV} {row : List PV} {s : Sto} {K : AV → Sto → Prop} (hz : z.length = n) (hb : b.length = n) (hn : n ≠ 0) (hn2 : n ≤ 2 ^ 20) (hok : b.all okCell = true) (hp : toPVs b = some row) (hr : row.length = n) (hK : K (.capped [row]) s) : wBsl false s n z 1 [(0, n, .agg b)] K := by
  refine ⟨⟨by omega, hz, hn⟩, ?_⟩
  have h1 : fillS (repl 1 z) [(0, n, .agg b)] = some b := by
    have e : repl 1 z = z := by simp [repl]
    simp only [e, fillS, ceA]
    rw [if_pos ⟨hb, by omega, hok⟩]
    have : ∀ (x y : List AV), x.length = y.length → setCells x 0 y = y := by
      intro x y h
      have : ∀ (y x p : List AV), x.length = y.length → setCells (p ++ x) p.length y = p ++ y := by
        intro y
        induction y with
        | nil => intro x p h; cases x with
          | nil => simp [setCells]
          | cons c x => simp at h
        | cons d y ih =>
          intro x p h
          cases x with
          | nil => simp at h
          | cons c x =>
            simp only [setCells]
            have e1 : (p ++ c :: x).set p.length d = (p ++ [d]) ++ x := by simp
            have := ih x (p ++ [d]) (by simpa using h)
            rw [e1]
            simpa using this
      simpa using this y x [] h
    rw [this z b (by omega)]
  rw [h1]
  simp only [wO, Bool.false_and, cond_false, hp]
  have : rowsBy n 1 row = [row] := by simp [rowsBy, List.take_of_length_le (Nat.le_of_eq hr)]
  rw [this]
  exact hK
theorem eqA_SS (w : List UInt8) : Tel.eqA (SS w) (SS w) = true := by simp [Tel.eqA, eqP, eqV_str]
theorem eqA_I64 (n : Int) : Tel.eqA (I64 n) (I64 n) = true := by simp [Tel.eqA, eqP, eqV_int]
theorem eqPL_rowF (f : Fd) : eqPL (rowF f) (rowF f) = true := by
  obtain ⟨w, ⟨k, n, i, ts⟩⟩ := f
  simp [rowF, rowT, eqPL, eqP, eqV_str, eqV_int, eqPLL_rows]
theorem eqPLL_rowsF : ∀ l : List Fd, eqPLL (rowsF l) (rowsF l) = true
  | [] => rfl
  | f :: l => by
    have := eqPLL_rowsF l
    simp only [rowsF, List.map_cons, eqPLL, eqPL_rowF, Bool.true_and] at this ⊢
    exact this
theorem ApdF_eqA {lo : Nat} {ts : List (Nat × Nat)} {k : Nat} {a : AV} {es : List Fd} (h : Apd lo ts k a (rowsF es)) : Tel.eqA a a = true := by
  rcases h with rfl | ⟨t, rfl, _⟩
  all_goals simp [Tel.eqA, eqPLL_rowsF]
theorem rowsF_row {l : List Fd} {r : List PV} (h : r ∈ rowsF l) : r.length = 5 := by
  simp only [rowsF, List.mem_map] at h
  obtain ⟨d, _, rfl⟩ := h
  exact rowF_len d
theorem rowsF_app (l m : List Fd) : rowsF (l ++ m) = rowsF l ++ rowsF m := by simp [rowsF]
theorem rowF_ok (f : Fd) : ((rowF f).map AV.pv).all okCell = true := by
  obtain ⟨w, ⟨k, n, i, ts⟩⟩ := f
  simp [rowF, rowT]
theorem app_fd {L : Lim} {s : Sto} {a : AV} {es : List Fd} {f : Fd} {K : AV → Sto → Prop} (ha : Apd 0 s.ts 71 a (rowsF es)) (hrt : L.rt = 0) (hl : es.length < 2 ^ 20) (h : ∀ a' ts', Apd 0 ts' 71 a' (rowsF (es ++ [f])) → K a' ⟨s.bs, ts'⟩) :
    wApp false L s 71 5 72 a (.capped [rowF f]) K := by
  have hl' : (rowsF es).length = es.length := rowsF_len es
  have := wApp_row (L := L) (bs := s.bs) (ts := []) (x := s.ts) (e := 71) (k := 5) (bytes := 72) (a := a) (rows := rowsF es) (row := rowF f) (K := K) (by simpa using ha) (by simp [hrt]) (fun r hr => rowsF_row hr) (rowF_len f) (by omega) (rowF_ok f) (by omega) (by omega) (fun a' x' h' => by
    have := h a' x' (by rw [rowsF_app]; simpa [rowsF] using h')
    simpa using this)
  simpa using this
section
variable {R : RT}
structure DSm (d : Dc) : Prop where
  su : size d.su < 2 ^ 38 ∧ vok d.su = true
  fs : ∀ f ∈ d.fs, size f.2 < 2 ^ 38 ∧ vok f.2 = true
  fl : d.fs.length ≤ 2
theorem DW.sm {d : Dc} (h : DW R d) : DSm d := ⟨⟨by have := h.su.sz; omega, h.su.vo⟩, fun f hf => ⟨by have := (h.fs f hf).2.sz; omega, (h.fs f hf).2.vo⟩, h.fl⟩
theorem cl_loop {d : Dc} (hd : DSm d) {fl : AV} (hf : RowsA fl (rowsF d.fs)) {k i : Int} {n : List UInt8} {ts : List Ty} (hsu : d.su = .mk k n i ts) {a : AV} (ha : RowsA a (rowsT ts)) :
    ∀ (j q : Nat) (s : Sto) (f' : AV), q + j = d.fs.length → s.bs[1]? = some Z8 → s.bs[2]? = some [SS d.nm, I64 d.ar, I64 k, SS n, I64 i, a, BB d.co, f'] → Apd 0 s.ts 71 f' (rowsF (d.fs.take q)) →
      P31_1 R 0 0 0 (.ptr 1 0) (.ptr 2 0) fl (I64 d.fs.length) (I64 q) s (QP fun r => DRep d r) := by
  have hfl := hd.fl
  have hco : okCell (BB d.co) = true := by cases d.co <;> rfl
  intro j
  induction j with
  | zero =>
    intro q s f' hq h1 h2 hA
    refine p31_1 (in_lss ?_)
    rw [decide_eq_false (by omega)]
    refine co_f (p31_3 (ldk_of h2 rfl (st_all h1 rfl rfl (by decide) (Nat.zero_le _) (by simp [ha.ok, hA.rowsO.ok, hco]) (.inl (Nat.zero_le _)) (ldk_of (get_self h1) rfl ?_))))
    rw [List.take_of_length_le (by omega)] at hA
    obtain ⟨f2, c1, c2⟩ := apd_closed hA (s.bs.set 1 [SS d.nm, I64 d.ar, I64 k, SS n, I64 i, a, BB d.co, f']) 0
    refine ⟨.agg [SS d.nm, I64 d.ar, I64 k, SS n, I64 i, a, BB d.co, f2], by simp [ha.close, c1], _, rfl, ?_⟩
    obtain ⟨nm, ar, su, co, fs⟩ := d
    simp only at hsu
    subst hsu
    exact ⟨a, f2, rfl, ha, c2⟩
  | succ j ih =>
    intro q s f' hq h1 h2 hA
    refine p31_1 (in_lss ?_)
    rw [decide_eq_true (by omega)]
    obtain ⟨f, hfq⟩ : ∃ f, d.fs[q]? = some f := ⟨_, List.getElem?_eq_getElem (by omega)⟩
    obtain ⟨hsz, hvk⟩ := hd.fs f (List.mem_of_getElem? hfq)
    have hC := cloneT_spec (R := R) hsz hvk (TRep.of_row f.2)
    refine co_t (p31_2 (wIdx_rows hf (row := rowF f) (by omega) (by simpa using rowsF_get hfq) (rowF_len _) (by omega) (ldrow (rowF_len _) ?_)))
    obtain ⟨w, ⟨k1, n1, i1, t1⟩⟩ := f
    obtain ⟨bs, tk⟩ := s
    simp only at h1 h2 hA
    have l1 := (List.getElem?_eq_some_iff.1 h1).1
    have l2 := (List.getElem?_eq_some_iff.1 h2).1
    refine new_of (st_all (old := Zf) (cs := [SS w, I64 k1, SS n1, I64 i1, .pv (.list (rowsT t1))]) (get_last _ _) rfl rfl (by decide) (Nat.zero_le _) (by simp) (.inl (Nat.zero_le _)) ?_)
    simp only [set_last]
    have g1 := get_push h1 [SS w, I64 k1, SS n1, I64 i1, .pv (.list (rowsT t1))]
    have g2 := get_push h2 [SS w, I64 k1, SS n1, I64 i1, .pv (.list (rowsT t1))]
    have g3 := get_last bs [SS w, I64 k1, SS n1, I64 i1, .pv (.list (rowsT t1))]
    refine fad_of (al_of g2) (ld_of g2 rfl (fad_of (al_of g3) (ld_of g3 rfl (fad_of (al_of g3) (ldp_of (ds := (rowT (.mk k1 n1 i1 t1)).map .pv) g3 (by simp) rfl (wCall_pure hC ?_))))))
    rintro r ⟨b, rfl, hb⟩
    refine bd_of (cs := [SS w, I64 k1, SS n1, I64 i1, b]) (by simp [fillS, setCells, ceS, ceA, okS, okI, hb.ok]) ?_
    refine bsl_row (row := rowF (w, .mk k1 n1 i1 t1)) rfl rfl (by omega) (by omega) (by simp [okS, okI, hb.ok]) (by simp [toPVs, tpP, hb.toPV, rowF, rowT]) rfl ⟨by decide, app_fd hA rfl (by rw [List.length_take]; omega) ?_⟩
    intro a' ts' hA'
    refine fad_of (al_of g2) (st_one g2 (by simp) hA'.rowsO.cells (Nat.zero_le _) hA'.rowsO.ok (.inl (Nat.zero_le _)) ?_)
    refine ⟨fad_of (al_of g2) (eqA_ptr _ _), ld_of g2 rfl (ApdF_eqA hA), fad_of (al_of g3) (eqA_ptr _ _), ld_of g3 rfl (eqA_SS _), p31_4 (in_add (by omega) (by omega) ?_)⟩
    have et : d.fs.take q ++ [(w, .mk k1 n1 i1 t1)] = d.fs.take (q + 1) := by rw [List.take_add_one, hfq]; rfl
    rw [et] at hA'
    have := ih (q + 1) ⟨(bs ++ [[SS w, I64 k1, SS n1, I64 i1, .pv (.list (rowsT t1))]]).set 2 [SS d.nm, I64 d.ar, I64 k, SS n, I64 i, a, BB d.co, a'], ts'⟩ a' (by omega) (get_set g1 (by decide)) (get_self g2) hA'
    simpa using this
theorem cloneDecl_spec {d : Dc} (hd : DSm d) {x : AV} (hx : DRep d x) : PureC (env R) 31 [x] fun r => DRep d r := by
  obtain ⟨cs, rfl, hc⟩ := hx
  obtain ⟨hok, hl8, hid, hcl, _⟩ := hc.ok
  have hlp := @cl_loop R d hd
  have hco : okCell (BB d.co) = true := by cases d.co <;> rfl
  have hC := fun y (hy : TRep d.su y) => cloneT_spec (R := R) hd.su.1 hd.su.2 hy
  obtain ⟨nm, ar, ⟨k, n, i, ts⟩, co, fs⟩ := d
  obtain ⟨a, fl, rfl, ha, hf⟩ := hc
  refine e31 (u0 := .agg [SS nm, I64 ar, I64 k, SS n, I64 i, a, BB co, fl]) (by simp [closeL, close, ha.close, hf.close]) (p31_0 ?_)
  refine bx_of (cs := [SS nm, I64 ar, I64 k, SS n, I64 i, a, BB co, fl]) rfl hok (new_of (ldk_of (cs := [SS nm, I64 ar, I64 k, SS n, I64 i, a, BB co, fl]) rfl rfl (new_of ?_)))
  refine st_all (old := Z8) (id := 2) rfl rfl rfl (by decide) (Nat.zero_le _) hok (.inl (Nat.zero_le _)) ?_
  refine fad_of rfl (ldp_of (cs := [SS nm, I64 ar, I64 k, SS n, I64 i, a, BB co, fl]) (ds := [I64 k, SS n, I64 i, a]) rfl (by simp) rfl (wCall_pure (hC _ ⟨a, rfl, ha⟩) ?_))
  rintro _ ⟨a', rfl, ha'⟩
  refine fad_of rfl (stp_of (old := [SS nm, I64 ar, I64 k, SS n, I64 i, a, BB co, fl]) (cs := [I64 k, SS n, I64 i, a']) (ds := [SS nm, I64 ar, I64 k, SS n, I64 i, a', BB co, fl]) rfl rfl rfl (by simp) (by decide) (Nat.zero_le _) (by simp [ha'.ok]) (.inl (Nat.zero_le _)) rfl ?_)
  refine fad_of rfl (stp_of (old := [SS nm, I64 ar, I64 k, SS n, I64 i, a', BB co, fl]) (cs := [.capped []]) (ds := [SS nm, I64 ar, I64 k, SS n, I64 i, a', BB co, .capped []]) rfl rfl rfl (by simp) (by decide) (Nat.zero_le _) (by rfl) (.inl (Nat.zero_le _)) rfl ?_)
  refine fad_of rfl (ld_of (cs := [SS nm, I64 ar, I64 k, SS n, I64 i, a, BB co, fl]) rfl rfl (len_of (n := fs.length) (by rw [hf.lenA, rowsF_len]) ?_))
  exact hlp hf rfl ha' fs.length 0 _ (.capped []) (by simp) rfl rfl (.inl rfl)
end
end Go.Proofs.YtcmeadgdojfhnaaGreatDoor
/-
  add.
-/
namespace Go.Proofs.YtcmeadgdojfhnaaGreatDoor
open Go.Tel
def tok : AV → Option Nat
  | .own t _ => some t
  | _ => none
def Chg (a a' : AV) (ts ts' : List (Nat × Nat)) : Prop := ts.length ≤ ts'.length ∧ (∀ t, t < ts.length → tok a ≠ some t → ts'[t]? = ts[t]?) ∧ (tok a' = tok a ∨ ∃ t, tok a' = some t ∧ ts.length ≤ t)
theorem Chg.refl (a : AV) (ts : List (Nat × Nat)) : Chg a a ts ts := ⟨Nat.le_refl _, fun _ _ _ => rfl, .inl rfl⟩
theorem wApp_k {L : Lim} {s : Sto} {e : Nat} {k bytes : Nat} {a y : AV} {rows m : List (List PV)} {K : AV → Sto → Prop} (ha : Apd 0 s.ts e a rows) (hrt : L.rt = 0) (hrows : ∀ r ∈ rows, r.length = k) (hm : ∀ r ∈ m, r.length = k) (hk : 0 < k)
    (hy : srcCells s k y = some (m.flatten.map .pv)) (hok : (m.flatten.map AV.pv).all okCell = true) (hb : (rows.length + m.length) * bytes ≤ 2 ^ 45) (hb2 : rows.length + m.length ≤ 2 ^ 45)
    (h : ∀ a' ts', Apd 0 ts' e a' (rows ++ m) → Chg a a' s.ts ts' → K a' ⟨s.bs, ts'⟩) : wApp false L s e k bytes a y K := by
  obtain ⟨bs, ts⟩ := s
  have hall : (rows.all fun r => r.length == k) = true := by grind
  unfold wApp
  rw [hy]
  have hfl := flatten_len m hm
  have hby := rowsBy_flatten m hm
  cases hc : m.flatten with
  | nil =>
    have hm0 : m = [] := by
      cases m with
      | nil => rfl
      | cons r m =>
        grind
    subst hm0
    have := h a ts (by grind) (Chg.refl _ _)
    rcases ha with rfl | ⟨t, rfl, h1, h2⟩ <;> simp[*,wO,rowsOf]
  | cons c cs =>
    have hmap : m.flatten.map AV.pv = .pv c :: cs.map .pv := by grind
    have hl : (AV.pv c :: cs.map .pv).length / k = m.length := by
      rw [← hmap, List.length_map, hfl, Nat.mul_div_cancel _ hk]
    have htp : toPVs (AV.pv c :: cs.map .pv) = some m.flatten := by grind[toPVs_map]
    rw [hmap] at hok
    simp only [wO, List.map_cons, hok, hl, htp, hby]
    refine ⟨trivial, ?_⟩
    rcases ha with rfl | ⟨t, rfl, h1, h2⟩
    · refine ⟨⟨hb, hb2, hall⟩, ?_⟩
      refine h (.own ts.length (rows ++ m)) (ts ++ [(rows.length + m.length, e)]) (.inr ⟨_, rfl, by simp, Nat.zero_le _⟩) ⟨by simp, fun t ht _ => ?_, .inr ⟨_, rfl, Nat.le_refl _⟩⟩
      rw [List.getElem?_append_left ht]
    · refine ⟨⟨hb, hb2, h1, by omega, hall⟩, ?_⟩
      have hlt : t < ts.length := (List.getElem?_eq_some_iff.1 h1).1
      refine h (.own t (rows ++ m)) (ts.set t (rows.length + m.length, e)) (.inr ⟨_, rfl, by grind, h2⟩) ⟨by simp, fun u hu hn => ?_, .inl rfl⟩
      rw [List.getElem?_set_ne]
      intro htu
      exact hn (by rw [htu]; rfl)
def Kp (n p b : Nat) (s s' : Sto) : Prop := n ≤ s'.bs.length ∧ ∀ j, j < n → j ≠ p → j ≠ b → s'.bs[j]? = s.bs[j]?
theorem take_get {α : Type} {l : List α} {n j : Nat} (h : j < n) : (l.take n)[j]? = l[j]? := by
  rw [List.getElem?_take]; simp [h]
theorem HS.cut {s s' : Sto} {p b : Nat} {Ds Ds' : List Dc} {a a' : AV} (h : HS s p b Ds a) (h' : HS s' p b Ds' a') (hk : Kp s.bs.length p b s s') : HS ⟨s'.bs.take s.bs.length, s'.ts⟩ p b Ds' a' ∧ (s'.bs.take s.bs.length).length = s.bs.length := by
  have hp := (List.getElem?_eq_some_iff.1 h.hb).1
  have hb := (List.getElem?_eq_some_iff.1 h.mp).1
  have hl : (s'.bs.take s.bs.length).length = s.bs.length := by rw [List.length_take]; have := hk.1; omega
  refine ⟨⟨?_, h'.ap, ?_, h'.nd, h'.ne, ?_, h'.ln⟩, hl⟩
  · show (s'.bs.take s.bs.length)[p]? = _
    rw [take_get hp]; exact h'.hb
  · show (s'.bs.take s.bs.length)[b]? = _
    rw [take_get hb]; exact h'.mp
  · intro c hc
    simp only at hc ⊢
    obtain ⟨j, hj⟩ := List.mem_iff_getElem?.1 hc
    have hjl : j < s.bs.length := by have := (List.getElem?_eq_some_iff.1 hj).1; omega
    rw [take_get hjl] at hj
    rw [hl]
    by_cases e1 : j = p
    · rw [e1, h'.hb] at hj
      cases hj
      simp [idsLtL, idsLt, h'.ap.rowsO.idsLt, hb]
    · by_cases e2 : j = b
      · rw [e2, h'.mp] at hj
        cases hj
        rfl
      · rw [hk.2 j hjl e1 e2] at hj
        exact h.ok c (List.mem_of_getElem? hj)
theorem QM_hs {rr : Bool} {s s' : Sto} {p b : Nat} {Ds Ds' : List Dc} {a a' : AV} (h : HS s p b Ds a) (h' : HS s' p b Ds' a') (hk : Kp s.bs.length p b s s') {v : PV} {Post : AV → Sto → Prop} (hP : HS ⟨s'.bs.take s.bs.length, s'.ts⟩ p b Ds' a' → Kp s.bs.length p b s ⟨s'.bs.take s.bs.length, s'.ts⟩ → Post (.pv v) ⟨s'.bs.take s.bs.length, s'.ts⟩) : QM rr s.bs.length Post (.pv v) s' := by
  obtain ⟨h1, h2⟩ := h.cut h' hk
  refine QM_pv ?_ (hP h1 ⟨by simp only [h2]; exact Nat.le_refl _, fun j hj e1 e2 => by
    show (s'.bs.take s.bs.length)[j]? = _
    rw [take_get hj]
    exact hk.2 j hj e1 e2⟩)
  rw [List.all_eq_true]
  intro c hc
  have := h1.ok c hc
  rwa [show (⟨s'.bs.take s.bs.length, s'.ts⟩ : Sto).bs.length = s.bs.length from h2] at this
theorem QM_hsu {rr : Bool} {s s' : Sto} {p b : Nat} {Ds Ds' : List Dc} {a a' : AV} (h : HS s p b Ds a) (h' : HS s' p b Ds' a') (hk : Kp s.bs.length p b s s') {Post : AV → Sto → Prop} (hP : HS ⟨s'.bs.take s.bs.length, s'.ts⟩ p b Ds' a' → Kp s.bs.length p b s ⟨s'.bs.take s.bs.length, s'.ts⟩ → (s'.bs.take s.bs.length).length = s.bs.length → Post (.tuple []) ⟨s'.bs.take s.bs.length, s'.ts⟩) : QM rr s.bs.length Post (.tuple []) s' := by
  obtain ⟨h1, h2⟩ := h.cut h' hk
  refine QM_tuple (ds := []) ?_ rfl (hP h1 ⟨by simp only [h2]; exact Nat.le_refl _, fun j hj e1 e2 => by
    show (s'.bs.take s.bs.length)[j]? = _
    rw [take_get hj]
    exact hk.2 j hj e1 e2⟩ h2)
  rw [List.all_eq_true]
  intro c hc
  have := h1.ok c hc
  rwa [show (⟨s'.bs.take s.bs.length, s'.ts⟩ : Sto).bs.length = s.bs.length from h2] at this
theorem rowD_ok (d : Dc) : ((rowD d).map AV.pv).all okCell = true := by
  obtain ⟨cs, hcs, hd⟩ := DRep.of_row d
  cases hcs
  exact hd.ok.1
theorem DcC.toPV {d : Dc} {cs : List AV} (h : DcC d cs) : toPVs cs = some (rowD d) := by
  obtain ⟨nm, ar, ⟨k, n, i, ts⟩, co, fs⟩ := d
  obtain ⟨a, fl, rfl, ha, hf⟩ := h
  simp [toPVs, tpP, ha.toPV, hf.toPV, rowD, rowT]
theorem app_dK {L : Lim} {s : Sto} {a : AV} {es : List Dc} {d : Dc} {K : AV → Sto → Prop} (ha : Apd 0 s.ts 36 a (rowsD es)) (hrt : L.rt = 0) (hl : es.length < 2 ^ 20) (h : ∀ a' ts', Apd 0 ts' 36 a' (rowsD (es ++ [d])) → Chg a a' s.ts ts' → K a' ⟨s.bs, ts'⟩) :
    wApp false L s 36 8 112 a (.capped [rowD d]) K := by
  have hl' := rowsD_len es
  have hm : ∀ r ∈ [rowD d], r.length = 8 := by simp [rowD_len]
  refine wApp_k (m := [rowD d]) ha hrt (fun r hr => rowsD_row hr) hm (by omega) (srcCells_rows (.inl (.capped _)) hm) (by simpa using rowD_ok d) (by simp; omega) (by simp; omega) fun a' ts' h1 h2 => h a' ts' ?_ h2
  rw [rowsD_app]
  exact h1
section
variable {R : RT} {p b : Nat} {Ds : List Dc} {a : AV}
theorem hadd_spec {s : Sto} (h : HS s p b Ds a) {d : Dc} {x : AV} (hx : DRep d x) (hn : d.nm ∉ Ds.map (·.nm)) (hl : Ds.length < 60) {L : Lim} (hro : L.ro = 0) (hrt : L.rt = 0) : ∃ v s', (v = .tuple [] ∧ s'.bs.length = s.bs.length ∧ Kp s.bs.length p b s s' ∧ ∃ a', HS s' p b (Ds ++ [d]) a') ∧ CallE (env R) L 27 [.ptr p 0, x] s v s' := by
  obtain ⟨cs, rfl, hc⟩ := hx
  obtain ⟨hok, hl8, hid, _, _⟩ := hc.ok
  have h1 := h.push (hid (s.bs.length + 1))
  have hp := (List.getElem?_eq_some_iff.1 h.hb).1
  have hb := (List.getElem?_eq_some_iff.1 h.mp).1
  have g := get_last s.bs cs
  obtain ⟨c0, cr, hcs⟩ : ∃ c r, cs = c :: r := by
    cases cs with
    | nil => simp at hl8
    | cons c r => exact ⟨_, _, rfl⟩
  have al : alive ⟨s.bs ++ [cs], s.ts⟩ s.bs.length = true := by rw [hcs]; exact al_of (get_last _ _)
  have c0 : cs[0]? = some (SS d.nm) := by
    obtain ⟨nm, ar, ⟨k, n, i, ts⟩, co, fs⟩ := d
    obtain ⟨a, fl, rfl, _⟩ := hc
    rfl
  have hlen : (rowsD Ds).length = Ds.length := rowsD_len Ds
  refine m27 (by rfl) (p27_0 (bx_of (cs := cs) rfl hok ?_))
  refine nil_of (al_of h1.hb) (fad_of (al_of h1.hb) (ld_of h1.hb rfl ?_))
  refine fad_of al (ld_of g c0 ?_)
  refine nil_of (al_of h1.hb) (fad_of (al_of h1.hb) (ld_of h1.hb rfl (len_of (n := Ds.length) (by rw [h1.ap.rowsO.lenA, hlen]) ?_)))
  refine wAnyT_upd (w := d.nm) (id := b) (xv := I64 Ds.length) (v := .int .i64 Ds.length) (t := 61) (m := .tmp 7) (k := .tmp 9) (x := .tmp 14) (by kernel_rfl) (kt := 9) (el := 3) (by kernel_rfl) (by kernel_rfl) rfl rfl rfl rfl h1.mp (mkE_none _ _ _ hn) (by simp [LFE, hro]) ?_
  have hne := h.ne
  generalize hM : ([AV.mobj (mkE (fun i => .int .i64 i) 0 (Ds.map (·.nm)) ++ [{ key := .string ⟨d.nm.toArray⟩, val := .int .i64 Ds.length, born := (Ds.map (·.nm)).length }]) ((Ds.map (·.nm)).length + 1)]) = M
  have q1 : ((s.bs ++ [cs]).set b M)[p]? = some [a, .mref b] := get_set h1.hb (Ne.symm hne)
  have q2 : ((s.bs ++ [cs]).set b M)[s.bs.length]? = some cs := get_set g (by omega)
  refine nil_of (al_of q1) (fad_of (al_of q1) (ld_of q1 rfl (ldk_of q2 hl8 ?_)))
  refine bsl_row (row := rowD d) rfl hl8 (by omega) (by omega) hok hc.toPV (rowD_len d) ⟨by decide, app_dK h.ap (by simp [LFE, hrt]) (by omega) ?_⟩
  intro a' ts' hA _
  refine nil_of (al_of q1) (fad_of (al_of q1) (st_one q1 (by simp) hA.rowsO.cells (by simp [LFE, hro]) hA.rowsO.ok (.inl (Nat.zero_le _)) ?_))
  simp only [List.set_cons_zero, Nat.add_zero]
  have q3 : (((s.bs ++ [cs]).set b M).set p [a', .mref b])[p]? = some [a', .mref b] := get_self q1
  have hfin : HS ⟨((s.bs ++ [cs]).set b M).set p [a', .mref b], ts'⟩ p b (Ds ++ [d]) a' := by
    refine ⟨q3, hA, ?_, ?_, hne, ?_, by simp; omega⟩
    · unfold MapAt
      rw [List.map_append, List.map_cons, List.map_nil, mkE_snoc]
      show (((s.bs ++ [cs]).set b M).set p [a', .mref b])[b]? = _
      rw [get_set (c := M) (get_self h1.mp) hne, ← hM]
      simp
    · rw [List.map_append, List.nodup_append]
      refine ⟨h.nd, by simp, fun u hu w hw => ?_⟩
      simp only [List.map_cons, List.map_nil, List.mem_singleton] at hw
      subst hw
      exact fun e => hn (e ▸ hu)
    · have o1 := OkS.set (s := ⟨s.bs ++ [cs], s.ts⟩) h1.ok (j := b) (c := M) (by rw [← hM]; rfl) s.ts
      exact OkS.set (s := ⟨(s.bs ++ [cs]).set b M, s.ts⟩) o1 (j := p) (c := [a', .mref b]) (by simp [idsLtL, idsLt, hA.rowsO.idsLt]; omega) ts'
  refine QM_hsu h hfin ⟨by simp, fun j hj e1 e2 => ?_⟩ fun k1 k2 k3 => ⟨rfl, k3, k2, a', k1⟩
  show (((s.bs ++ [cs]).set b M).set p [a', .mref b])[j]? = _
  rw [List.getElem?_set_ne (Ne.symm e1), List.getElem?_set_ne (Ne.symm e2), List.getElem?_append_left hj]
end
end Go.Proofs.YtcmeadgdojfhnaaGreatDoor
/-
  Declare, where it succeeds.
-/
namespace Go.Proofs.YtcmeadgdojfhnaaGreatDoor
open Go.Tel
structure DOk (R : RT) (Ds : List Dc) (d : Dc) : Prop where
  wf : DW R d
  new : d.nm ∉ Ds.map (·.nm)
  su : kn Ds d.su
  fs : ∀ f ∈ d.fs, kn (Ds ++ [d]) f.2
  ab : ∀ n ts, d.su = .mk 2 n 0 ts → ∃ (q : Nat) (e : Dc), Ds[q]? = some e ∧ e.nm = n ∧ e.co = false
  nil : [] ∉ (Ds ++ [d]).map (·.nm)
section
variable {R : RT} {p b : Nat} {Ds : List Dc} {a : AV}
theorem idx_allF {f : FuncId} {cs : List AV} {fs : List Fd} {y : AV} (hy : RowsA y (rowsF fs)) (hl : fs.length < 2 ^ 60) {s : Sto} {n0 rt : Nat} (hf : ∀ t ∈ fs, ∀ L : Lim, L.ro = 0 → CallE (env R) L f (.agg ((rowF t).map .pv) :: cs) s (BB false) s) {QR : QT} (hP : QR (I64 (-1)) s) :
    ∀ (j q : Nat), q + j = fs.length → P62_1 R n0 0 rt y (.func (.func f) [] cs) (I64 fs.length) (I64 q) s QR := by
  intro j
  induction j with
  | zero =>
    intro q hi
    refine p62_1 (in_lss ?_)
    rw [decide_eq_false (by omega)]
    exact co_f (p62_3 hP)
  | succ j ihj =>
    intro q hi
    refine p62_1 (in_lss ?_)
    rw [decide_eq_true (by omega)]
    obtain ⟨t, ht⟩ : ∃ t, fs[q]? = some t := ⟨_, List.getElem?_eq_getElem (by omega)⟩
    refine co_t (p62_2 (wIdx_rows hy (row := rowF t) (by omega) (by simpa using rowsF_get ht) (rowF_len t) (by omega) (ldrow (rowF_len t) ⟨BB false, s, hf t (List.mem_of_getElem? ht) _ rfl, ?_⟩)))
    refine co_f (p62_4 (in_add (by omega) (by omega) ?_))
    have := ihj (q + 1) (by omega)
    simpa using this
theorem contains_noF {f : FuncId} {cs : List AV} {fs : List Fd} {y : AV} (hy : RowsA y (rowsF fs)) (hl : fs.length < 2 ^ 60) {s : Sto} (hs : OkS s) (hcs : noIdL cs = false) (hf : ∀ t ∈ fs, ∀ L : Lim, L.ro = 0 → CallE (env R) L f (.agg ((rowF t).map .pv) :: cs) s (BB false) s) {L : Lim} (hro : L.ro = 0) :
    CallE (env R) L 32 [y, .func (.func f) [] cs] s (BB false) s := by
  have hi : ∀ L : Lim, L.ro = 0 → CallE (env R) L 62 [y, .func (.func f) [] cs] s (I64 (-1)) s := by
    intro L hL
    refine rdc (m62 (R := R) (L := L) (s := s) (t0 := y) (t1 := .func (.func f) [] cs) (by simp [noIdL, noId, hcs]) (p62_0 (len_of (n := fs.length) (by rw [hy.lenA, rowsF_len]) ?_)))
    rw [hL]
    refine idx_allF hy hl hf ?_ fs.length 0 (by omega)
    have := QM_read (rr := L.rr 62) hs (m := []) (p := .sc (.int .i64 (-1))) (Post := fun v s' => v = I64 (-1) ∧ s' = s) ⟨rfl, rfl⟩
    simpa using this
  refine rdc (m32 (R := R) (L := L) (s := s) (t0 := y) (t1 := .func (.func f) [] cs) (by simp [noIdL, noId, hcs]) (p32_0 ⟨_, _, hi _ hro, in_geq ?_⟩))
  have := QM_read (rr := L.rr 32) hs (m := []) (p := .sc (.bool false)) (Post := fun v s' => v = BB false ∧ s' = s) ⟨rfl, rfl⟩
  simpa using this
theorem fknows {f : Fd} (hk : kn Ds f.2) (hz : size f.2 < 2 ^ 38) {s : Sto} {N : Nat} (h : HS s p b Ds a) (hN : s.bs[N]? = some [.ptr p 0]) {L : Lim} (hro : L.ro = 0) : CallE (env R) L 33 [.agg ((rowF f).map .pv), .ptr N 0] s (BB false) s := by
  have hc := knows_spec (R := R) (p := p) (b := b) (a := a) f.2 hk hz _ (TRep.of_row f.2)
  obtain ⟨w, ⟨k, n, i, ts⟩⟩ := f
  have h1 := h.push (c := (rowF (w, .mk k n i ts)).map AV.pv) (by rfl)
  have g := get_last s.bs ((rowF (w, .mk k n i ts)).map AV.pv)
  have hN' := get_push hN ((rowF (w, .mk k n i ts)).map AV.pv)
  refine rdc (m33 (R := R) (L := L) (s := s) (t0 := .agg ((rowF (w, .mk k n i ts)).map .pv)) (t1 := .ptr N 0) (by rfl) (p33_0 (bx_of (cs := (rowF (w, .mk k n i ts)).map AV.pv) rfl (rowF_ok _) (ld_of hN' rfl (fad_of (al_of g) (ldp_of (ds := (rowT (.mk k n i ts)).map .pv) g (by simp [rowF_len]) rfl ⟨_, _, hc _ h1 _ hro, nt ?_⟩))))))
  have := QM_read (rr := L.rr 33) h.ok (m := [(rowF (w, .mk k n i ts)).map AV.pv]) (p := .sc (.bool false)) (Post := fun v s' => v = BB false ∧ s' = s) ⟨rfl, rfl⟩
  simpa using this
theorem declare_spec {s : Sto} (h : HS s p b Ds a) {d : Dc} (hd : DOk R Ds d) (hl : Ds.length < 60) {x : AV} (hx : DRep d x) {L : Lim} (hro : L.ro = 0) (hrt : L.rt = 0) : ∃ v s', (v = I64 0 ∧ s'.bs.length = s.bs.length ∧ Kp s.bs.length p b s s' ∧ ∃ a', HS s' p b (Ds ++ [d]) a') ∧ CallE (env R) L 16 [.ptr p 0, x] s v s' := by
  obtain ⟨cs, rfl, hc⟩ := hx
  obtain ⟨hok, hl8, hid, _, _⟩ := hc.ok
  have hW := wellFormed_spec hd.wf ⟨cs, rfl, hc⟩
  have hCl := cloneDecl_spec (R := R) (hd.wf.sm) ⟨cs, rfl, hc⟩
  have hp := (List.getElem?_eq_some_iff.1 h.hb).1
  have hbl := (List.getElem?_eq_some_iff.1 h.mp).1
  have hsz := hd.wf.su.sz
  have h1 := h.push (c := [.ptr p 0]) (by simp [idsLtL, idsLt]; omega)
  have h2 := h1.push (hid _)
  have h3 := h2.push (c := Z8) (by rfl)
  have g0 := get_last s.bs [.ptr p 0]
  have g1 := get_last (s.bs ++ [[AV.ptr p 0]]) cs
  have g0' := get_push g0 cs
  have k0 := get_push g0' Z8
  have k1 := get_push g1 Z8
  have k2 := get_last (s.bs ++ [[AV.ptr p 0]] ++ [cs]) Z8
  have harl := hd.wf.ar
  have hfll := hd.wf.fl
  obtain ⟨c0, cr, hcs⟩ : ∃ c r, cs = c :: r := by
    cases cs with
    | nil => simp at hl8
    | cons c r => exact ⟨_, _, rfl⟩
  obtain ⟨kk, nn, ii, tt, hsu⟩ : ∃ k n i ts, d.su = .mk k n i ts := by
    cases d.su with
    | mk k n i ts => exact ⟨_, _, _, _, rfl⟩
  have hcells : ∃ y fl, cs = [SS d.nm, I64 d.ar, I64 kk, SS nn, I64 ii, y, BB d.co, fl] ∧ RowsA y (rowsT tt) ∧ RowsA fl (rowsF d.fs) := by
    unfold DcC at hc
    rw [hsu] at hc
    exact hc
  obtain ⟨y, fl, hce, hy, hfl⟩ := hcells
  have hsup : TRep d.su (.agg [I64 kk, SS nn, I64 ii, y]) := by rw [hsu]; exact ⟨y, rfl, hy⟩
  have hK := knows_spec (R := R) (p := p) (b := b) (a := a) d.su hd.su (by omega) _ hsup
  have al : ∀ {bs : List (List AV)} {ts : List (Nat × Nat)} {j : Nat}, bs[j]? = some cs → alive ⟨bs, ts⟩ j = true := by
    intro bs ts j hj
    rw [hcs] at hj
    exact al_of hj
  have e0 : cs[0]? = some (SS d.nm) := by rw [hce]; rfl
  have e1 : cs[1]? = some (I64 d.ar) := by rw [hce]; rfl
  have e2 : cs[2]? = some (I64 kk) := by rw [hce]; rfl
  have e3 : cs[3]? = some (SS nn) := by rw [hce]; rfl
  have e7 : cs[7]? = some fl := by rw [hce]; rfl
  refine m16 (by rfl) (p16_0 (bx_of (cs := [.ptr p 0]) rfl (by rfl) (bx_of (cs := cs) rfl hok ?_)))
  refine ld_of g0' rfl (fad_of (al g1) (ld_of g1 e0 ⟨_, _, find_none h2 hd.new (by simp [LFE, hro]), ex_of rfl (ex_of rfl (new_of ?_))⟩))
  refine st_all k2 rfl rfl (by decide) (by simp [LFE, hro]) (by rfl) (.inl (Nat.zero_le _)) ?_
  simp only [set_last]
  refine ldk_of k1 hl8 (wCall_pure hW ?_)
  rintro _ rfl
  refine nt (co_f ?_)
  refine fad_of (al k1) (ld_of k1 e1 (in_gtr ?_))
  rw [decide_eq_false (by omega)]
  refine gk_t (fad_of (al k1) (gk_t (ld_of k1 e7 (gk_t (len_of (n := d.fs.length) (by rw [hfl.lenA, rowsF_len]) (gk_t (in_gtr ?_)))))))
  rw [decide_eq_false (by omega)]
  refine pk (co_f (gk_ft (gk_ft (gk_ft (pk (co_f (co_f ?_)))))))
  refine ld_of k0 rfl (nil_of (al_of h3.hb) (fad_of (al_of h3.hb) (ld_of h3.hb rfl (len_of (n := Ds.length) (by rw [h3.ap.rowsO.lenA, rowsD_len]) (in_geq ?_)))))
  rw [decide_eq_false (by omega)]
  refine co_f (ld_of k0 rfl (fad_of (al k1) (ldp_of (ds := [I64 kk, SS nn, I64 ii, y]) k1 (by omega) (by rw [hce]; rfl) ⟨_, _, hK _ h3 _ (by simpa [LFE] using hro), nt (co_f ?_)⟩)))
  refine p16_1 (ld_of k0 rfl (ldk_of k1 hl8 (wCall_pure hCl ?_)))
  intro x' hx'
  refine wCall_do (hadd_spec h3 hx' hd.new hl (L := LFE (env R) 16 0 L.ro L.rt) (by simpa [LFE] using hro) (by simpa [LFE] using hrt)) ?_
  rintro v s4 ⟨rfl, hl4, ⟨_, hk4⟩, a', h4⟩
  refine ⟨ld_of k0 rfl (eqA_ptr _ _), ?_⟩
  have hlen3 : (s.bs ++ [[AV.ptr p 0]] ++ [cs] ++ [Z8]).length = s.bs.length + 3 := by simp
  have m0 : s4.bs[s.bs.length]? = some [.ptr p 0] := by
    rw [hk4 _ (by simp only [hlen3]; omega) (by omega) (by omega)]; exact k0
  have m1 : s4.bs[(s.bs ++ [[AV.ptr p 0]]).length]? = some cs := by
    rw [hk4 _ (by simp only [hlen3, List.length_append, List.length_cons, List.length_nil]; omega) (by simp; omega) (by simp; omega)]; exact k1
  refine fad_of (al m1) (ld_of m1 e7 ⟨_, _, contains_noF (R := R) (f := 33) (cs := [.ptr s.bs.length 0]) hfl (by omega) h4.ok rfl (fun f hf L hL => fknows (hd.fs f hf) (by have := (hd.wf.fs f hf).2.sz; omega) h4 m0 hL) (by simpa [LFE] using hro), co_f ?_⟩)
  have hkp : Kp s.bs.length p b s s4 := by
    refine ⟨by rw [hl4]; simp only [hlen3]; omega, fun j hj j1 j2 => ?_⟩
    rw [hk4 j (by simp only [hlen3]; omega) j1 j2]
    simp only [List.append_assoc]
    rw [List.getElem?_append_left hj]
  have fin : ∀ (c : List AV), idsLtL (s4.bs.length + 1) c = true → P16_3 R 0 L.ro L.rt ⟨s4.bs ++ [c], s4.ts⟩ (QM (L.rr 16) s.bs.length fun v s' => v = I64 0 ∧ s'.bs.length = s.bs.length ∧ Kp s.bs.length p b s s' ∧ ∃ a', HS s' p b (Ds ++ [d]) a') := by
    intro c hcc
    have h5 := h4.push hcc
    have hkp' : Kp s.bs.length p b s ⟨s4.bs ++ [c], s4.ts⟩ := ⟨by have := hkp.1; simp; omega, fun j hj j1 j2 => by
      show (s4.bs ++ [c])[j]? = _
      rw [List.getElem?_append_left (by have := hkp.1; omega)]
      exact hkp.2 j hj j1 j2⟩
    exact p16_3 (QM_hs h h5 hkp' (v := .sc (.int .i64 0)) fun q1 q2 => ⟨rfl, (h.cut h5 hkp').2, q2, a', q1⟩)
  refine p16_2 (ld_of m0 rfl (fad_of (al m1) (fad_of (al m1) (ld_of m1 e3 ?_))))
  have hsk := hd.wf.sk
  rw [hsu] at hsk
  rcases hsk with hsk | ⟨n', ts', hsk⟩
  · simp only [Ty.mk.injEq] at hsk
    obtain ⟨rfl, rfl, rfl, rfl⟩ := hsk
    refine ⟨_, _, find_none h4 hd.nil (by simp [LFE, hro]), ex_of rfl (ex_of rfl (new_of ?_))⟩
    refine st_all (get_last _ _) rfl rfl (by decide) (by simp [LFE, hro]) (by rfl) (.inl (Nat.zero_le _)) ?_
    simp only [set_last]
    have m1' := get_push m1 Z8
    refine fad_of (al m1') (fad_of (al m1') (ld_of m1' e2 (in_eql ?_)))
    exact gk_ft (gk_ft (pk (co_f (fin _ rfl))))
  · simp only [Ty.mk.injEq] at hsk
    obtain ⟨rfl, rfl, rfl, rfl⟩ := hsk
    obtain ⟨q, e, hq, hen, hec⟩ := hd.ab _ _ hsu
    have hq' : (Ds ++ [d])[q]? = some e := by rw [List.getElem?_append_left (List.getElem?_eq_some_iff.1 hq).1]; exact hq
    have hF := find_some (R := R) h4 hq' (L := LFE (env R) 16 0 L.ro L.rt) (by simp [LFE, hro])
    rw [hen] at hF
    refine ⟨_, _, hF, ex_of rfl (ex_of rfl (new_of ?_))⟩
    obtain ⟨es, hes, hed⟩ := DRep.of_row e
    cases hes
    obtain ⟨w1, w2, _⟩ := hed.ok
    have e6 : ((rowD e).map AV.pv)[6]? = some (BB e.co) := by
      obtain ⟨nm, ar, ⟨k, n, i, ts⟩, co, fs⟩ := e
      rfl
    obtain ⟨u0, ur, hur⟩ : ∃ c r, (rowD e).map AV.pv = c :: r := ⟨_, _, rfl⟩
    refine st_all (get_last _ _) w2 rfl (by decide) (by simp [LFE, hro]) w1 (.inl (Nat.zero_le _)) ?_
    simp only [set_last]
    have m1' := get_push m1 ((rowD e).map AV.pv)
    have m2' := get_last s4.bs ((rowD e).map AV.pv)
    have al2 : alive ⟨s4.bs ++ [(rowD e).map AV.pv], s4.ts⟩ s4.bs.length = true := by
      rw [hur]; exact al_of (get_last _ _)
    refine fad_of (al m1') (fad_of (al m1') (ld_of m1' e2 (in_eql ?_)))
    refine gk_t (fad_of al2 (gk_t (ld_of m2' e6 (pk ?_))))
    rw [hec]
    exact co_f (fin _ (hed.ok.2.2.1 _))
end
end Go.Proofs.YtcmeadgdojfhnaaGreatDoor
/-
  Decls, IsAncestor.
-/
namespace Go.Proofs.YtcmeadgdojfhnaaGreatDoor
open Go.Tel
def KeepT (ts ts' : List (Nat × Nat)) : Prop := ts.length ≤ ts'.length ∧ ∀ t, t < ts.length → ts'[t]? = ts[t]?
theorem KeepT.refl (ts : List (Nat × Nat)) : KeepT ts ts := ⟨Nat.le_refl _, fun _ _ => rfl⟩
theorem KeepT.trans {a b c : List (Nat × Nat)} (h : KeepT a b) (h' : KeepT b c) : KeepT a c := ⟨Nat.le_trans h.1 h'.1, fun t ht => by rw [h'.2 t (by have := h.1; omega), h.2 t ht]⟩
def Fresh (b : AV) (ts : List (Nat × Nat)) : Prop := ∀ t, tok b = some t → ts.length ≤ t
theorem Chg.keepT {a a' : AV} {ts0 ts ts' : List (Nat × Nat)} (h : Chg a a' ts ts') (hf : Fresh a ts0) (hk : KeepT ts0 ts) : KeepT ts0 ts' ∧ Fresh a' ts0 := by
  obtain ⟨h1, h2, h3⟩ := h
  refine ⟨⟨Nat.le_trans hk.1 h1, fun t ht => ?_⟩, fun t ht => ?_⟩
  · rw [h2 t (by have := hk.1; omega) fun e => by have := hf t e; omega, hk.2 t ht]
  · rcases h3 with h3 | ⟨u, h3, h4⟩
    · exact hf t (by rw [← h3, ht])
    · rw [h3] at ht
      cases ht
      have := hk.1
      omega
theorem Apd.keepT {ts ts' : List (Nat × Nat)} {k : Nat} {a : AV} {rows : List (List PV)} (h : Apd 0 ts k a rows) (hk : KeepT ts ts') : Apd 0 ts' k a rows := by
  rcases h with rfl | ⟨t, rfl, h1, h2⟩
  · exact .inl rfl
  · exact .inr ⟨t, rfl, by rw [hk.2 t (List.getElem?_eq_some_iff.1 h1).1, h1], h2⟩
theorem HS.keepT {s s' : Sto} {p b : Nat} {Ds : List Dc} {a : AV} (h : HS s p b Ds a) (hb : s'.bs = s.bs) (hk : KeepT s.ts s'.ts) : HS s' p b Ds a :=
  ⟨by rw [hb]; exact h.hb, Apd.keepT h.ap hk, by rw [hb]; exact h.mp, h.nd, h.ne, fun c hc => by rw [hb] at hc ⊢; exact h.ok c hc, h.ln⟩
theorem QM_apdD {rr : Bool} {k : Nat} {rows : List (List PV)} {v : AV} {s0 : Sto} {m : List (List AV)} {ts : List (Nat × Nat)} {Post : AV → Sto → Prop} (h0 : OkS s0) (hv : Apd 0 ts k v rows) (hP : Post v ⟨s0.bs, ts⟩) : QM rr s0.bs.length Post v ⟨s0.bs ++ m, ts⟩ := by
  have hT : (s0.bs ++ m).take s0.bs.length = s0.bs := by simp
  have hall : ((s0.bs ++ m).take s0.bs.length).all (idsLtL s0.bs.length) = true := by
    rw [hT, List.all_eq_true]; exact h0
  have hal : s0.bs.all (idsLtL s0.bs.length) = true := by rw [List.all_eq_true]; exact h0
  rcases hv with rfl | ⟨t, rfl, h1, _⟩
  · refine ⟨.capped rows, ⟨s0.bs, ts⟩, ?_, hP⟩
    simp only [keepA, hall, hT, cond_true]
    simp [newRef, close, hal]
  · have ht : t < ts.length := (List.getElem?_eq_some_iff.1 h1).1
    refine ⟨.own t rows, ⟨s0.bs, ts⟩, ?_, hP⟩
    simp only [keepA, hall, hT, cond_true]
    simp [newRef, close, ht, hal]
theorem find_at {Ds : List Dc} (hn : (Ds.map (·.nm)).Nodup) {q : Nat} {e : Dc} (hq : Ds[q]? = some e) : Ds.find? (fun d => d.nm == e.nm) = some e := by
  induction Ds generalizing q with
  | nil => simp at hq
  | cons d l ih =>
    obtain ⟨h1, h2⟩ := List.nodup_cons.1 hn
    cases q with
    | zero =>
      simp only [List.getElem?_cons_zero, Option.some.injEq] at hq
      subst hq
      simp
    | succ q =>
      simp only [List.getElem?_cons_succ] at hq
      have : d.nm ≠ e.nm := fun h => h1 (by
        simp only [List.mem_map]
        exact ⟨e, List.mem_of_getElem? hq, h.symm⟩)
      rw [List.find?_cons_of_neg (by simpa using this)]
      exact ih h2 hq
def Tree (Ds : List Dc) : Prop := ∀ (q : Nat) (e : Dc), Ds[q]? = some e → e.su = .mk 0 [] 0 [] ∨ ∃ n ts q' e', e.su = .mk 2 n 0 ts ∧ Ds[q']? = some e' ∧ e'.nm = n ∧ q' < q ∧ e'.ar = ts.length ∧ (∀ t ∈ ts, size t ≤ 3) ∧ vokL ts = true
def up (Ds : List Dc) (nm : List UInt8) : Nat → Dc → Bool
  | 0, _ => false
  | f + 1, e => e.nm == nm || (match e.su with | .mk k n _ _ => k == 2 && (match Ds.find? (fun d => d.nm == n) with | some d => up Ds nm f d | none => false))
section
variable {R : RT} {p b : Nat} {Ds : List Dc} {a : AV}
theorem hdecls_loop {s0 : Sto} (h0 : HS s0 p b Ds a) (hd : ∀ d ∈ Ds, DSm d) {L : Lim} (hro : L.ro = 0) (hrt : L.rt = 0) {Post : AV → Sto → Prop} (hP : ∀ v s', RowsO v (rowsD Ds) → s'.bs = s0.bs → KeepT s0.ts s'.ts → Post v s') :
    ∀ (j q : Nat) (m : List (List AV)) (ts : List (Nat × Nat)) (v : AV), q + j = Ds.length → Apd 0 ts 36 v (rowsD (Ds.take q)) → Fresh v s0.ts → KeepT s0.ts ts → P19_1 R 0 L.ro L.rt v a (I64 Ds.length) (I64 q) ⟨s0.bs ++ m, ts⟩ (QM (L.rr 19) s0.bs.length Post) := by
  have hl := h0.ln
  intro j
  induction j with
  | zero =>
    intro q m ts v hq hA hF hK
    refine p19_1 (in_lss ?_)
    rw [decide_eq_false (by omega)]
    rw [List.take_of_length_le (by omega)] at hA
    exact co_f (p19_3 (QM_apdD h0.ok hA (hP v _ hA.rowsO rfl hK)))
  | succ j ih =>
    intro q m ts v hq hA hF hK
    refine p19_1 (in_lss ?_)
    rw [decide_eq_true (by omega)]
    obtain ⟨d, hdq⟩ : ∃ d, Ds[q]? = some d := ⟨_, List.getElem?_eq_getElem (by omega)⟩
    have hC := cloneDecl_spec (R := R) (hd d (List.mem_of_getElem? hdq)) (DRep.of_row d)
    obtain ⟨es, hes, hed⟩ := DRep.of_row d
    cases hes
    obtain ⟨w1, w2, _⟩ := hed.ok
    refine co_t (p19_2 (wIdx_rowsO h0.ap.rowsO (row := rowD d) (i := (q : Int)) (by omega) (by simpa using rowsD_get hdq) (rowD_len d) (by omega) (ldrow (rowD_len d) (new_of ?_))))
    refine st_all (get_last _ _) w2 rfl (by decide) (by simp [LFE, hro]) w1 (.inl (Nat.zero_le _)) ?_
    simp only [set_last]
    refine ldk_of (get_last _ _) w2 (wCall_pure hC ?_)
    rintro x ⟨cs, rfl, hcs⟩
    obtain ⟨v1, v2, _⟩ := hcs.ok
    refine bsl_row (row := rowD d) rfl v2 (by omega) (by omega) v1 hcs.toPV (rowD_len d) ⟨by decide, app_dK hA (by simp [LFE, hrt]) (by rw [List.length_take]; omega) ?_⟩
    intro a' ts' hA' hch
    obtain ⟨hK', hF'⟩ := Chg.keepT hch hF hK
    refine p19_4 (in_add (by omega) (by omega) ?_)
    have et : Ds.take q ++ [d] = Ds.take (q + 1) := by rw [List.take_add_one, hdq]; rfl
    rw [et] at hA'
    have := ih (q + 1) (m ++ [(rowD d).map AV.pv]) ts' a' (by omega) hA' hF' hK'
    simpa using this
theorem hdecls_spec {s : Sto} (h : HS s p b Ds a) (hd : ∀ d ∈ Ds, DSm d) {L : Lim} (hro : L.ro = 0) (hrt : L.rt = 0) : ∃ v s', (RowsO v (rowsD Ds) ∧ s'.bs = s.bs ∧ KeepT s.ts s'.ts) ∧ CallE (env R) L 19 [.ptr p 0] s v s' := by
  refine m19 (by rfl) (p19_0 (nil_of (al_of h.hb) (fad_of (al_of h.hb) (ld_of h.hb rfl (len_of (n := Ds.length) (by rw [h.ap.rowsO.lenA, rowsD_len]) ?_)))))
  have := hdecls_loop (R := R) h hd hro hrt (Post := fun v s' => RowsO v (rowsD Ds) ∧ s'.bs = s.bs ∧ KeepT s.ts s'.ts) (fun v s' h1 h2 h3 => ⟨h1, h2, h3⟩) Ds.length 0 [] s.ts (.capped []) (by omega) (.inl rfl) (fun t ht => by cases ht) (KeepT.refl _)
  simpa using this
theorem st_eql {x y : List UInt8} {K : AV → Prop} (h : K (BB (x == y))) : wStr .eql (SS x) (SS y) K := by
  simp only [wStr]
  simpa [bytesEq_iff] using h
theorem st_neq {x y : List UInt8} {K : AV → Prop} (h : K (BB (x != y))) : wStr .neq (SS x) (SS y) K := by
  simp only [wStr]
  simpa [bytesEq_iff, bne] using h
theorem anc_loop {s0 : Sto} (h0 : HS s0 p b Ds a) (hT : Tree Ds) {nm : List UInt8} (hnm : nm ≠ [65, 110, 121]) {L : Lim} (hro : L.ro = 0) :
    ∀ (f q : Nat) (e : Dc), Ds[q]? = some e → q < f → P11_1 R 0 L.ro L.rt (.ptr p 0) (SS nm) (.ptr s0.bs.length 0) (BB true) ⟨s0.bs ++ [(rowD e).map AV.pv], s0.ts⟩ (QM (L.rr 11) s0.bs.length fun v s' => v = BB (up Ds nm f e) ∧ s' = s0) := by
  intro f
  induction f with
  | zero => intro q e _ h; omega
  | succ f ih =>
    intro q e hq hf
    have g := get_last s0.bs ((rowD e).map AV.pv)
    have hh := h0.push (c := (rowD e).map AV.pv) (by obtain ⟨es, hes, hed⟩ := DRep.of_row e; cases hes; exact hed.ok.2.2.1 _)
    have hsu := hT q e hq
    have fin : ∀ v : Bool, QM (L.rr 11) s0.bs.length (fun r s' => r = BB v ∧ s' = s0) (BB v) ⟨s0.bs ++ [(rowD e).map AV.pv], s0.ts⟩ := fun v => QM_read h0.ok (p := .sc (.bool v)) (Post := fun r s' => r = BB v ∧ s' = s0) ⟨rfl, rfl⟩
    have hany : (nm == [UInt8.ofNat 65, UInt8.ofNat 110, UInt8.ofNat 121]) = false := by
      have : ([UInt8.ofNat 65, UInt8.ofNat 110, UInt8.ofNat 121] : List UInt8) = [65, 110, 121] := rfl
      rw [this]
      simpa using hnm
    obtain ⟨en, ear, ⟨k, n, i, ts⟩, eco, efs⟩ := e
    have al : alive ⟨s0.bs ++ [(rowD ⟨en, ear, .mk k n i ts, eco, efs⟩).map AV.pv], s0.ts⟩ s0.bs.length = true := al_of (c := SS en) (cs := ((rowD ⟨en, ear, .mk k n i ts, eco, efs⟩).map AV.pv).tail) g
    refine p11_1 (gk_t (fad_of al (gk_t (ld_of (v := SS en) g rfl (gk_t (gk_t (st_neq (pk ?_))))))))
    cases hne : (en != nm) with
    | false =>
      have he : (en == nm) = true := by simpa [bne] using hne
      refine gk_ft (gk_ft (gk_ft (gk_ft (pk (co_f ?_)))))
      refine p11_3 (gk_t (fad_of al (gk_t (ld_of (v := SS en) g rfl (gk_t (gk_t (st_eql ?_)))))))
      rw [he]
      have e1 : up Ds nm (f + 1) ⟨en, ear, .mk k n i ts, eco, efs⟩ = true := by simp [up, he]
      rw [e1]
      exact gk_t (gk_tf (gk_tf (gk_t (pk (pk (fin true))))))
    | true =>
      have he : (en == nm) = false := by simpa [bne] using hne
      refine gk_t (fad_of al (gk_t (fad_of al (gk_t (ld_of (v := I64 k) g rfl (gk_t (in_eql (pk ?_))))))))
      rcases hsu with hsu | ⟨n', ts', q', e', hsu, hq', hen, hlt, _⟩
      · simp only [Ty.mk.injEq] at hsu
        obtain ⟨rfl, rfl, rfl, rfl⟩ := hsu
        have e1 : up Ds nm (f + 1) ⟨en, ear, .mk 0 [] 0 [], eco, efs⟩ = false := by simp [up, he]
        rw [e1]
        refine co_f (p11_3 (gk_t (fad_of al (gk_t (ld_of (v := SS en) g rfl (gk_t (gk_t (st_eql ?_))))))))
        rw [he]
        refine gk_t (gk_t (gk_t (st_eql ?_)))
        rw [hany]
        exact gk_t (pk (pk (fin false)))
      · simp only [Ty.mk.injEq] at hsu
        obtain ⟨rfl, rfl, rfl, rfl⟩ := hsu
        have hF := find_some (R := R) hh hq' (L := LFE (env R) 11 0 L.ro L.rt) (by simp [LFE, hro])
        have hfi := find_at h0.nd hq'
        rw [hen] at hF hfi
        have e1 : up Ds nm (f + 1) ⟨en, ear, .mk 2 n 0 ts, eco, efs⟩ = up Ds nm f e' := by simp [up, he, hfi]
        rw [e1]
        obtain ⟨es, hes, hed⟩ := DRep.of_row e'
        cases hes
        obtain ⟨w1, w2, _⟩ := hed.ok
        refine co_t (p11_2 (fad_of al (fad_of al (ld_of (v := SS n) g rfl ⟨_, _, hF, ex_of rfl (ex_of rfl ?_)⟩))))
        refine st_all g w2 (by simp [rowD_len]) (by decide) (by simp [LFE, hro]) w1 (.inl (Nat.zero_le _)) ?_
        simp only [set_last]
        exact ih q' e' hq' (by omega)
theorem isAncestor_spec {s : Sto} (h : HS s p b Ds a) (hT : Tree Ds) {nm : List UInt8} (hnm : nm ≠ [65, 110, 121]) {q : Nat} {e : Dc} (hq : Ds[q]? = some e) {L : Lim} (hro : L.ro = 0) : CallE (env R) L 11 [.ptr p 0, SS nm, SS e.nm] s (BB (up Ds nm 61 e)) s := by
  have hl := h.ln
  have hqq := (List.getElem?_eq_some_iff.1 hq).1
  obtain ⟨es, hes, hed⟩ := DRep.of_row e
  cases hes
  obtain ⟨w1, w2, _⟩ := hed.ok
  refine rdc (m11 (by rfl) (p11_0 ⟨_, _, find_some h hq (by simp [LFE, hro]), ex_of rfl (ex_of rfl (new_of ?_))⟩))
  refine st_all (get_last _ _) w2 rfl (by decide) (by simp [LFE, hro]) w1 (.inl (Nat.zero_le _)) ?_
  simp only [set_last]
  exact anc_loop h hT hnm hro 61 q e hq (by omega)
end
end Go.Proofs.YtcmeadgdojfhnaaGreatDoor
