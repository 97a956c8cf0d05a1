/-
  Closed calls: Expand, CovariantVars, check.
-/
import Derived.Test.YtcmeadgdojfhnaaGreatDoorTE
import Derived.Test.YtcmeadgdojfhnaaGreatDoorCk
set_option linter.unusedSimpArgs false
set_option linter.unusedVariables false
namespace Go.Proofs.YtcmeadgdojfhnaaGreatDoor
open Go.Tel
abbrev allN : List (List UInt8) := builtIn.map (·.nm) ++ (baseD.map (·.nm) ++ XW)
section
variable {R : RT}
theorem cov_ev2 {n : List UInt8} : pureV (env R) 60 79 [.agg ((bRow (.mk 2 n 0 [])).map .pv)] = some (.capped []) := by kernel_rfl
theorem cov_ev0 : pureV (env R) 60 79 [.agg ((bRow (.mk 0 [] 0 [])).map .pv)] = some (.capped []) := by kernel_rfl
theorem cov_ev3 {n : List UInt8} : pureV (env R) 60 79 [.agg ((bRow (.mk 3 [] 0 [.mk 2 n 0 []])).map .pv)] = some (.capped []) := by kernel_rfl
theorem cov_of {t : Ty} (h : pureV (env R) 60 79 [.agg ((bRow t).map .pv)] = some (.capped [])) : PureC (env R) 79 [.agg ((bRow t).map .pv)] fun v => RowsA v [] := by
  obtain ⟨k, n, i, ts⟩ := t
  exact ⟨_, .capped [], fun L s => CallE.of_some (callN_pure (args' := [.agg ((bRow (.mk k n i ts)).map .pv)]) (by kernel_rfl) (by kernel_rfl) (by simp [closeL, close, bRow, rowT]) rfl h L s)⟩
theorem exp_any_ev : pureV (env R) 60 24 [.agg [I64 0, SS [], I64 0, .capped []]] = some (.tuple [.pv (.list [bRow (.mk 0 [] 0 [])]), I64 0]) := by kernel_rfl
theorem exp_any : ExpOk R (.agg [I64 0, SS [], I64 0, .capped []]) (.mk 0 [] 0 []) :=
  ⟨_, ⟨_, rfl, .list _⟩, fun L s => CallE.of_some (callN_pure (args' := [.agg [I64 0, SS [], I64 0, .capped []]]) (by kernel_rfl) (by kernel_rfl) (by simp [closeL, close]) rfl exp_any_ev L s)⟩
theorem exp_nm_ev : ∀ n ∈ allN, pureV (env R) 60 24 [.agg [I64 2, SS n, I64 0, .capped []]] = some (.tuple [.pv (.list [bRow (.mk 2 n 0 [])]), I64 0]) := by
  simp only [allN, builtIn, baseD, List.map_cons, List.map_nil, List.cons_append, List.nil_append, List.forall_mem_cons, List.not_mem_nil, false_implies, implies_true, and_true]
  refine ⟨?_, ?_, ?_, ?_, ?_, ?_, ?_, ?_, ?_, ?_, ?_, ?_, ?_, ?_, ?_, ?_⟩
  all_goals kernel_rfl
theorem exp_nm {n : List UInt8} (hn : n ∈ allN) : ExpOk R (.agg [I64 2, SS n, I64 0, .capped []]) (.mk 2 n 0 []) :=
  ⟨_, ⟨_, rfl, .list _⟩, fun L s => CallE.of_some (callN_pure (args' := [.agg [I64 2, SS n, I64 0, .capped []]]) (by kernel_rfl) (by kernel_rfl) (by simp [closeL, close]) rfl (exp_nm_ev n hn) L s)⟩
theorem exp_tup_ev : ∀ n ∈ allN, pureV (env R) 60 24 [.agg [I64 3, SS [], I64 0, .capped [rowT (.mk 2 n 0 [])]]] = some (.tuple [.pv (.list [bRow (.mk 3 [] 0 [.mk 2 n 0 []])]), I64 0]) := by
  simp only [allN, builtIn, baseD, List.map_cons, List.map_nil, List.cons_append, List.nil_append, List.forall_mem_cons, List.not_mem_nil, false_implies, implies_true, and_true]
  refine ⟨?_, ?_, ?_, ?_, ?_, ?_, ?_, ?_, ?_, ?_, ?_, ?_, ?_, ?_, ?_, ?_⟩
  all_goals kernel_rfl
theorem exp_tup {n : List UInt8} (hn : n ∈ allN) : ExpOk R (.agg [I64 3, SS [], I64 0, .capped [rowT (.mk 2 n 0 [])]]) (.mk 3 [] 0 [.mk 2 n 0 []]) :=
  ⟨_, ⟨_, rfl, .list _⟩, fun L s => CallE.of_some (callN_pure (args' := [.agg [I64 3, SS [], I64 0, .capped [rowT (.mk 2 n 0 [])]]]) (by kernel_rfl) (by kernel_rfl) (by simp [closeL, close]) rfl (exp_tup_ev n hn) L s)⟩
theorem check_spec : PureC (env R) 8 [] fun v => v = BB true :=
  ⟨_, rfl, fun L s => CallE.of_some (callN_pure (args' := []) (by kernel_rfl) (by kernel_rfl) (by simp [closeL]) rfl check_ev L s)⟩
end
end Go.Proofs.YtcmeadgdojfhnaaGreatDoor
/-
  The law SubtypeNominal.
-/
namespace Go.Proofs.YtcmeadgdojfhnaaGreatDoor
open Go.Tel
attribute [local simp] wNew wBox wBoxZ markT wCond wBuild fillS wO setCells wSt wLd wPart LFE wFad alive wInt wStr wGK wGd wPick wExt wLen wSlen wNot wNil okI ceI okB ceB okS ceS okL ceL okC ceC okO ceO okP ceP okG ceG okE ceE okR ceR okF ceF okX ceX okM ceM okN ceN okNf ceNf okNi ceNi ceA roL roC roO leL leC leO tpP tpC tpO clP clC clO clF clA clT clN clL nbP nbC nbO nbN nbL toPVs
theorem ext_names {L ext : List Dc} (h : ExtOk L ext) : ext.map (·.nm) = XW.take ext.length := by
  apply List.ext_getElem?
  intro i
  by_cases hi : i < ext.length
  · obtain ⟨d, hd⟩ : ∃ d, ext[i]? = some d := ⟨_, List.getElem?_eq_getElem hi⟩
    obtain ⟨w, hw, hx⟩ := h i d hd
    rw [List.getElem?_map, hd, List.getElem?_take]
    simp [hi, hw, hx.nm]
  · rw [List.getElem?_eq_none (by simpa using hi), List.getElem?_eq_none (by rw [List.length_take]; omega)]
theorem all_names {ext : List Dc} (h : ExtOk baseD ext) : (builtIn ++ (baseD ++ ext)).map (·.nm) = builtIn.map (·.nm) ++ (baseD.map (·.nm) ++ XW.take ext.length) := by
  rw [List.map_append, List.map_append, ext_names h]
theorem names_sub {ext : List Dc} (h : ExtOk baseD ext) : ((builtIn ++ (baseD ++ ext)).map (·.nm)).Sublist allN := by
  rw [all_names h]
  exact (List.Sublist.refl _).append ((List.Sublist.refl _).append (List.take_sublist _ _))
theorem allN_nd : allN.Nodup := by decide
theorem allN_any : ∀ n ∈ allN, n ≠ [65, 110, 121] := by decide
section
variable {R : RT}
theorem tuple_spec {rows : List (List PV)} : PureC (env R) 13 [.capped rows] fun r => r = .agg [I64 3, SS [], I64 0, .capped rows] := by
  refine e13 (u0 := .capped rows) (by simp [closeL, close]) (p13_0 (new_of (bd_of (cs := [I64 3, SS [], I64 0, .capped rows]) (by simp) ?_)))
  refine st_all (old := Z4) rfl rfl rfl (by decide) (Nat.zero_le _) (by simp) (.inl (Nat.zero_le _)) (ldk_of (cs := [I64 3, SS [], I64 0, .capped rows]) rfl rfl ?_)
  exact ⟨_, by simp, rfl⟩
theorem strRow1 (l m : List (List UInt8)) : strRows (l ++ m) = strRows l ++ strRows m := by simp [strRows]
def nm0 (l : List Dc) : List (List UInt8) := (l.filter fun d => d.ar == 0).map (·.nm)
theorem names_loop {Ds : List Dc} (hl : Ds.length ≤ 60) {all : AV} (ha : RowsO all (rowsD Ds)) {t1 t2 h ok : AV} {bs : List (List AV)} {ts0 : List (Nat × Nat)} {QR : QT} (K : ∀ a ts, KeepT ts0 ts → RowsO a (strRows (nm0 Ds)) → P3_3 R 0 0 0 t1 t2 h ok a ⟨bs, ts⟩ QR) :
    ∀ (j q : Nat) (a : AV) (ts : List (Nat × Nat)), q + j = Ds.length → Apd 0 ts 9 a (strRows (nm0 (Ds.take q))) → Fresh a ts0 → KeepT ts0 ts → P3_1 R 0 0 0 t1 t2 h ok a all (I64 q) ⟨bs, ts⟩ QR := by
  have hlen := rowsD_len Ds
  intro j
  induction j with
  | zero =>
    intro q a ts hq hA hF hK
    refine p3_1 (len_of (n := Ds.length) (by rw [ha.lenA, hlen]) (in_lss ?_))
    rw [decide_eq_false (by omega)]
    rw [List.take_of_length_le (by omega)] at hA
    exact co_f (K a ts hK hA.rowsO)
  | succ j ih =>
    intro q a ts hq hA hF hK
    refine p3_1 (len_of (n := Ds.length) (by rw [ha.lenA, hlen]) (in_lss ?_))
    rw [decide_eq_true (by omega)]
    obtain ⟨d, hd⟩ : ∃ d, Ds[q]? = some d := ⟨_, List.getElem?_eq_getElem (by omega)⟩
    have hrow : (rowsD Ds)[((q : Nat) : Int).toNat]? = some (rowD d) := by simpa using rowsD_get hd
    have hr1 : (rowD d)[1]? = some (.sc (.int .i64 d.ar)) := rfl
    have hr0 : (rowD d)[0]? = some (.sc (.string ⟨d.nm.toArray⟩)) := rfl
    have et : Ds.take (q + 1) = Ds.take q ++ [d] := by rw [List.take_add_one, hd]; rfl
    have hnl : (nm0 (Ds.take q)).length ≤ q := by
      unfold nm0
      rw [List.length_map]
      refine Nat.le_trans (List.length_filter_le _ _) ?_
      rw [List.length_take]
      omega
    refine co_t (p3_2 (wIdx_rowsO ha (row := rowD d) (by omega) hrow (rowD_len d) (by omega) (fad_eptr (ld_eptr hr1 (in_eql ?_)))))
    cases h0 : ((d.ar : Int) == 0) with
    | false =>
      have h0' : (d.ar == 0) = false := by
        have : (d.ar : Int) ≠ 0 := by simpa using h0
        simp; omega
      refine co_f (p3_4 (in_add (by omega) (by omega) ?_))
      have := ih (q + 1) a ts (by omega) (by rw [et]; simpa [nm0, List.filter_append, h0'] using hA) hF hK
      simpa using this
    | true =>
      have h0' : (d.ar == 0) = true := by
        have : (d.ar : Int) = 0 := by simpa using h0
        simp; omega
      have en : nm0 (Ds.take (q + 1)) = nm0 (Ds.take q) ++ [d.nm] := by rw [et]; simp [nm0, List.filter_append, h0']
      refine co_t (wIdx_rowsO ha (row := rowD d) (by omega) hrow (rowD_len d) (by omega) (fad_eptr (ld_eptr hr0 ?_)))
      have hsl : (strRows (nm0 (Ds.take q))).length ≤ q := by rw [strRows_len]; exact hnl
      have hs1 : ∀ (l : List (List UInt8)), ∀ r ∈ strRows l, r.length = 1 := by
        intro l r hr
        simp only [strRows, List.mem_map] at hr
        obtain ⟨w, _, rfl⟩ := hr
        rfl
      have hbs : ∀ K : AV → Sto → Prop, K (.capped (strRows [d.nm])) ⟨bs, ts⟩ → wBsl false ⟨bs, ts⟩ 1 [SS []] 1 [(0, 1, SS d.nm)] K := by
        intro K hK
        simpa [wBsl, repl, rowsBy, strRows] using hK
      refine hbs _ ⟨by decide, wApp_k (rows := strRows (nm0 (Ds.take q))) (m := strRows [d.nm]) hA rfl (hs1 _) (hs1 _) (by omega) (srcCells_rows (.inl (.capped _)) (hs1 _)) (by simp [strRows]) (by rw [strRows_len [d.nm]]; simp only [List.length_cons, List.length_nil]; omega) (by rw [strRows_len [d.nm]]; simp only [List.length_cons, List.length_nil]; omega) ?_⟩
      intro a' ts' hA' hch
      obtain ⟨hK', hF'⟩ := Chg.keepT hch hF hK
      refine p3_4 (in_add (by omega) (by omega) ?_)
      have := ih (q + 1) a' ts' (by omega) (by rw [en, strRow1]; exact hA') hF' hK'
      simpa using this
theorem nm0_mem {Ds : List Dc} {n : List UInt8} (h : n ∈ nm0 Ds) : ∃ (q : Nat) (e : Dc), Ds[q]? = some e ∧ e.nm = n ∧ e.ar = 0 := by
  simp only [nm0, List.mem_map, List.mem_filter, beq_iff_eq] at h
  obtain ⟨e, ⟨he, h0⟩, hn⟩ := h
  obtain ⟨q, hq⟩ := List.mem_iff_getElem?.1 he
  exact ⟨q, e, hq, hn, h0⟩
theorem law_end {Ds : List Dc} (hD : DsOk Ds) (hsub : (Ds.map (·.nm)).Sublist allN) (hpos : 0 < (nm0 Ds).length) {i k : Int} {p b : Nat} {a : AV} {s : Sto} (hH : HS s p b Ds a) {ns : AV} (hns : RowsO ns (strRows (nm0 Ds))) :
    P3_3 R 0 0 0 (I64 i) (I64 k) (.ptr p 0) (BB true) ns s (QP fun v => v = BB true) := by
  have hll : (nm0 Ds).length ≤ 16 := by
    have := hD.ln
    unfold nm0
    rw [List.length_map]
    exact Nat.le_trans (List.length_filter_le _ _) this
  have hlen := strRows_len (nm0 Ds)
  refine p3_3 (len_of (n := (nm0 Ds).length) (by rw [hns.lenA, hlen]) ?_)
  refine wCall_pure (mod_spec i (nm0 Ds).length (by omega) (by omega)) ?_
  rintro _ ⟨r, rfl, hr0, hr1⟩
  obtain ⟨x, hx⟩ : ∃ x, (nm0 Ds)[r.toNat]? = some x := ⟨_, List.getElem?_eq_getElem (by omega)⟩
  obtain ⟨qa, ea, hqa, hna, ha0⟩ := nm0_mem (List.mem_of_getElem? hx)
  have hrx : (strRows (nm0 Ds))[r.toNat]? = some [.sc (.string ⟨x.toArray⟩)] := strRows_get hx
  refine wIdx_rowsO hns (row := [.sc (.string ⟨x.toArray⟩)]) hr0 hrx rfl (by omega) (ld_eptr (v := .sc (.string ⟨x.toArray⟩)) rfl ?_)
  refine len_of (n := (nm0 Ds).length) (by rw [hns.lenA, hlen]) ?_
  refine wCall_pure (mod_spec k (nm0 Ds).length (by omega) (by omega)) ?_
  rintro _ ⟨r2, rfl, hr2, hr3⟩
  obtain ⟨y, hy⟩ : ∃ y, (nm0 Ds)[r2.toNat]? = some y := ⟨_, List.getElem?_eq_getElem (by omega)⟩
  obtain ⟨qb, eb, hqb, hnb, hb0⟩ := nm0_mem (List.mem_of_getElem? hy)
  refine wIdx_rowsO hns (row := [.sc (.string ⟨y.toArray⟩)]) hr2 (strRows_get hy) rfl (by omega) (ld_eptr (v := .sc (.string ⟨y.toArray⟩)) rfl ?_)
  refine ⟨wIdx_rowsO hns (row := [.sc (.string ⟨x.toArray⟩)]) hr0 hrx rfl (by omega) (eqA_eptrS x), ld_eptr (v := .sc (.string ⟨x.toArray⟩)) rfl (eqA_SS x), len_of (n := (nm0 Ds).length) (by rw [hns.lenA, hlen]) (eqA_I64 _), ?_⟩
  subst hna hnb
  have memA : ea.nm ∈ allN := hsub.subset (List.mem_map.2 ⟨ea, List.mem_of_getElem? hqa, rfl⟩)
  have memB : eb.nm ∈ allN := hsub.subset (List.mem_map.2 ⟨eb, List.mem_of_getElem? hqb, rfl⟩)
  have ar0 : ∀ (m : Nat) (e : Dc), Ds[m]? = some e → e.ar = 0 → ∀ (q : Nat) (f : Dc), Ds[q]? = some f → f.nm = e.nm → f.ar = 0 := by
    intro m e hm h0 q f hq hn
    by_cases e1 : q = m
    · rw [e1, hm] at hq
      cases hq
      exact h0
    · exact absurd hn (nd_ne hH.nd hq hm e1)
  have c4 : ∀ n : List UInt8, [I64 2, SS n, I64 0, AV.capped []].all okCell = true := fun n => rfl
  have q1 := isSubtype_spec (R := R) (ok := up Ds eb.nm 61 ea) (t := .mk 2 ea.nm 0 []) (x := [I64 2, SS ea.nm, I64 0, .capped []]) rfl rfl (fun n => rfl) (exp_nm memA) (fun s h L hro => supertype_spec h hD eb.nm hqa ha0 (TRep.of_row _) hro) (ar0 qb eb hqb hb0) (cov_of cov_ev2) (exp_nm memB) hH
  have q2 := isSubtype_spec (R := R) (ok := false) (t := .mk 0 [] 0 []) (x := [I64 0, SS [], I64 0, .capped []]) rfl rfl (fun n => rfl) exp_any (fun s h L hro => supertype_no h ea.nm (by decide) (TRep.of_row (.mk 0 [] 0 [])) hro) (ar0 qa ea hqa ha0) (cov_of cov_ev0) (exp_nm memA) hH
  have q3 := isSubtype_spec (R := R) (ok := false) (t := .mk 3 [] 0 [.mk 2 ea.nm 0 []]) (x := [I64 3, SS [], I64 0, .capped [rowT (.mk 2 ea.nm 0 [])]]) rfl rfl (fun n => rfl) (exp_tup memA) (fun s h L hro => supertype_no h eb.nm (by decide) (TRep.of_row (.mk 3 [] 0 [.mk 2 ea.nm 0 []])) hro) (ar0 qb eb hqb hb0) (cov_of cov_ev3) (exp_nm memB) hH
  obtain ⟨_, rfl, q1⟩ := q1
  obtain ⟨_, rfl, q2⟩ := q2
  obtain ⟨_, rfl, q3⟩ := q3
  have q4 := isAncestor_spec (R := R) hH hD.tr (allN_any _ memB) hqa (L := LFE (env R) 3 0 0 0) rfl
  have nmS := fun n : List UInt8 => namedA_spec (R := R) (n := n) (a := .capped []) (rows := []) (.capped [])
  refine wCall_pure check_spec ?_
  rintro _ rfl
  refine gk_t (pk ?_)
  refine gk_t (gk_t (gk_t (wCall_pure (nmS ea.nm) ?_)))
  rintro _ rfl
  refine gk_t (gk_t (wCall_pure (nmS eb.nm) ?_))
  rintro _ rfl
  refine gk_t ⟨_, _, q1 _, gk_t (gk_t (gk_t (gk_t ⟨_, _, q4, gk_t (bo_eql ?_)⟩)))⟩
  rw [show (up Ds eb.nm 61 ea == up Ds eb.nm 61 ea) = true by simp]
  refine pk (gk_t (gk_t (wCall_pure rAny_spec ?_)))
  rintro _ rfl
  refine gk_t (gk_t (wCall_pure (nmS ea.nm) ?_))
  rintro _ rfl
  refine gk_t ⟨_, _, q2 _, gk_t (nt (pk ?_))⟩
  refine gk_t (gk_t (gk_t (wCall_pure (nmS ea.nm) ?_)))
  rintro _ rfl
  refine gk_t (bsl_ty (t := .mk 2 ea.nm 0 []) ⟨.capped [], rfl, .inl (.capped _)⟩ (gk_t (wCall_pure tuple_spec ?_)))
  rintro _ rfl
  refine gk_t (gk_t (wCall_pure (nmS eb.nm) ?_))
  rintro _ rfl
  exact gk_t ⟨_, _, q3 _, gk_t (nt (pk ⟨_, clP, rfl⟩))⟩
theorem law3_spec (l : List Int) (hl : l.length < 2 ^ 50) (i k : Int) : PureC (env R) 3 [.pv (.list (intRows l)), I64 i, I64 k] fun v => v = BB true := by
  refine e3 (u0 := .pv (.list (intRows l))) (u1 := I64 i) (u2 := I64 k) (by simp [closeL, close]) (p3_0 (wCall_pure (decls_spec l hl) ?_))
  rintro dv ⟨ext, hdv, hE, hel⟩
  have hS := seq_ext seq_base ext hE
  have hsub := names_sub hE
  have hnd := hsub.nodup allN_nd
  have h12 : (baseD ++ ext).length ≤ 12 := by simp [baseD]; omega
  have hD := seq_ok hS hnd h12
  refine wCall_do (hierarchies_spec (seq_dok hS hnd) h12 hdv (L := LFE (env R) 3 0 0 0) rfl rfl rfl) ?_
  rintro _ s ⟨u, v, rfl, p, b, q, a, a', rfl, rfl, h1, h2, hH, hR⟩
  refine ex_of rfl (ex_of rfl (ex_of rfl ?_))
  refine wCall_do (rdecls_spec hR (L := LFE (env R) 3 0 0 0) rfl) ?_
  rintro all ⟨bs1, ts1⟩ ⟨hall, _, rfl, hK⟩
  simp only at hall hK
  have hpos : 0 < (nm0 (builtIn ++ (baseD ++ ext))).length := by simp [nm0, builtIn]
  refine names_loop (by have := hR.ln; exact this) hall.rowsO (ts0 := ts1) (fun ns ts2 hK2 hns => ?_) (builtIn ++ (baseD ++ ext)).length 0 (.capped []) ts1 (by omega) (.inl rfl) (fun t ht => by cases ht) (KeepT.refl _)
  exact law_end hD hsub hpos (HS.keepT (s' := ⟨s.bs, ts2⟩) hH rfl (hK.trans hK2)) hns
end
end Go.Proofs.YtcmeadgdojfhnaaGreatDoor
